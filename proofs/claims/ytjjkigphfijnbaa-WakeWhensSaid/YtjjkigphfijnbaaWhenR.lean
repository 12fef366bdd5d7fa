/- The walks through coneyref18.has, When. -/
import Derived.Test.YtjjkigphfijnbaaDif2
import Derived.Test.YtjjkigphfijnbaaWhen0
namespace Go.Proofs.Ytjjkigphfijnbaa
open Go.RowKit
attribute [local go_sem ↓] Go.wp_at_zero Go.wp_at_succ

set_option maxRecDepth 100000 in
set_option maxHeartbeats 4000000 in
theorem has18_any {ns : List Int} {A : Option Addr} {c : Nat} {w : World} (ha : IRow w (.slice A ns.length c) ns) (hl : ns.length ≤ 1000000) (x : Int) {b : Bool} (hb : b = true ↔ x ∈ ns) :
    Calls Try.prog 49 #[.slice A ns.length c, .int .i64 x] w fun e w' => e = .returned (.bool b) ∧ Below w.heap.size w w' := by
  obtain ⟨_, _, e1, ha1, ha2, hax⟩ := ha.open_
  injection e1 with e1 _ e2
  subst e1; subst e2
  have HA := Lib.hid hax
  have HB := Lib.hid hb
  clear hax ha ha2 hb
  go_enter Try.func49, Try.ntmps49
  go_wp2_with fail
  go_loopw [4, 5] (fun _ iv wr => ∃ i : Nat, iv = .int .i64 (i : Int) ∧ i ≤ ns.length ∧ (∀ q, q < i → ns[q]? ≠ some x) ∧ Below w.heap.size w wr) (fun _ iv _ => ns.length - (intOf iv).toNat)
  case atStart => exact ⟨0, rfl, Nat.zero_le _, fun q hq => absurd hq (by omega), Below.refl _ _⟩
  case round =>
    obtain ⟨i, rfl, hi, hq, hb⟩ := hrel
    have HQ := Lib.hid hq
    have HW := Lib.hid hb
    clear hb hq
    by_cases him : i < ns.length
    · have him' : (i : Int) < (ns.length : Int) := by omega
      obtain ⟨y, hy⟩ : ∃ y, ns[i]? = some y := ⟨_, List.getElem?_eq_getElem him⟩
      obtain ⟨ga, rfl, hgl, ca⟩ := HA.out i y hy
      have da := (HW.out.cell (p := ⟨ga, i, none⟩) hgl).trans ca
      have HY := Lib.hid hy
      clear ca hy
      cases hyx : (y == x) with
      | true =>
        have E := Lib.hid (show b = true from HB.out.mpr (by have h9 : y = x := (by simpa using hyx); rw [← h9]; exact List.mem_of_getElem? HY.out))
        go_wp2_with fail
        go_ret
        exact ⟨by rw [E.out]; rfl, HW.out⟩
      | false =>
        have hne : y ≠ x := by simpa using hyx
        have HN := Lib.hid hne
        clear hne
        go_wp2_with fail
        go_roundw
        case rel => exact ⟨i + 1, by go_num, him, fun q hq h => by
          rcases Nat.lt_or_ge q i with h1 | h1
          · exact HQ.out q h1 h
          · obtain rfl : q = i := by omega
            rw [HY.out] at h
            injection h with h
            exact HN.out h, HW.out⟩
        case measure => simp [intOf]; omega
    · have him' : ¬ (i : Int) < (ns.length : Int) := by omega
      have E := Lib.hid (show b = false from by
        cases b with
        | false => rfl
        | true =>
          obtain ⟨q, hq⟩ := List.getElem?_of_mem (HB.out.mp rfl)
          exact absurd hq (HQ.out q (by
            rcases Nat.lt_or_ge q ns.length with h | h
            · omega
            · rw [List.getElem?_eq_none h] at hq; cases hq)))
      go_wp2_with fail
      go_ret
      exact ⟨by rw [E.out]; rfl, HW.out⟩
theorem is_l {t : T} (hok : t.ok) {v : Value} {w : World} {S : Nat → Prop} (hv : TP w S t v) (nm : ByteArray) (l : List UInt8) (hl : nm.toList = l) (q : Nat) {b : Bool} (hb : b = true ↔ isT t l q) :
    Calls Try.prog 47 #[v, .string nm, .int .i64 (q : Int)] w fun e w' => e = .returned (.bool b) ∧ Below w.heap.size w w' := is_any hok hv nm q (by rw [hl]; exact hb)
def WhenP (p : Int × List Int) (w : World) (e : Ending) (w' : World) : Prop := (∃ A c, e = .returned (.tuple #[.int .i64 p.1, .slice A p.2.length c]) ∧ ORow w' w.heap.size (.slice A p.2.length c) p.2) ∧ Below w.heap.size w w'
/-- Where it stands: the box of the term, the row that is handed back empty. -/
structure RS (w wr : World) (cs : Array Value) (t : T) : Prop where
  box : wr.heap[w.heap.size]? = some (.cells cs 34 (0, 0))
  tp : TP wr (fun _ => True) t (.agg cs)
  out : wr.heap[w.heap.size + 1]? = some (.cells #[] 3 (0, 0))
  low : Below w.heap.size w wr
theorem RS.below {w wr w' : World} {cs : Array Value} {t : T} (h : RS w wr cs t) (hb : Below wr.heap.size wr w') : RS w w' cs t :=
  ⟨(hb.block _ (heap_lt h.box)).trans h.box, h.tp.below hb, (hb.block _ (heap_lt h.out)).trans h.out, h.low.trans (hb.mono h.low.size)⟩
theorem RS.own {w wr : World} {cs : Array Value} {t : T} (h : RS w wr cs t) : ORow wr w.heap.size (.slice (some ⟨w.heap.size + 1, 0, none⟩) 0 0) [] := ownsRow_more (ownsRow_empty _ _ 1 _ h.out) (Nat.le_succ _)
theorem RS.fin {w wr : World} {cs : Array Value} {t : T} (h : RS w wr cs t) (n : Int) : WhenP (n, []) w (.returned (.tuple #[.int .i64 n, .slice (some ⟨w.heap.size + 1, 0, none⟩) 0 0])) wr := ⟨⟨_, 0, rfl, h.own⟩, h.low⟩
set_option maxRecDepth 100000 in
set_option maxHeartbeats 16000000 in
theorem rwhen_any : ∀ (t : T), t.ok → ∀ (v : Value) (w : World) (S : Nat → Prop), TP w S t v →
    Calls Try.prog 32 #[v] w fun e w' => WhenP (whenT t) w e w' := by
  intro t
  induction t with
  | nil => exact fun h => h.1.elim
  | mk k n s m a ih =>
    intro hok v w S hv
    obtain ⟨A, c, rfl, hmc, hA, hx⟩ := hv
    have OK := Lib.hid hok
    have IH := Lib.hid ih
    have R := Lib.hid (show RS w ((w.alloc (Obj.cells #[.int .i64 k, .int .i64 n, .string s, .slice A m c] 34)).alloc (Obj.cells #[] 3)) #[.int .i64 k, .int .i64 n, .string s, .slice A m c] (.mk k n s m a) from
      ⟨(Below.heap_alloc _ _ _ (by simp)).trans (heap_alloc_new _ _), ((show TP w S (.mk k n s m a) (.agg #[.int .i64 k, .int .i64 n, .string s, .slice A m c]) from ⟨A, c, rfl, hmc, hA, hx⟩).more (S' := fun _ => True) fun _ _ => trivial).below (belA (belA (Below.refl _ _) _) _), (congrArg _ (by simp)).trans (heap_alloc_new _ _), belA (belA (Below.refl _ _) _) _⟩)
    obtain ⟨item, ii1, ii2, ii3, ii4⟩ := elInt8.hi
    clear hx hok ih hA
    cases hk1 : (k == 1) with
    | true =>
      have E := Lib.hid (show whenT (.mk k n s m a) = (-2, []) by rw [show k = 1 by simpa using hk1]; exact when_var)
      go_enter Try.func32, Try.ntmps32
      go_wp2_with fail
      go_ret2
      rw [E.out]
      exact R.out.fin _
    | false =>
      have K1 := Lib.hid (show k ≠ 1 by simpa using hk1)
      have isb : ∀ (nm : List UInt8) (q : Nat), ∃ b : Bool, b = true ↔ isT (.mk k n s m a) nm q := fun nm q => by
        by_cases h : isT (.mk k n s m a) nm q
        · exact ⟨true, fun _ => h, fun _ => rfl⟩
        · exact ⟨false, (fun h' => by cases h'), fun h' => absurd h' h⟩
      have isI : ∀ (nm : List UInt8) (q : Nat), 0 < q → (isT (.mk k n s m a) nm q ↔ m = q ∧ s.toList = nm) := fun nm q hq => by
        constructor
        · rintro ⟨k', n', s', a', e, _, hs⟩
          injection e with _ _ e3 e4 _
          subst e3; subst e4
          exact ⟨rfl, hs⟩
        · rintro ⟨rfl, hs⟩
          refine ⟨k, n, s, a, rfl, ?_, hs⟩
          have := OK.out.1.1
          omega
      obtain ⟨b1, hb1⟩ := isb nNonvar 1
      obtain ⟨b2, hb2⟩ := isb nGround 1
      obtain ⟨b3, hb3⟩ := isb [63, 61] 2
      obtain ⟨b4, hb4⟩ := isb [44] 2
      obtain ⟨b5, hb5⟩ := isb [59] 2
      have I1 := Lib.hid (hb1.trans (isI nNonvar 1 (by omega)))
      have I2 := Lib.hid (hb2.trans (isI nGround 1 (by omega)))
      have I3 := Lib.hid (hb3.trans (isI [63, 61] 2 (by omega)))
      have I4 := Lib.hid (hb4.trans (isI [44] 2 (by omega)))
      have I5 := Lib.hid (hb5.trans (isI [59] 2 (by omega)))
      have B1 := Lib.hid hb1
      have B2 := Lib.hid hb2
      have B3 := Lib.hid hb3
      have B4 := Lib.hid hb4
      have B5 := Lib.hid hb5
      have HISI := Lib.hid isI
      clear isb isI hb1 hb2 hb3 hb4 hb5
      go_enter Try.func32, Try.ntmps32
      obtain ⟨x0, x1, x2, x3⟩ := box4 R.out.box
      go_wp2_with fail
      refine (is_l OK.out R.out.tp ⟨#[110, 111, 110, 118, 97, 114]⟩ nNonvar (by simp [nNonvar]) 1 B1.out).mono ?_
      rintro e w1 ⟨rfl, h1⟩
      have R1 := Lib.hid (R.out.below h1)
      clear h1 x0 x1 x2 x3 R
      obtain ⟨x0, x1, x2, x3⟩ := box4 R1.out.box
      cases b1 with
      | true =>
        obtain ⟨rfl, hs⟩ := I1.out.mp rfl
        have HS := Lib.hid hs
        obtain ⟨_, _, _, _, _, _, hargs⟩ := R1.out.tp.args
        obtain ⟨b, u0, u1, u2, U0, um, uc, rfl, _, hbl, a0, a1, a2, a3, ta⟩ := hargs 0 (by omega)
        simp only [Nat.zero_mul, Nat.zero_add] at a0 a1 a2 a3
        have TA := Lib.hid ta
        have OA := Lib.hid (OK.out.arg (i := 0) (by omega))
        clear hargs hs ta
        cases hu : (u0 == 1) with
        | true =>
          have hu0 : (u0 != 1) = false := by simpa using hu
          obtain ⟨hv1, _, _⟩ := TA.out.kind OA.out (by simpa using hu)
          have E := Lib.hid (show whenT (.mk k n s 1 a) = (0, [u1]) by rw [when_nonvar K1.out HS.out, hv1])
          have O := Lib.hid R1.out.own
          have hs1 := R1.out.low.size
          clear hv1
          go_wp2_with (at_builtin; go_must (refine wpList_push _ rfl _ _ _ rfl elInt8 w.heap.size _ _ _ rfl (own_below O.out (belA (Below.refl _ _) _)) _ _ (.int .i64 u1) rfl (by simp [go_sem]) rfl (by simp) (by simp [maxLen]) (by simp; omega) ?_); intro v2 w2 hown2 hb2)
          obtain ⟨A2, c2, rfl, _⟩ := own_open hown2
          have O2 := Lib.hid (show ORow w2 w.heap.size (.slice A2 1 c2) [u1] from hown2)
          have BB := Lib.hid ((R1.out.low.trans ((belA (Below.refl _ _) (Obj.cells #[.int .i64 u1] 3)).mono hs1)).trans hb2)
          clear hown2 hb2
          go_wp2_with fail
          go_ret2
          rw [E.out]
          exact ⟨⟨A2, c2, rfl, O2.out⟩, BB.out⟩
        | false =>
          have hu0 : (u0 != 1) = true := by simpa using hu
          have hv1 := TA.out.novar (by simpa using hu)
          have E := Lib.hid (show whenT (.mk k n s 1 a) = (1, []) by rw [when_nonvar K1.out HS.out, hv1])
          clear hv1
          go_wp2_with fail
          go_ret2
          rw [E.out]
          exact R1.out.fin _
      | false =>
        go_wp2_with fail
        refine (is_l OK.out R1.out.tp ⟨#[103, 114, 111, 117, 110, 100]⟩ nGround (by simp [nGround]) 1 B2.out).mono ?_
        rintro e w2 ⟨rfl, h2⟩
        have R2 := Lib.hid (R1.out.below h2)
        clear h2 x0 x1 x2 x3 R1
        obtain ⟨x0, x1, x2, x3⟩ := box4 R2.out.box
        cases b2 with
        | true =>
          obtain ⟨rfl, hs⟩ := I2.out.mp rfl
          have HS := Lib.hid hs
          obtain ⟨_, _, _, _, _, _, hargs⟩ := R2.out.tp.args
          obtain ⟨b, u0, u1, u2, U0, um, uc, rfl, _, hbl, a0, a1, a2, a3, ta⟩ := hargs 0 (by omega)
          simp only [Nat.zero_mul, Nat.zero_add] at a0 a1 a2 a3
          have TA := Lib.hid ta
          have OA := Lib.hid (OK.out.arg (i := 0) (by omega))
          clear hargs hs ta
          go_wp2_with fail
          refine (vars_any (a 0) OA.out _ _ _ TA.out).mono ?_
          rintro e w3 ⟨⟨LA, lc, rfl, hl3⟩, h3⟩
          have R3 := Lib.hid (R2.out.below h3)
          have L3 := Lib.hid hl3.irow
          have hfew := varsT_few OA.out
          obtain ⟨l, hl⟩ : ∃ l, varsT (a 0) = l := ⟨_, rfl⟩
          have HL := Lib.hid hl
          rw [hl] at L3 hfew ⊢
          clear h3 hl3 hl x0 x1 x2 x3 a0 a1 a2 a3
          cases l with
          | nil =>
            have E := Lib.hid (show whenT (.mk k n s 1 a) = (1, []) by rw [when_ground K1.out HS.out, HL.out])
            go_wp2_with fail
            go_ret2
            rw [E.out]
            exact R3.out.fin _
          | cons x l =>
            have E := Lib.hid (show whenT (.mk k n s 1 a) = (0, [x]) by rw [when_ground K1.out HS.out, HL.out])
            obtain ⟨_, _, e1, _, _, hlx⟩ := L3.out.open_
            injection e1 with e1 _ e2
            subst e1; subst e2
            obtain ⟨gl, rfl, hgll, cl⟩ := hlx 0 x rfl
            have hz : (((x :: l).length : Int) == 0) = false := by rw [beq_eq_false_iff_ne]; simp; omega
            have hlen : (0 : Int) < ((x :: l).length : Int) := by simp <;> omega
            have O := Lib.hid R3.out.own
            have hs1 := R3.out.low.size
            obtain ⟨ll, hll⟩ : ∃ ll, (x :: l).length = ll := ⟨_, rfl⟩
            rw [hll] at hz hlen ⊢
            clear hlx hll
            go_wp2_with (at_builtin; go_must (refine wpList_push _ rfl _ _ _ rfl elInt8 w.heap.size _ _ _ rfl (own_below O.out (belA (Below.refl _ _) _)) _ _ (.int .i64 x) rfl (by simp [go_sem]) rfl (by simp) (by simp [maxLen]) (by simp; omega) ?_); intro v4 w4 hown4 hb4)
            obtain ⟨A2, c2, rfl, _⟩ := own_open hown4
            have O2 := Lib.hid (show ORow w4 w.heap.size (.slice A2 1 c2) [x] from hown4)
            have BB := Lib.hid ((R3.out.low.trans ((belA (Below.refl _ _) (Obj.cells #[.int .i64 x] 3)).mono hs1)).trans hb4)
            clear hown4 hb4 cl
            go_wp2_with fail
            go_ret2
            rw [E.out]
            exact ⟨⟨A2, c2, rfl, O2.out⟩, BB.out⟩
        | false =>
          go_wp2_with fail
          refine (is_l OK.out R2.out.tp ⟨#[63, 61]⟩ [63, 61] (by simp) 2 B3.out).mono ?_
          rintro e w3 ⟨rfl, h3⟩
          have R3 := Lib.hid (R2.out.below h3)
          clear h3 x0 x1 x2 x3 R2
          obtain ⟨x0, x1, x2, x3⟩ := box4 R3.out.box
          cases b3 with
          | true =>
            obtain ⟨rfl, hs⟩ := I3.out.mp rfl
            have HS := Lib.hid hs
            have O0 := Lib.hid (OK.out.arg (i := 0) (by omega))
            have O1 := Lib.hid (OK.out.arg (i := 1) (by omega))
            obtain ⟨_, _, _, _, _, _, hargs⟩ := R3.out.tp.args
            obtain ⟨b, u0, u1, u2, U0, um, uc, rfl, _, hbl, a0, a1, a2, a3, ta⟩ := hargs 0 (by omega)
            obtain ⟨b', v0, v1, v2, V0, vm, vc, e9, _, _, d0, d1, d2, d3, tb⟩ := hargs 1 (by omega)
            injection e9 with e9
            injection e9 with e9 _ _
            subst e9
            simp only [Nat.zero_mul, Nat.zero_add, Nat.one_mul] at a0 a1 a2 a3 d0 d1 d2 d3
            have TA := Lib.hid ta
            have TB := Lib.hid tb
            clear hargs hs ta tb
            have E := Lib.hid (when_dif (n := n) (a := a) K1.out HS.out)
            obtain ⟨r, hr⟩ : ∃ r, uniF 2000 [] [(a 0, a 1)] = r := ⟨_, rfl⟩
            have hglb := heap_lt R3.out.box
            have KP := Lib.hid (show ∀ w', Below w3.heap.size w3 w' → w'.cell? ⟨w.heap.size, 3, none⟩ = some (.slice (some ⟨b, 0, none⟩) 2 c) ∧ w'.cell? ⟨b, 0, none⟩ = some (.int .i64 u0) ∧ w'.cell? ⟨b, 1, none⟩ = some (.int .i64 u1) ∧ w'.cell? ⟨b, 2, none⟩ = some (.string u2) ∧ w'.cell? ⟨b, 3, none⟩ = some (.slice U0 um uc) ∧ w'.cell? ⟨b, 4, none⟩ = some (.int .i64 v0) ∧ w'.cell? ⟨b, 5, none⟩ = some (.int .i64 v1) ∧ w'.cell? ⟨b, 6, none⟩ = some (.string v2) ∧ w'.cell? ⟨b, 7, none⟩ = some (.slice V0 vm vc) from fun w' hw => by
              have r := fun (j : Nat) => hw.cell (p := ⟨b, j, none⟩) hbl
              exact ⟨(hw.cell (p := ⟨w.heap.size, 3, none⟩) hglb).trans x3, (r 0).trans a0, (r 1).trans a1, (r 2).trans a2, (r 3).trans a3, (r 4).trans d0, (r 5).trans d1, (r 6).trans d2, (r 7).trans d3⟩)
            have q0 := (Below.refl w3.heap.size w3).drew
            have CD := Lib.hid (rdif_own (TA.out.below q0) (TB.out.below q0) O0.out O1.out hr)
            rw [hr] at E
            clear hr a0 a1 a2 a3 d0 d1 d2 d3
            go_wp2_with fail
            go_region_held3 (fun w' => w'.cell? ⟨w.heap.size, 3, none⟩ = some (.slice (some ⟨b, 0, none⟩) 2 c) ∧ w'.cell? ⟨b, 0, none⟩ = some (.int .i64 u0) ∧ w'.cell? ⟨b, 1, none⟩ = some (.int .i64 u1) ∧ w'.cell? ⟨b, 2, none⟩ = some (.string u2) ∧ w'.cell? ⟨b, 3, none⟩ = some (.slice U0 um uc) ∧ w'.cell? ⟨b, 4, none⟩ = some (.int .i64 v0) ∧ w'.cell? ⟨b, 5, none⟩ = some (.int .i64 v1) ∧ w'.cell? ⟨b, 6, none⟩ = some (.string v2) ∧ w'.cell? ⟨b, 7, none⟩ = some (.slice V0 vm vc))
              (first | (with_reducible exact KP.out _ q0) | (with_reducible exact KP.out _ q5))
              (((with_reducible refine CD.out.mono ?_); rintro e w6 ⟨⟨DA, dc, rfl, hd6⟩, h6⟩; have q5 := q0.trans h6))
            have R6 := Lib.hid (R3.out.below q5)
            have D6 := Lib.hid hd6
            have hws := R3.out.low.size
            obtain ⟨z, hz⟩ : ∃ z, difN r = z := ⟨_, rfl⟩
            rw [hz] at E ⊢
            clear h6 hd6 q0 q5 x0 x1 x2 x3 hz
            cases hz1 : (z == -1) with
            | true =>
              have E2 := Lib.hid (show whenT (.mk k n s 2 a) = (1, []) by rw [E.out, if_pos (by simpa using hz1)])
              go_wp2_with fail
              go_ret2
              rw [E2.out]
              exact R6.out.fin _
            | false =>
              have E2 := Lib.hid (show whenT (.mk k n s 2 a) = (z, difL r) by rw [E.out, if_neg (by simpa using hz1)])
              go_wp2_with fail
              go_ret2
              rw [E2.out]
              exact ⟨⟨DA, dc, rfl, ownsRow_more D6.out hws⟩, R6.out.low⟩
          | false =>
            go_wp2_with fail
            refine (is_l OK.out R3.out.tp ⟨#[44]⟩ [44] (by simp) 2 B4.out).mono ?_
            rintro e w4 ⟨rfl, h4⟩
            have R4 := Lib.hid (R3.out.below h4)
            clear h4 x0 x1 x2 x3 R3
            obtain ⟨x0, x1, x2, x3⟩ := box4 R4.out.box
            cases b4 with
            | true =>
              obtain ⟨rfl, hs⟩ := I4.out.mp rfl
              have HS := Lib.hid hs
              have O0 := Lib.hid (OK.out.arg (i := 0) (by omega))
              have O1 := Lib.hid (OK.out.arg (i := 1) (by omega))
              obtain ⟨_, _, _, _, _, _, hargs⟩ := R4.out.tp.args
              obtain ⟨b, u0, u1, u2, U0, um, uc, rfl, _, hbl, a0, a1, a2, a3, ta⟩ := hargs 0 (by omega)
              obtain ⟨b', v0, v1, v2, V0, vm, vc, e9, _, _, d0, d1, d2, d3, tb⟩ := hargs 1 (by omega)
              injection e9 with e9
              injection e9 with e9 _ _
              subst e9
              simp only [Nat.zero_mul, Nat.zero_add, Nat.one_mul] at a0 a1 a2 a3 d0 d1 d2 d3
              have TA := Lib.hid ta
              have TB := Lib.hid tb
              clear hargs hs ta tb
              have E := Lib.hid (when_and (n := n) (a := a) K1.out HS.out)
              have C0 := IH.out 0 O0.out _ w4 _ TA.out
              obtain ⟨p0, hp0⟩ : ∃ p, whenT (a 0) = p := ⟨_, rfl⟩
              obtain ⟨n0, l0⟩ := p0
              rw [hp0] at C0 E
              have C0 := Lib.hid C0
              have hws := R4.out.low.size
              clear hp0
              go_wp2_with fail
              refine C0.out.mono ?_
              rintro e w5 ⟨⟨LA, lc, rfl, hl5⟩, h5⟩
              have R5' := Lib.hid (R4.out.below h5)
              have L5 := Lib.hid hl5
              have TB5 := Lib.hid (TB.out.below h5)
              have e0 := (h5.cell (p := ⟨b, 4, none⟩) hbl).trans d0
              have e1 := (h5.cell (p := ⟨b, 5, none⟩) hbl).trans d1
              have e2 := (h5.cell (p := ⟨b, 6, none⟩) hbl).trans d2
              have e3 := (h5.cell (p := ⟨b, 7, none⟩) hbl).trans d3
              have hbl5 : b < w5.heap.size := Nat.lt_of_lt_of_le hbl h5.size
              clear hl5 h5 x0 x1 x2 x3 a0 a1 a2 a3 d0 d1 d2 d3 C0
              obtain ⟨x0, x1, x2, x3⟩ := box4 R5'.out.box
              cases hn1 : (n0 != 1) with
              | true =>
                have E2 := Lib.hid (show whenT (.mk k n s 2 a) = (n0, l0) by rw [E.out, if_neg (by simpa using hn1)])
                go_wp2_with fail
                go_ret2
                rw [E2.out]
                exact ⟨⟨LA, lc, rfl, ownsRow_more L5.out hws⟩, R5'.out.low⟩
              | false =>
                have E2 := Lib.hid (show whenT (.mk k n s 2 a) = whenT (a 1) by rw [E.out, if_pos (by simpa using hn1)])
                have C1 := IH.out 1 O1.out _ w5 _ TB5.out
                rw [← E2.out] at C1
                obtain ⟨p1, hp1⟩ : ∃ p, whenT (.mk k n s 2 a) = p := ⟨_, rfl⟩
                have HP1 := Lib.hid hp1
                rw [hp1] at C1
                have C1 := Lib.hid C1
                have hws5 := R5'.out.low.size
                clear hp1
                go_wp2_with fail
                refine C1.out.mono ?_
                rintro e w6 ⟨⟨MA, mc, rfl, hm6⟩, h6⟩
                have M6 := Lib.hid (show ORow w6 w.heap.size (.slice MA p1.2.length mc) p1.2 from ownsRow_more hm6 hws5)
                have B6 := Lib.hid (R5'.out.low.trans (h6.mono hws5))
                clear hm6 h6
                go_wp2_with fail
                go_ret2
                rw [HP1.out]
                exact ⟨⟨MA, mc, rfl, M6.out⟩, B6.out⟩
            | false =>
              go_wp2_with fail
              refine (is_l OK.out R4.out.tp ⟨#[59]⟩ [59] (by simp) 2 B5.out).mono ?_
              rintro e w5 ⟨rfl, h5⟩
              have R5 := Lib.hid (R4.out.below h5)
              clear h5 x0 x1 x2 x3 R4
              obtain ⟨x0, x1, x2, x3⟩ := box4 R5.out.box
              cases b5 with
              | true =>
                obtain ⟨rfl, hs⟩ := I5.out.mp rfl
                have HS := Lib.hid hs
                have O0 := Lib.hid (OK.out.arg (i := 0) (by omega))
                have O1 := Lib.hid (OK.out.arg (i := 1) (by omega))
                obtain ⟨_, _, _, _, _, _, hargs⟩ := R5.out.tp.args
                obtain ⟨b, u0, u1, u2, U0, um, uc, rfl, _, hbl, a0, a1, a2, a3, ta⟩ := hargs 0 (by omega)
                obtain ⟨b', v0, v1, v2, V0, vm, vc, e9, _, _, d0, d1, d2, d3, tb⟩ := hargs 1 (by omega)
                injection e9 with e9
                injection e9 with e9 _ _
                subst e9
                simp only [Nat.zero_mul, Nat.zero_add, Nat.one_mul] at a0 a1 a2 a3 d0 d1 d2 d3
                have TA := Lib.hid ta
                have TB := Lib.hid tb
                clear hargs hs ta tb
                have E := Lib.hid (when_or (n := n) (a := a) K1.out HS.out)
                have C0 := IH.out 0 O0.out _ w5 _ TA.out
                have W0 := whenT_own O0.out
                have W1 := whenT_own O1.out
                obtain ⟨p0, hp0⟩ : ∃ p, whenT (a 0) = p := ⟨_, rfl⟩
                obtain ⟨n0, l0⟩ := p0
                obtain ⟨p1, hp1⟩ : ∃ p, whenT (a 1) = p := ⟨_, rfl⟩
                obtain ⟨n1, l1⟩ := p1
                rw [hp0] at C0 E W0
                rw [hp1] at E W1
                have HP1 := Lib.hid hp1
                have WW0 := Lib.hid W0
                have WW1 := Lib.hid W1
                have C0 := Lib.hid C0
                have hws := R5.out.low.size
                clear hp0 hp1 W0 W1
                go_wp2_with fail
                refine C0.out.mono ?_
                rintro e w6 ⟨⟨LA, lc, rfl, hl6⟩, h6⟩
                have R6 := Lib.hid (R5.out.below h6)
                have L6 := Lib.hid (show ORow w6 w.heap.size (.slice LA l0.length lc) l0 from ownsRow_more hl6 hws)
                have TB6 := Lib.hid (TB.out.below h6)
                have e0 := (h6.cell (p := ⟨b, 4, none⟩) hbl).trans d0
                have e1 := (h6.cell (p := ⟨b, 5, none⟩) hbl).trans d1
                have e2 := (h6.cell (p := ⟨b, 6, none⟩) hbl).trans d2
                have e3 := (h6.cell (p := ⟨b, 7, none⟩) hbl).trans d3
                have hbl6 : b < w6.heap.size := Nat.lt_of_lt_of_le hbl h6.size
                clear hl6 h6 x0 x1 x2 x3 a0 a1 a2 a3 d0 d1 d2 d3 C0
                obtain ⟨x0, x1, x2, x3⟩ := box4 R6.out.box
                have C1 := IH.out 1 O1.out _ w6 _ TB6.out
                rw [HP1.out] at C1
                have C1 := Lib.hid C1
                have hws6 := R6.out.low.size
                go_wp2_with fail
                refine C1.out.mono ?_
                rintro e w7 ⟨⟨MA, mc, rfl, hm7⟩, h7⟩
                have R7 := Lib.hid (R6.out.below h7)
                have L7 := Lib.hid (L6.out.below h7)
                have M7 := Lib.hid (show ORow w7 w6.heap.size (.slice MA l1.length mc) l1 from hm7)
                have NE0 := Lib.hid (show ∀ g, (Value.slice LA l0.length lc).ownBlock = some g → (Value.slice MA l1.length mc).ownBlock ≠ some g from fun g hg hg2 => by
                  have h1 := (L6.out.lt g hg).2
                  have h2 := (M7.out.lt g hg2).1
                  omega)
                have hlf0 : l0.length ≤ 1000 := nodup_few 1000 _ WW0.out.1 WW0.out.2
                have hlf1 : l1.length ≤ 1000 := nodup_few 1000 _ WW1.out.1 WW1.out.2
                have hfall := Lib.hid (show ∀ q, (addAll l0 (l1.take q)).length ≤ 1000 from fun q => nodup_few 1000 _ (addAll_nodup WW0.out.1) fun x hx => (mem_addAll.mp hx).elim (WW0.out.2 x) fun h => WW1.out.2 x (List.mem_of_mem_take h))
                clear hm7 h7 x0 x1 x2 x3 e0 e1 e2 e3 C1
                by_cases hone : n0 = 1 ∨ n1 = 1
                · have E2 := Lib.hid (show whenT (.mk k n s 2 a) = (1, []) by rw [E.out, if_pos hone])
                  rcases hone with h | h
                  · have hb1 : (n0 == 1) = true := by simpa using h
                    clear h
                    go_wp2_with fail
                    go_ret2
                    rw [E2.out]
                    exact R7.out.fin _
                  · have hb1 : (n1 == 1) = true := by simpa using h
                    clear h
                    cases hb0 : (n0 == 1)
                    all_goals
                      go_wp2_with fail
                      go_ret2
                      rw [E2.out]
                      exact R7.out.fin _
                · have hb0 : (n0 == 1) = false := beq_eq_false_iff_ne.mpr fun h => hone (.inl h)
                  have hb1 : (n1 == 1) = false := beq_eq_false_iff_ne.mpr fun h => hone (.inr h)
                  by_cases hn0 : n0 < 0
                  · have E2 := Lib.hid (show whenT (.mk k n s 2 a) = (n0, []) by rw [E.out, if_neg hone, if_pos hn0])
                    clear hone
                    go_wp2_with fail
                    go_ret2
                    rw [E2.out]
                    exact R7.out.fin _
                  · by_cases hn1 : n1 < 0
                    · have E2 := Lib.hid (show whenT (.mk k n s 2 a) = (n1, []) by rw [E.out, if_neg hone, if_neg hn0, if_pos hn1])
                      clear hone
                      go_wp2_with fail
                      go_ret2
                      rw [E2.out]
                      exact R7.out.fin _
                    · have E2 := Lib.hid (show whenT (.mk k n s 2 a) = (0, addAll l0 l1) by rw [E.out, if_neg hone, if_neg hn0, if_neg hn1])
                      clear hone
                      obtain ⟨M0, hM0⟩ : ∃ M0, w6.heap.size = M0 := ⟨_, rfl⟩
                      rw [hM0] at M7
                      clear hM0
                      go_wp2_with fail
                      go_loopw [11, 14] (fun lv iv w8 => ∃ q : Nat, iv = .int .i64 (q : Int) ∧ q ≤ l1.length ∧ ORow w8 w.heap.size lv (addAll l0 (l1.take q)) ∧ ORow w8 M0 (.slice MA l1.length mc) l1 ∧ (∀ g, lv.ownBlock = some g → (Value.slice MA l1.length mc).ownBlock ≠ some g) ∧ Below w.heap.size w w8) (fun _ iv _ => l1.length - (intOf iv).toNat)
                      case atStart => exact ⟨0, rfl, Nat.zero_le _, by simpa [addAll] using L7.out, M7.out, NE0.out, R7.out.low⟩
                      case round =>
                        clear L7 M7 NE0 R7 R6 L6
                        obtain ⟨q, rfl, hq, ho, hl8, hne, hb⟩ := hrel
                        obtain ⟨PA, pc, rfl, _, _, _, _⟩ := own_open ho
                        have O8 := Lib.hid ho
                        have L8 := Lib.hid hl8
                        have NE := Lib.hid hne
                        have B8 := Lib.hid hb
                        have hb8 := hb.size
                        have hfew := hfall.out q
                        obtain ⟨acc, hacc⟩ : ∃ acc, addAll l0 (l1.take q) = acc := ⟨_, rfl⟩
                        have HA := Lib.hid hacc
                        rw [hacc] at hfew O8 NE ⊢
                        clear ho hl8 hne hb hacc
                        by_cases hql : q < l1.length
                        · have hql' : (q : Int) < (l1.length : Int) := by omega
                          obtain ⟨x, hx⟩ : ∃ x, l1[q]? = some x := ⟨_, List.getElem?_eq_getElem hql⟩
                          obtain ⟨_, _, e1, _, _, hlx⟩ := L8.out.irow.open_
                          injection e1 with e1 _ e2
                          subst e1; subst e2
                          obtain ⟨gl, rfl, hgll, cl⟩ := hlx q x hx
                          obtain ⟨bb, hbb⟩ : ∃ bb : Bool, bb = true ↔ x ∈ acc := ⟨decide (x ∈ acc), by simp⟩
                          have HB9 := Lib.hid hbb
                          have TK := Lib.hid (show l1.take (q + 1) = l1.take q ++ [x] by rw [List.take_add_one, hx]; rfl)
                          have CH := Lib.hid (has18_any O8.out.irow (by omega) x hbb)
                          clear hlx hx hbb
                          go_wp2_with fail
                          refine CH.out.mono ?_
                          rintro e w9 ⟨rfl, h9⟩
                          have O9 := Lib.hid (O8.out.below h9)
                          have L9 := Lib.hid (L8.out.below h9)
                          have B9 := Lib.hid (B8.out.trans (h9.mono hb8))
                          have hs9 := h9.size
                          have cl9 := (h9.cell (p := ⟨gl, q, none⟩) hgll).trans cl
                          clear h9 cl
                          cases bb with
                          | true =>
                            have EA := Lib.hid (show addAll l0 (l1.take (q + 1)) = acc by rw [TK.out, addAll_append, HA.out]; exact if_pos (HB9.out.mp rfl))
                            go_wp2_with fail
                            go_roundw
                            case rel => exact ⟨q + 1, by go_num, hql, by rw [EA.out]; exact O9.out, L9.out, NE.out, B9.out⟩
                            case measure => simp [intOf]; omega
                          | false =>
                            have EA := Lib.hid (show addAll l0 (l1.take (q + 1)) = acc ++ [x] by rw [TK.out, addAll_append, HA.out]; exact if_neg fun h => by have := HB9.out.mpr h; cases this)
                            go_wp2_with (at_builtin; go_must (refine wpList_append_lies _ rfl _ _ _ rfl w.heap.size 3 item (.int .i64 0) 1 8 Try.underlying28 ii1 ii2 ii3 ii4 rfl (by omega) _ acc.length _ rfl (own_below O9.out (belA (Below.refl _ _) _)) ⟨w9.heap.size, 0, none⟩ 1 1 [.int .i64 x] rfl rfl (World.news_of_block (heap_alloc_new _ _)) ?_ (by omega) (by unfold maxLen; omega) (by omega) (by simp; omega) _ rfl ?_))
                            · intro u hu
                              simp only [List.mem_cons, List.not_mem_nil, or_false] at hu
                              rcases hu with rfl
                              rfl
                            intro g1 cap1 wA hownA hgA hatA _
                            have OA9 := Lib.hid (show ORow wA w.heap.size (.slice (some ⟨g1, 0, none⟩) (acc.length + 1) cap1) (acc ++ [x]) from ORow.push hownA)
                            have BA9 := Lib.hid ((B9.out.trans ((belA (Below.refl _ _) (Obj.cells #[.int .i64 x] 3)).mono B9.out.size)).grown hgA (by simp; omega) fun k hk => (O9.out.lt k hk).1)
                            have LA9 := Lib.hid (show ORow wA M0 (.slice (some ⟨gl, 0, none⟩) l1.length mc) l1 from own_keep (own_below L9.out (belA (Below.refl _ _) (Obj.cells #[.int .i64 x] 3))) fun g hg => hgA.block g (by simp; have := (L9.out.lt g hg).2; omega) fun e => NE.out g e.symm hg)
                            have NA := Lib.hid (show ∀ g, (Value.slice (some ⟨g1, 0, none⟩) (acc.length + 1) cap1).ownBlock = some g → (Value.slice (some ⟨gl, 0, none⟩) l1.length mc).ownBlock ≠ some g from fun g hg hg2 => by
                              simp [Value.ownBlock] at hg
                              subst hg
                              rcases hatA with h | h
                              · exact NE.out _ h hg2
                              · have := (L9.out.lt _ hg2).2
                                first | omega | (simp at h; omega))
                            clear hownA hgA hatA cl9
                            go_wp2_with fail
                            go_roundw
                            case rel => exact ⟨q + 1, by go_num, hql, by rw [EA.out]; exact OA9.out, LA9.out, NA.out, BA9.out⟩
                            case measure => simp [intOf]; omega
                        · obtain rfl : q = l1.length := by omega
                          have hql' : ¬ (l1.length : Int) < (l1.length : Int) := by omega
                          have E3 := Lib.hid (show whenT (.mk k n s 2 a) = (0, acc) by rw [E2.out, ← HA.out, List.take_length])
                          go_wp2_with fail
                          go_ret2
                          rw [E3.out]
                          exact ⟨⟨PA, pc, rfl, O8.out⟩, B8.out⟩
              | false =>
                have E := Lib.hid (when_none (n := n) (a := a) K1.out (fun h => by have := I1.out.mpr h; cases this) (fun h => by have := I2.out.mpr h; cases this) (fun h => by have := I3.out.mpr h; cases this) (fun h => by have := I4.out.mpr h; cases this) (fun h => by have := I5.out.mpr h; cases this))
                go_wp2_with fail
                go_ret2
                rw [E.out]
                exact R5.out.fin _
end Go.Proofs.Ytjjkigphfijnbaa
