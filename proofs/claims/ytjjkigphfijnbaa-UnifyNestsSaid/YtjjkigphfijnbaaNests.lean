/- The walk through the law UnifyNests. -/
import Derived.Test.YtjjkigphfijnbaaNests0
import Derived.Test.YtjjkigphfijnbaaScript
namespace Go.Proofs.Ytjjkigphfijnbaa
open Go.RowKit
attribute [local go_sem ↓] Go.wp_at_zero Go.wp_at_succ

/-- Where the law stands: the box of the term; the environment. -/
structure NS (w w' : World) (T6 : Nat) (cs : Array Value) (t : T) (eb mb N : Nat) (L : Bs) : Prop where
  box : w'.heap[T6]? = some (.cells cs 34 (0, 0))
  tp : TP w' (fun _ => True) t (.agg cs)
  env : EnvP w' eb mb N L
  low : Below w.heap.size w w'
  mlo : w.heap.size ≤ mb
theorem NS.below {w w' w'' : World} {T6 : Nat} {cs : Array Value} {t : T} {eb mb N : Nat} {L : Bs} (h : NS w w' T6 cs t eb mb N L) (hb : Below w'.heap.size w' w'') : NS w w'' T6 cs t eb mb N L :=
  ⟨(hb.block _ (heap_lt h.box)).trans h.box, h.tp.below hb, h.env.below hb, h.low.trans (hb.mono h.low.size), h.mlo⟩
theorem NS.after {w w' w'' : World} {T6 : Nat} {cs : Array Value} {t : T} {eb mb N N' : Nat} {L L' : Bs} (h : NS w w' T6 cs t eb mb N L) (hb : But mb w' w'') (he : EnvP w'' eb mb N' L') : NS w w'' T6 cs t eb mb N' L' :=
  ⟨hb.far h.env.isMap.spare h.box (by decide), h.tp.far hb h.env.isMap.spare, he, h.low.trans (hb.below h.mlo h.low.size), h.mlo⟩
theorem NS.cells {w w' : World} {T6 : Nat} {a b c d : Value} {t : T} {eb mb N : Nat} {L : Bs} (h : NS w w' T6 #[a, b, c, d] t eb mb N L) : w'.cell? ⟨T6, 0, none⟩ = some a ∧ w'.cell? ⟨T6, 1, none⟩ = some b ∧ w'.cell? ⟨T6, 2, none⟩ = some c ∧ w'.cell? ⟨T6, 3, none⟩ = some d := box4 h.box
set_option maxRecDepth 100000 in
set_option maxHeartbeats 16000000 in
theorem nests_any (dn an : Nat) (hd : dn ≤ 255) (ha : an ≤ 255) (w : World) : Calls Try.prog 5 #[.int .u8 (dn : Int), .int .u8 (an : Int)] w fun e w' => e = .returned (.bool true) ∧ Below w.heap.size w w' := by
  have hd0 : (0 : Int) ≤ (dn : Int) := by omega
  have hd2 : (dn : Int) ≤ 255 := by omega
  have ha0 : (0 : Int) ≤ (an : Int) := by omega
  have ha2 : (an : Int) ≤ 255 := by omega
  obtain ⟨nn, hnn⟩ : ∃ nn : Nat, (1 : Int) + (dn : Int) % 60 = (nn : Int) := ⟨1 + dn % 60, by omega⟩
  have hn1 : 1 ≤ nn := by omega
  have hn2 : nn ≤ 60 := by omega
  go_enter Try.func5, Try.ntmps5
  go_wp2_with fail
  refine (lvar_any 0 _).mono ?_
  rintro e w1 ⟨rfl, h1⟩
  have H1 := Lib.hid (h1.alloc h1.size (Obj.cells #[.int .i64 1, .int .i64 0, .string ⟨#[]⟩, .slice none 0 0] 34))
  have hs1 := h1.size
  clear h1 hnn hd0 hd2 hd
  go_wp2_with fail
  go_loopw [7, 8] (fun iv _ wr => ∃ (i : Nat) (k0 k1 : Int) (k2 : ByteArray) (A0 : Option Addr) (m0 c0 : Nat), iv = .int .i64 (i : Int) ∧ i ≤ nn ∧ wr.heap[w1.heap.size]? = some (.cells #[.int .i64 k0, .int .i64 k1, .string k2, .slice A0 m0 c0] 34 (0, 0)) ∧ TP wr (fun b => b ≠ w1.heap.size) (nestT i) (.agg #[.int .i64 k0, .int .i64 k1, .string k2, .slice A0 m0 c0]) ∧ Below w.heap.size w wr) (fun iv _ _ => 61 - (intOf iv).toNat)
  case atStart => exact ⟨0, 1, 0, ⟨#[]⟩, none, 0, 0, rfl, by omega, heap_alloc_new _ _, varV_tp _ _ 0, H1.out⟩
  case round =>
    clear H1
    obtain ⟨i, k0, k1, k2, A0, m0, c0, rfl, hi, hbox, htp, hb⟩ := hrel
    have X := Lib.hid hbox
    have TT := Lib.hid htp
    have HB := Lib.hid hb
    have hgl := heap_lt hbox
    obtain ⟨x0, x1, x2, x3⟩ := box4 hbox
    have xf : ∀ j, wr.frozen? ⟨w1.heap.size, j, none⟩ = false := fun j => by simp [World.frozen?, hbox]
    clear hbox htp hb
    by_cases hlt : i < nn
    · have hlt' : (i : Int) < (nn : Int) := by omega
      obtain ⟨W9, hW9⟩ : ∃ W9, W9 = (((((wr.setCell ⟨w1.heap.size, 0, none⟩ (.int .i64 4)).setCell ⟨w1.heap.size, 1, none⟩ (.int .i64 0)).setCell ⟨w1.heap.size, 2, none⟩ (.string ⟨#[102]⟩)).setCell ⟨w1.heap.size, 3, none⟩ (.slice (some ⟨wr.heap.size, 0, none⟩) 1 1)).alloc (Obj.cells #[.int .i64 k0, .int .i64 k1, .string k2, .slice A0 m0 c0] 34)) := ⟨_, rfl⟩
      have P := Lib.hid (put_new X.out hs1 HB.out (.int .i64 4) (.int .i64 0) (.string ⟨#[102]⟩) (.slice (some ⟨wr.heap.size, 0, none⟩) 1 1) (Obj.cells #[.int .i64 k0, .int .i64 k1, .string k2, .slice A0 m0 c0] 34))
      have NB := Lib.hid (show W9.heap[wr.heap.size]? = some (.cells #[.int .i64 k0, .int .i64 k1, .string k2, .slice A0 m0 c0] 34 (0, 0)) by rw [hW9]; exact (congrArg _ (by simp)).trans (heap_alloc_new _ _))
      rw [← hW9] at P
      have NT := Lib.hid (show TP W9 (fun b => b ≠ w1.heap.size) (nestT (i + 1)) (.agg #[.int .i64 4, .int .i64 0, .string ⟨#[102]⟩, .slice (some ⟨wr.heap.size, 0, none⟩) 1 1]) from
        ⟨_, 1, rfl, Nat.le_refl _, (fun h => by cases h), fun _ => ⟨wr.heap.size, _, (0, 0), rfl, by omega, NB.out, fun j hj => by
          obtain rfl : j = 0 := by omega
          exact ⟨_, _, _, _, rfl, rfl, rfl, rfl, (TT.out.keep fun b cs f hS hh => ⟨(P.out.2.1 b hS (heap_lt hh)).trans hh, hS⟩)⟩⟩⟩)
      have HW9 := Lib.hid hW9
      clear hW9
      go_wp2_with fail
      rw [← HW9.out]
      go_roundw
      case rel => exact ⟨i + 1, _, _, _, _, _, _, by go_num, by omega, P.out.1, NT.out, P.out.2.2⟩
      case measure => simp [intOf]; omega
    · have hlt' : ¬ (i : Int) < (nn : Int) := by omega
      obtain ⟨n, rfl⟩ : ∃ n, i = n + 1 := ⟨i - 1, by omega⟩
      have hn : n ≤ 60 := by omega
      clear xf
      go_wp2_with fail
      refine (unew_any _).mono ?_
      rintro e w2 ⟨⟨eb, mb, rfl, hmb, he⟩, hb2⟩
      have F := Lib.hid (show NS w w2 w1.heap.size #[.int .i64 k0, .int .i64 k1, .string k2, .slice A0 m0 c0] (nestT (n + 1)) eb mb 0 [] from
        ⟨(hb2.block _ hgl).trans X.out, ((TT.out.more fun _ _ => trivial).below hb2), he, HB.out.trans (hb2.mono HB.out.size), Nat.le_trans HB.out.size hmb⟩)
      have OKN := Lib.hid (nestT_ok (n := n + 1) (by omega))
      have hv : (1 : Int) + (an : Int) ≠ 0 := by omega
      have OKV := Lib.hid (varT_ok (n := 1 + (an : Int)) (by omega) (by omega))
      have OK0 := Lib.hid (varT_ok (n := 0) (by omega) (by omega))
      have U1 := Lib.hid (uni_nest1 (n := n))
      have U2 := Lib.hid (uni_nest2 (n := n) hv)
      have U3 := Lib.hid (uni_nest3 (n := n) hv)
      have HVN := Lib.hid hv
      clear he hb2 hmb X TT HB x0 x1 x2 x3 hi hlt hgl hv
      have CV := Lib.hid (lvar_any 0 w2.drew)
      have q0 := (Below.refl w2.heap.size w2).drew
      have KP := Lib.hid (show ∀ w', Below w2.heap.size w2 w' → w'.cell? ⟨w1.heap.size, 0, none⟩ = some (.int .i64 k0) ∧ w'.cell? ⟨w1.heap.size, 1, none⟩ = some (.int .i64 k1) ∧ w'.cell? ⟨w1.heap.size, 2, none⟩ = some (.string k2) ∧ w'.cell? ⟨w1.heap.size, 3, none⟩ = some (.slice A0 m0 c0) from fun w' hw => (F.out.below hw).cells)
      have CU := Lib.hid (show ∀ w', Below w2.heap.size w2 w' → Calls Try.prog 13 #[.pointer (some ⟨eb, 0, none⟩), .agg #[.int .i64 1, .int .i64 0, .string ⟨#[]⟩, .slice none 0 0], .agg #[.int .i64 k0, .int .i64 k1, .string k2, .slice A0 m0 c0]] w' fun e w'' => (∃ A c, e = .returned (.tuple #[.slice A 0 c, .int .i64 80]) ∧ EnvP w'' eb mb 2000 []) ∧ But mb w' w'' from fun w' hw => by
        refine (unify_u (F.out.below hw).env (by omega) (varV_tp w' _ 0) (F.out.below hw).tp OK0.out OKN.out U1.out).mono ?_
        rintro e w'' ⟨⟨A, c, rfl, _, h1⟩, h2⟩
        exact ⟨⟨A, c, rfl, by simpa [newB] using h1⟩, h2⟩)
      go_wp2_with fail
      go_region_held3 (fun w' => w'.cell? ⟨w1.heap.size, 0, none⟩ = some (.int .i64 k0) ∧ w'.cell? ⟨w1.heap.size, 1, none⟩ = some (.int .i64 k1) ∧ w'.cell? ⟨w1.heap.size, 2, none⟩ = some (.string k2) ∧ w'.cell? ⟨w1.heap.size, 3, none⟩ = some (.slice A0 m0 c0))
        (first | (with_reducible exact KP.out _ q0) | (with_reducible exact KP.out _ q5) | (with_reducible exact q7))
        (first
          | ((with_reducible refine CV.out.mono ?_); rintro e w5 ⟨rfl, h5⟩; have q5 := q0.trans h5)
          | ((with_reducible refine (CU.out _ q5).mono ?_); rintro e w7 ⟨⟨UA, uc, rfl, he7⟩, hb7⟩; have q7 := ((F.out.below q5).after hb7 he7).cells))
      have F7 := Lib.hid ((F.out.below q5).after hb7 he7)
      have WR := Go.IntWalk.i64_in ((1 : Int) + (an : Int)) ⟨by omega, by omega⟩
      have WA := Go.IntWalk.i64_in (an : Int) ⟨by omega, by omega⟩
      obtain ⟨v, hv⟩ : ∃ v : Int, (1 : Int) + (an : Int) = v := ⟨_, rfl⟩
      rw [hv] at OKV U2 U3 HVN WR
      clear he7 hb7 q5 q7 q0 F CU KP U1 CV
      have CV := Lib.hid (lvar_any v w7.drew)
      have q0 := (Below.refl w7.heap.size w7).drew
      have KP := Lib.hid (show ∀ w', Below w7.heap.size w7 w' → w'.cell? ⟨w1.heap.size, 0, none⟩ = some (.int .i64 k0) ∧ w'.cell? ⟨w1.heap.size, 1, none⟩ = some (.int .i64 k1) ∧ w'.cell? ⟨w1.heap.size, 2, none⟩ = some (.string k2) ∧ w'.cell? ⟨w1.heap.size, 3, none⟩ = some (.slice A0 m0 c0) from fun w' hw => (F7.out.below hw).cells)
      have CU := Lib.hid (show ∀ w', Below w7.heap.size w7 w' → Calls Try.prog 13 #[.pointer (some ⟨eb, 0, none⟩), .agg #[.int .i64 1, .int .i64 v, .string ⟨#[]⟩, .slice none 0 0], .agg #[.int .i64 k0, .int .i64 k1, .string k2, .slice A0 m0 c0]] w' fun e w'' => (∃ A c, e = .returned (.tuple #[.slice A 1 c, .int .i64 0]) ∧ EnvP w'' eb mb 4000 [(v, nestT (n + 1))]) ∧ But mb w' w'' from fun w' hw => by
        refine (unify_u (F7.out.below hw).env (by omega) (varV_tp w' _ v) (F7.out.below hw).tp OKV.out OKN.out U2.out).mono ?_
        rintro e w'' ⟨⟨A, c, rfl, _, h1⟩, h2⟩
        exact ⟨⟨A, c, rfl, by simpa [newB] using h1⟩, h2⟩)
      go_wp2_with fail
      go_region_held3 (fun w' => w'.cell? ⟨w1.heap.size, 0, none⟩ = some (.int .i64 k0) ∧ w'.cell? ⟨w1.heap.size, 1, none⟩ = some (.int .i64 k1) ∧ w'.cell? ⟨w1.heap.size, 2, none⟩ = some (.string k2) ∧ w'.cell? ⟨w1.heap.size, 3, none⟩ = some (.slice A0 m0 c0))
        (first | (with_reducible exact KP.out _ q0) | (with_reducible exact KP.out _ q5) | (with_reducible exact q9))
        (first
          | ((with_reducible refine CV.out.mono ?_); rintro e w8 ⟨rfl, h5⟩; have q5 := q0.trans h5)
          | ((with_reducible refine (CU.out _ q5).mono ?_); rintro e w9 ⟨⟨UB, ub, rfl, he9⟩, hb9⟩; have q9 := ((F7.out.below q5).after hb9 he9).cells))
      have F9 := Lib.hid ((F7.out.below q5).after hb9 he9)
      clear he9 hb9 q5 q9 q0 F7 CU KP U2 CV
      go_wp2_with fail
      refine (lvar_any 0 _).mono ?_
      rintro e wA ⟨rfl, hA⟩
      have FA := Lib.hid (F9.out.below hA)
      clear hA F9
      go_wp2_with fail
      refine (lvar_any v _).mono ?_
      rintro e wB ⟨rfl, hB⟩
      have FB := Lib.hid (FA.out.below hB)
      clear hB FA
      go_wp2_with fail
      refine (unify_u FB.out.env (by omega) (varV_tp wB _ 0) (varV_tp wB _ v) OK0.out OKV.out U3.out).mono ?_
      rintro e wC ⟨⟨UC, ucc, rfl, _, heC⟩, hbC⟩
      have FC := Lib.hid (FB.out.after hbC (L' := [(v, nestT (n + 1))]) (by simpa [newB] using heC))
      clear heC hbC FB
      simp only [resErr]
      obtain ⟨d, hd⟩ := FC.out.env.ok.deep OKV.out
      have HD := Lib.hid hd
      have HTH := Lib.hid (FC.out.env.ok.resF_thin d _ OKV.out hd)
      have HEQ := Lib.hid (res_nestv HVN.out hd)
      obtain ⟨u, hu⟩ : ∃ u, resF [(v, nestT (n + 1))] d (varT v) = u := ⟨_, rfl⟩
      have CB := Lib.hid (show ∀ w', Below wC.heap.size wC w' → Calls Try.prog 14 #[.pointer (some ⟨eb, 0, none⟩), .int .i64 0] w' fun e w'' => e = .returned (.bool false) ∧ Below w'.heap.size w' w'' from fun w' hw => by
        have := ubound_any (FC.out.below hw).env (n := 0) (by omega) (by omega)
        rw [find_one _ HVN.out] at this
        exact this)
      have CV := Lib.hid (fun w' => lvar_any v w')
      have CP := Lib.hid (show ∀ w', Below wC.heap.size wC w' → Calls Try.prog 18 #[.pointer (some ⟨eb, 0, none⟩), .agg #[.int .i64 1, .int .i64 v, .string ⟨#[]⟩, .slice none 0 0]] w' fun e w'' => (∃ v', e = .returned v' ∧ TP w'' (fun _ => True) u v') ∧ Below w'.heap.size w' w'' from fun w' hw => by
        have := presolve_any (FC.out.below hw).env (varV_tp w' _ v) OKV.out HD.out
        rw [hu] at this
        exact this)
      rw [hu] at HTH HEQ
      have CS := Lib.hid (show ∀ w' v', Below wC.heap.size wC w' → TP w' (fun _ => True) u v' → Calls Try.prog 19 #[v', .agg #[.int .i64 k0, .int .i64 k1, .string k2, .slice A0 m0 c0]] w' fun e w'' => e = .returned (.bool true) ∧ Below w'.heap.size w' w'' from fun w' v' hw hv => same_any HTH.out OKN.out.thin hv (FC.out.below hw).tp (b := true) ⟨fun _ => HEQ.out, fun _ => rfl⟩)
      have q0 := (Below.refl wC.heap.size wC).drew
      have KP := Lib.hid (show ∀ w', Below wC.heap.size wC w' → w'.cell? ⟨w1.heap.size, 0, none⟩ = some (.int .i64 k0) ∧ w'.cell? ⟨w1.heap.size, 1, none⟩ = some (.int .i64 k1) ∧ w'.cell? ⟨w1.heap.size, 2, none⟩ = some (.string k2) ∧ w'.cell? ⟨w1.heap.size, 3, none⟩ = some (.slice A0 m0 c0) from fun w' hw => (FC.out.below hw).cells)
      clear hd hu
      go_wp2_with fail
      go_region_held3 (fun w' => w'.cell? ⟨w1.heap.size, 0, none⟩ = some (.int .i64 k0) ∧ w'.cell? ⟨w1.heap.size, 1, none⟩ = some (.int .i64 k1) ∧ w'.cell? ⟨w1.heap.size, 2, none⟩ = some (.string k2) ∧ w'.cell? ⟨w1.heap.size, 3, none⟩ = some (.slice A0 m0 c0))
        (first | (with_reducible exact KP.out _ q0) | (with_reducible exact KP.out _ q1) | (with_reducible exact KP.out _ q2) | (with_reducible exact KP.out _ q3) | (with_reducible exact KP.out _ q4))
        (first
          | ((with_reducible refine (CB.out _ q0).mono ?_); rintro e wD ⟨rfl, hD⟩; have q1 := q0.trans (hD.mono q0.size))
          | ((with_reducible refine (CV.out _).mono ?_); rintro e wE ⟨rfl, hE⟩; have q2 := q1.trans (hE.mono q1.size))
          | ((with_reducible refine (CP.out _ q2).mono ?_); rintro e wF ⟨⟨vF, rfl, hvF⟩, hF⟩; have q3 := q2.trans (hF.mono q2.size))
          | ((with_reducible refine (CS.out _ _ q3 hvF).mono ?_); rintro e wG ⟨rfl, hG⟩; have q4 := q3.trans (hG.mono q3.size)))
      have B4 := Lib.hid (FC.out.low.trans (q4.mono FC.out.low.size))
      clear q0 q1 q2 q3 q4 hD hE hF hG hvF
      go_wp2_with fail
      go_ret
      exact ⟨rfl, B4.out⟩
end Go.Proofs.Ytjjkigphfijnbaa
