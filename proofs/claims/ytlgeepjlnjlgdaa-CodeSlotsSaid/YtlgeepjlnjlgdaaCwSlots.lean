/- The walk through the law CodeSlots. -/
import Derived.Test.YtlgeepjlnjlgdaaCo4
import Derived.Test.YtlgeepjlnjlgdaaCo7
import Derived.Test.YtlgeepjlnjlgdaaCo9
import Derived.Deep.CutBlock
namespace Go.Proofs.Ytlgeepjlnjlgdaa
open Go.RowKit


/-- A clause in memory: its head in a box, its goals in a row. -/
structure ClM (w W : World) (X : Nat) (gv : Value) (th : T) (gs : List T) (S P : Nat → Prop) (B : Nat) (qs : List Q6) (h0 h1 : Int) (h2 : ByteArray) (h3 : Option Addr) (h4 h5 : Nat) : Prop where
  box : W.heap[X]? = some (.cells #[.int .i64 h0, .int .i64 h1, .string h2, .slice h3 h4 h5] 24 (0, 0))
  tp : TP W S th (.agg #[.int .i64 h0, .int .i64 h1, .string h2, .slice h3 h4 h5])
  tl : TL W B S P gv gs qs
  lt : ∀ b, S b → b < X
  low : Below w.heap.size w W
  ge : w.heap.size ≤ X
  good : th.good ∧ (∀ g ∈ gs, g.good) ∧ th.nodes ≤ 1001 ∧ nodesL gs ≤ 2002
theorem ClM.below {w W W' : World} {X : Nat} {gv : Value} {th : T} {gs : List T} {S P : Nat → Prop} {B : Nat} {qs : List Q6} {h0 h1 : Int} {h2 : ByteArray} {h3 : Option Addr} {h4 h5 : Nat} (h : ClM w W X gv th gs S P B qs h0 h1 h2 h3 h4 h5) (hb : Below W.heap.size W W') : ClM w W' X gv th gs S P B qs h0 h1 h2 h3 h4 h5 :=
  ⟨(hb.block X (heap_lt h.box)).trans h.box, h.tp.below hb, h.tl.below hb, h.lt, h.low.trans (hb.mono h.low.size), h.ge, h.good⟩
theorem nodes_le : ∀ {gs : List T} {g : T}, g ∈ gs → g.nodes ≤ nodesL gs
  | x :: gs, g, h => by
    simp only [nodesL, List.map_cons, List.sum_cons]
    rcases List.mem_cons.1 h with rfl | h
    · omega
    · have := nodes_le h
      simp only [nodesL] at this
      omega
theorem sum_list : ∀ (l : List T), sumTo l.length (fun i => (l.getD i .nil).nodes) = nodesL l := by
  intro l
  have key : ∀ (q : Nat), q ≤ l.length → sumTo q (fun i => (l.getD i .nil).nodes) = nodesL (l.take q) := by
    intro q
    induction q with
    | zero => intro _; simp [sumTo, nodesL]
    | succ q ih =>
      intro hq
      have hq' : q < l.length := by omega
      simp only [sumTo]
      rw [ih (by omega), List.take_succ_eq_append_getElem hq', nodesL_app]
      simp [nodesL, List.getD_eq_getElem?_getD, hq']
  have := key l.length (Nat.le_refl _)
  rwa [List.take_length] at this
theorem whole_ok {th : T} {gs : List T} (h : th.ok) (hg : ∀ g ∈ gs, g.ok) (hn : th.nodes ≤ 1001) (hs : nodesL gs ≤ 2002) : (wholeT th gs).ok := by
  have hs1 := sum_list (th :: gs)
  refine ⟨⟨.inr (.inr (.inr ⟨rfl, rfl, by decide, by omega⟩)), fun i hi => ?_⟩, ?_⟩
  · have hi' : i < (th :: gs).length := by simpa using hi
    simp only [List.getD_eq_getElem?_getD, List.getElem?_eq_getElem hi', Option.getD_some]
    rcases List.mem_cons.1 (List.getElem_mem hi') with h1 | h1
    · rw [h1]; exact h.1
    · exact (hg _ h1).1
  · show 1 + sumTo (gs.length + 1) (fun i => ((th :: gs).getD i .nil).nodes) ≤ 4000
    have e : sumTo (gs.length + 1) (fun i => ((th :: gs).getD i .nil).nodes) = nodesL (th :: gs) := hs1
    rw [e]
    simp only [nodesL, List.map_cons, List.sum_cons] at hs ⊢
    omega
/-- What the law asks of a clause's instructions. -/
structure LFacts (l : List Ins) (n g : Nat) : Prop where
  sc : scan l 0 = some n
  c2 : countO 2 l = n
  c7 : countO 7 l = g
  first : ∃ x, l[0]? = some x ∧ x.o = 1 ∧ x.a = (n : Int)
  last : ∃ M x, l.length = M + 1 ∧ 2 ≤ M ∧ l[M]? = some x ∧ x.o = 8
  few : l.length ≤ 9000
theorem enc_facts {th : T} {gs : List T} (h : th.ok) (hg : ∀ g ∈ gs, g.ok) (hn : th.nodes ≤ 1001) (hs : nodesL gs ≤ 2002) (hlen : gs.length ≤ 2002) : LFacts (encN th gs) (varsT (wholeT th gs)).length gs.length := by
  obtain ⟨s1, s2, s3⟩ := enc_laid h.1.kinds fun g hg' => (hg g hg').1.kinds
  obtain ⟨j1, _⟩ := codeT_len th h.1.kinds []
  obtain ⟨i1, _⟩ := codeG_len gs (codeT th []) fun g hg' => (hg g hg').1.kinds
  have hp := h.1.pos
  refine ⟨s1, s2, s3, ⟨_, rfl, rfl, ?_⟩, ⟨1 + (codeG gs (codeT th [])).1.length, ⟨8, 0, ⟨#[]⟩⟩, ?_, by omega, ?_, rfl⟩, ?_⟩
  · rw [enc_vars h.1.kinds fun g hg' => (hg g hg').1.kinds]
  · simp [encN]; omega
  · have e : ([⟨1, ((codeG gs (codeT th [])).2.length : Int), ⟨#[]⟩⟩] ++ (codeG gs (codeT th [])).1 : List Ins).length = 1 + (codeG gs (codeT th [])).1.length := by simp; omega
    unfold encN
    rw [← e, List.getElem?_append_right (Nat.le_refl _), Nat.sub_self]
    rfl
  · simp [encN]; omega
theorem a_good : (T.mk 3 0 ⟨#[97]⟩ 0 fun _ => .nil).good := ⟨.inr (.inr (.inl ⟨rfl, rfl, by decide, rfl⟩)), fun i h => absurd h (by omega)⟩
set_option maxRecDepth 100000 in
set_option maxHeartbeats 8000000 in
theorem codeslots_any (s : ByteArray) (w : World) : Calls Try.prog 3 #[.string s] w fun e w' => e = .returned (.bool true) ∧ Below w.heap.size w w' := by
  go_enter Try.func3, Try.ntmps3
  go_wp2_with fail
  refine (clause_any s w).mono ?_
  rintro e w1 ⟨⟨h0, h1, h2, h3, h4, h5, gv, is, rfl, hcl⟩, hb1⟩
  have CL := Lib.hid hcl
  have B1 := Lib.hid hb1
  have hw1 := hb1.size
  clear hcl hb1
  go_upto_if 18 with (fail)
  go_cut [] (fun wx => ∃ (th : T) (gs : List T) (S P : Nat → Prop) (B : Nat) (qs : List Q6) (h0 h1 : Int) (h2 : ByteArray) (h3 : Option Addr) (h4 h5 : Nat), ClM w wx w1.heap.size gv th gs S P B qs h0 h1 h2 h3 h4 h5)
  case first =>
    cases is with
    | true =>
      have hcl := CL.out
      rcases hcl with ⟨h, _⟩ | ⟨_, th, gs, B, S, P, qs, hS, hB, htp, htl, g1, g2, g3, g4⟩
      · cases h
      · have CM := Lib.hid (show ClM w (w1.alloc (Obj.cells #[.int .i64 h0, .int .i64 h1, .string h2, .slice h3 h4 h5] 24)) w1.heap.size gv th gs S P B qs h0 h1 h2 h3 h4 h5 from
          ⟨heap_alloc_new _ _, htp.below ((Below.refl _ _).alloc (Nat.le_refl _) _), htl.below ((Below.refl _ _).alloc (Nat.le_refl _) _), hS, belA B1.out _, hw1, g1, g2, g3, g4⟩)
        clear hS hB htp htl g1 g2 g3 g4
        go_wp2_with fail
        go_meet
        exact ⟨_, _, _, _, _, _, _, _, _, _, _, _, CM.out⟩
    | false =>
      have hcl := CL.out
      rcases hcl with ⟨_, rfl⟩ | ⟨h, _⟩
      · have CM := Lib.hid (show ClM w (w1.alloc (Obj.cells #[.int .i64 3, .int .i64 0, .string ⟨#[97]⟩, .slice none 0 0] 24)) w1.heap.size (.slice none 0 0) (T.mk 3 0 ⟨#[97]⟩ 0 fun _ => .nil) [] (fun _ => False) (fun _ => False) 0 [] 3 0 ⟨#[97]⟩ none 0 0 from
          ⟨heap_alloc_new _ _, TP.leaf _ _ _ _ _, TL.empty (World.ownsRow_nil _ _ _ _) (fun _ h => h.elim), fun _ h => h.elim, belA B1.out _, hw1, a_good, by simp, by rw [leaf_nodes]; decide, by simp [nodesL]⟩)
        go_wp2_with fail
        go_meet
        exact ⟨_, _, _, _, _, _, _, _, _, _, _, _, CM.out⟩
      · cases h
  case rest =>
    clear CL
    obtain ⟨th, gs, S, P, B, qs, k0, k1, k2, k3, k4, k5, hcm⟩ := hcut
    have C2 := Lib.hid hcm
    obtain ⟨x0, x1, x2, x3⟩ := box4t hcm.box
    obtain ⟨A, c, rfl, hc, hA, _⟩ := hcm.tl.all
    have hx := heap_lt hcm.box
    have GK := Lib.hid (show th.ok ∧ (∀ g ∈ gs, g.ok) ∧ gs.length ≤ 2002 from ⟨⟨hcm.good.1, by have := hcm.good.2.2.1; omega⟩, fun g hg => ⟨hcm.good.2.1 g hg, by
      have h1 := nodes_le hg
      have := hcm.good.2.2.2
      omega⟩, Nat.le_trans (nodesL_len gs hcm.good.2.1) hcm.good.2.2.2⟩)
    clear hcm
    have EF := Lib.hid (enc_facts GK.out.1 GK.out.2.1 C2.out.good.2.2.1 C2.out.good.2.2.2 GK.out.2.2)
    have WO := Lib.hid (whole_ok GK.out.1 GK.out.2.1 C2.out.good.2.2.1 C2.out.good.2.2.2)
    obtain ⟨l, hl⟩ : ∃ l, l = encN th gs := ⟨_, rfl⟩
    have HL := Lib.hid hl
    rw [← hl] at EF
    obtain ⟨n, hn⟩ : ∃ n, n = (varsT (wholeT th gs)).length := ⟨_, rfl⟩
    have HN := Lib.hid hn
    rw [← hn] at EF
    have CE := Lib.hid (pencode_any GK.out.1 GK.out.2.1 C2.out.tp C2.out.tl (by have := C2.out.good.2.2.2; omega) (by have := GK.out.2.2; omega))
    clear hl hn
    go_wp2_with fail
    refine CE.out.mono ?_
    rintro e w2 ⟨lv, rfl, hlr, hk⟩
    have C3 := Lib.hid (C2.out.below hk.low)
    have L2 := Lib.hid (show IRw w2 wc.heap.size lv l by rw [HL.out]; exact hlr)
    obtain ⟨x0', x1', x2', x3'⟩ := box4t C3.out.box
    have hx2 := heap_lt C3.out.box
    have CW := Lib.hid (whole_any C3.out.tp C3.out.tl (fun b hb => by have := C3.out.lt b hb; omega) (by have := GK.out.2.2; omega))
    clear hlr hk CE x0 x1 x2 x3
    go_wp2_with fail
    refine CW.out.mono ?_
    rintro e w3 ⟨⟨AW, cw, rfl, htw⟩, hb3⟩
    have C4 := Lib.hid (C3.out.below hb3)
    have L3 := Lib.hid (own_below L2.out hb3)
    have CV := Lib.hid (vars_any _ WO.out _ _ _ htw)
    clear htw hb3 CW x0' x1' x2' x3'
    go_wp2_with fail
    refine CV.out.mono ?_
    rintro e w4 ⟨⟨AV, cv, rfl, hvr⟩, hb4⟩
    have C5 := Lib.hid (C4.out.below hb4)
    have L4 := Lib.hid (show IRw w4 wc.heap.size lv l from own_below L3.out hb4)
    rw [← HN.out]
    have hlf : l.length ≤ 9000 := EF.out.few
    have CS := Lib.hid (pslots_any w4 L4.out (by omega))
    have hc2 := EF.out.c2
    rw [hc2] at CS
    clear hvr hb4 CV hc2
    go_wp2_with fail
    refine CS.out.mono ?_
    rintro e w5 ⟨rfl, hb5⟩
    have C6 := Lib.hid (C5.out.below hb5)
    have L5 := Lib.hid (show IRw w5 wc.heap.size lv l from own_below L4.out hb5)
    obtain ⟨xf, f1, f2, f3⟩ := EF.out.first
    obtain ⟨M, xl, m1, m2, m3, m4⟩ := EF.out.last
    obtain ⟨AL, cl, rfl, _, _, _⟩ := L5.out.all
    obtain ⟨g, rfl, hgl, hcell⟩ := insrow (i := 0) L5.out rfl (by omega)
    obtain ⟨_, e1, _, hcl⟩ := insrow (i := M) L5.out rfl (by omega)
    injection e1 with e1
    injection e1 with e1 _
    subst e1
    have d0 := hcell 0 (by omega)
    have d1 := hcell 1 (by omega)
    have d2 := hcl 0 (by omega)
    rw [List.getElem?_eq_getElem (by omega)] at f1 m3
    injection f1 with f1
    injection m3 with m3
    rw [f1] at d0 d1
    rw [m3] at d2
    simp [Ins.cells] at d0 d1 d2
    rw [f2] at d0
    rw [f3] at d1
    rw [m4] at d2
    obtain ⟨y0, y1, y2, y3⟩ := box4t C6.out.box
    have hx5 := heap_lt C6.out.box
    have CR := Lib.hid (rencode_any GK.out.1 GK.out.2.1 C6.out.tp C6.out.tl (by have := C6.out.good.2.2.2; omega) (by have := GK.out.2.2; omega))
    have hLM : (l.length : Int) - 1 = (M : Int) := by omega
    have hL3 : ¬ (l.length : Int) < 3 := by omega
    have hM3 : (M : Int) < (l.length : Int) := by omega
    have hL0 : (0 : Int) < (l.length : Int) := by omega
    clear hb5 CS hcell hcl f1 f2 f3 m1 m3 m4
    go_wp2_with fail
    refine CR.out.mono ?_
    rintro e w6 ⟨rv, rfl, hrr, hk6⟩
    have B6 := Lib.hid (C6.out.low.trans (hk6.low.mono C6.out.low.size))
    have L6 := Lib.hid (show IRw w6 wc.heap.size (.slice (some ⟨g, 0, none⟩) l.length cl) l from own_below L5.out hk6.low)
    have R6 := Lib.hid (show IRw w6 w5.heap.size rv l by rw [HL.out]; exact hrr)
    have CQ := Lib.hid (isame_any w6 L6.out R6.out (by omega))
    clear hrr hk6 CR y0 y1 y2 y3 d0 d1 d2
    go_wp2_with fail
    refine CQ.out.mono ?_
    rintro e w7 ⟨⟨rb, rfl, hrb⟩, hb7⟩
    have B7 := Lib.hid (B6.out.trans (hb7.mono B6.out.size))
    have L7 := Lib.hid (show IRw w7 wc.heap.size (.slice (some ⟨g, 0, none⟩) l.length cl) l from own_below L6.out hb7)
    obtain rfl : rb = true := hrb.2 trivial
    clear hrb hb7 CQ
    go_wp2_with fail
    go_loopw [8, 9, 10] (fun nv mv iv wr => ∃ i nx : Nat, iv = .int .i64 (i : Int) ∧ nv = .int .i64 (nx : Int) ∧ mv = .int .i64 ((countO 7 (l.take i) : Nat) : Int) ∧ i ≤ l.length ∧ scan (l.take i) 0 = some nx ∧ nx ≤ i ∧ Below w7.heap.size w7 wr) (fun _ _ iv _ => l.length - (intOf iv).toNat)
    case atStart => exact ⟨0, 0, rfl, rfl, rfl, Nat.zero_le _, rfl, Nat.le_refl _, Below.refl _ _⟩
    case round =>
      obtain ⟨i, nx, rfl, rfl, rfl, hi, hsc, hnx, hbw⟩ := hrel
      have BW := Lib.hid hbw
      have LW := Lib.hid (show IRw wr wc.heap.size (.slice (some ⟨g, 0, none⟩) l.length cl) l from own_below L7.out hbw)
      have HSC := Lib.hid hsc
      obtain ⟨q, hq⟩ : ∃ q, countO 7 (l.take i) = q := ⟨_, rfl⟩
      have hql : q ≤ 9000 := by
        have h1 : countO 7 (l.take i) ≤ (l.take i).length := List.length_filter_le _ _
        rw [List.length_take] at h1
        omega
      have HQ := Lib.hid hq
      rw [hq]
      clear hbw hsc hq
      by_cases hil : i < l.length
      · have hil' : (i : Int) < (l.length : Int) := by omega
        obtain ⟨_, e1, _, hcell⟩ := insrow LW.out rfl hil
        injection e1 with e1
        injection e1 with e1 _
        subst e1
        obtain ⟨x, hxE⟩ : ∃ x, l[i]'hil = x := ⟨_, rfl⟩
        rw [hxE] at hcell
        have d0 := hcell 0 (by omega)
        have d1 := hcell 1 (by omega)
        simp [Ins.cells] at d0 d1
        have HT := Lib.hid (show l.take (i + 1) = l.take i ++ [x] by rw [List.take_succ_eq_append_getElem hil, hxE])
        have HS := Lib.hid (show (scan [x] nx).isSome = true by
          have h1 := EF.out.sc
          rw [← List.take_append_drop (i + 1) l, HT.out, scan_app, scan_app, HSC.out] at h1
          cases hs : scan [x] nx with
          | some _ => rfl
          | none =>
            have e : ((some nx).bind (scan [x])) = none := hs
            rw [e] at h1
            cases h1)
        clear hcell hxE
        cases h2 : (x.o == 2) with
        | true =>
          have ho : x.o = 2 := by simpa using h2
          have ha : x.a = (nx : Int) := by
            have := HS.out
            simp only [scan] at this
            rw [if_pos ho] at this
            split at this
            · assumption
            · cases this
          have R := Lib.hid (show scan (l.take (i + 1)) 0 = some (nx + 1) ∧ countO 7 (l.take (i + 1)) = q by
            rw [HT.out, scan_app, HSC.out, countO_app, HQ.out]
            simp [scan, ho, ha, countO])
          rw [ho] at d0
          rw [ha] at d1
          clear ho ha h2
          go_wp2_with fail
          go_roundw
          case rel => exact ⟨i + 1, nx + 1, by go_num, by go_num, by rw [R.out.2], by omega, R.out.1, by omega, BW.out⟩
          case measure => simp [intOf]; omega
        | false =>
          have ho : x.o ≠ 2 := by simpa using h2
          cases h3 : (x.o == 3) with
          | true =>
            have ho3 : x.o = 3 := by simpa using h3
            have ha : 0 ≤ x.a ∧ x.a < (nx : Int) := by
              have := HS.out
              simp only [scan] at this
              rw [if_neg ho, if_pos ho3] at this
              split at this
              · assumption
              · cases this
            have R := Lib.hid (show scan (l.take (i + 1)) 0 = some nx ∧ countO 7 (l.take (i + 1)) = q by
              rw [HT.out, scan_app, HSC.out, countO_app, HQ.out]
              simp [scan, ho3, ha, countO])
            obtain ⟨ha1, ha2⟩ := ha
            rw [ho3] at d0
            clear ho ho3 h2 h3
            go_wp2_with fail
            go_roundw
            case rel => exact ⟨i + 1, nx, by go_num, rfl, by rw [R.out.2], by omega, R.out.1, by omega, BW.out⟩
            case measure => simp [intOf]; omega
          | false =>
            have ho3 : x.o ≠ 3 := by simpa using h3
            cases h7 : (x.o == 7) with
            | true =>
              have R := Lib.hid (show scan (l.take (i + 1)) 0 = some nx ∧ countO 7 (l.take (i + 1)) = q + 1 by
                rw [HT.out, scan_app, HSC.out, countO_app, HQ.out]
                simp [scan, ho, ho3, countO, h7])
              clear ho ho3
              go_wp2_with fail
              go_roundw
              case rel => exact ⟨i + 1, nx, by go_num, rfl, by rw [R.out.2]; go_num, by omega, R.out.1, by omega, BW.out⟩
              case measure => simp [intOf]; omega
            | false =>
              have R := Lib.hid (show scan (l.take (i + 1)) 0 = some nx ∧ countO 7 (l.take (i + 1)) = q by
                rw [HT.out, scan_app, HSC.out, countO_app, HQ.out]
                simp [scan, ho, ho3, countO, h7])
              clear ho ho3
              go_wp2_with fail
              go_roundw
              case rel => exact ⟨i + 1, nx, by go_num, rfl, by rw [R.out.2], by omega, R.out.1, by omega, BW.out⟩
              case measure => simp [intOf]; omega
      · have hin : l.take i = l := List.take_of_length_le (by omega)
        have hqg : q = gs.length := by
          have h1 := EF.out.c7
          have h2 := HQ.out
          rw [hin, h1] at h2
          exact h2.symm
        subst hqg
        clear hin
        go_wp2_with fail
        go_ret
        exact ⟨rfl, B7.out.trans (BW.out.mono B7.out.size)⟩
end Go.Proofs.Ytlgeepjlnjlgdaa
