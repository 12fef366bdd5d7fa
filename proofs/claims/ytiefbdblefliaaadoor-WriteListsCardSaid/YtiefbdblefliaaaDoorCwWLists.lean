/- The walk of WriteLists. (Printed by tools/gen_wlists.py.) -/
import Derived.Test.YtiefbdblefliaaaDoorLsT
import Derived.Test.YtiefbdblefliaaaDoorCwWBack
namespace Go.Proofs.YtiefbdblefliaaaDoor
open Go.RowKit

/-- A row of integers that is given. -/
def IIn (w : World) (S : Nat) (l : List Int) (v : Value) : Prop :=
  ∃ A c, v = .slice A l.length c ∧ (0 < l.length → ∃ g o, A = some ⟨g, o, none⟩ ∧ g < S ∧ ∀ (i : Nat) (x : Int), l[i]? = some x → w.cell? ⟨g, o + i, none⟩ = some (.int .i64 x))
theorem tp_two {w : World} {S : Nat → Prop} {x : Int} {t : T} {q0 q1 : Int} {q2 : ByteArray} {q3 : Option Addr} {q4 q5 g : Nat} (hg : w.heap[g]? = some (.cells #[.int .i64 2, .int .i64 x, .string ⟨#[]⟩, .slice none 0 0, .int .i64 q0, .int .i64 q1, .string q2, .slice q3 q4 q5] 24 (0, 0))) (hS : S g) (ht : TP w S t (.agg #[.int .i64 q0, .int .i64 q1, .string q2, .slice q3 q4 q5])) :
    TP w S (.mk 4 0 dotS 2 fun i => if i = 0 then inT x else t) (.agg #[.int .i64 4, .int .i64 0, .string ⟨#[46]⟩, .slice (some ⟨g, 0, none⟩) 2 2]) := by
  refine ⟨_, 2, rfl, Nat.le_refl _, (fun h => by cases h), fun _ => ⟨g, _, (0, 0), rfl, hS, hg, fun i hi => ?_⟩⟩
  rcases i with _ | _ | i
  · exact ⟨_, _, _, _, rfl, rfl, rfl, rfl, TP.leaf _ _ 2 x ⟨#[]⟩⟩
  · exact ⟨_, _, _, _, rfl, rfl, rfl, rfl, ht⟩
  · omega
theorem ba_at {s : ByteArray} {i : Nat} (h : i < s.size) {c : UInt8} (e : s.data.toList[i]? = some c) : s[i]'h = c := by
  have h' : i < s.data.toList.length := by rw [len_u]; exact h
  rw [List.getElem?_eq_getElem h'] at e
  exact Option.some.inj e
theorem ls_round {w wr : World} {x q0 q1 : Int} {q2 : ByteArray} {q3 : Option Addr} {q4 q5 : Nat} {t : T} (hb : Below w.heap.size w wr) (hx : wr.heap[w.heap.size]? = some (.cells #[.int .i64 q0, .int .i64 q1, .string q2, .slice q3 q4 q5] 24 (0, 0))) (ht : TP wr (fun b => w.heap.size < b) t (.agg #[.int .i64 q0, .int .i64 q1, .string q2, .slice q3 q4 q5])) :
    Below w.heap.size w ((((((wr.setCell ⟨w.heap.size, 0, none⟩ (.int .i64 4)).setCell ⟨w.heap.size, 1, none⟩ (.int .i64 0)).setCell ⟨w.heap.size, 2, none⟩ (.string ⟨#[46]⟩)).setCell ⟨w.heap.size, 3, none⟩ (.slice (some ⟨wr.heap.size, 0, none⟩) 2 2)).alloc (Obj.cells #[.int .i64 2, .int .i64 x, .string ⟨#[]⟩, .slice none 0 0, .int .i64 q0, .int .i64 q1, .string q2, .slice q3 q4 q5] 24)).drew) ∧ ((((((wr.setCell ⟨w.heap.size, 0, none⟩ (.int .i64 4)).setCell ⟨w.heap.size, 1, none⟩ (.int .i64 0)).setCell ⟨w.heap.size, 2, none⟩ (.string ⟨#[46]⟩)).setCell ⟨w.heap.size, 3, none⟩ (.slice (some ⟨wr.heap.size, 0, none⟩) 2 2)).alloc (Obj.cells #[.int .i64 2, .int .i64 x, .string ⟨#[]⟩, .slice none 0 0, .int .i64 q0, .int .i64 q1, .string q2, .slice q3 q4 q5] 24)).drew).heap[w.heap.size]? = some (.cells #[.int .i64 4, .int .i64 0, .string ⟨#[46]⟩, .slice (some ⟨wr.heap.size, 0, none⟩) 2 2] 24 (0, 0)) ∧
      TP ((((((wr.setCell ⟨w.heap.size, 0, none⟩ (.int .i64 4)).setCell ⟨w.heap.size, 1, none⟩ (.int .i64 0)).setCell ⟨w.heap.size, 2, none⟩ (.string ⟨#[46]⟩)).setCell ⟨w.heap.size, 3, none⟩ (.slice (some ⟨wr.heap.size, 0, none⟩) 2 2)).alloc (Obj.cells #[.int .i64 2, .int .i64 x, .string ⟨#[]⟩, .slice none 0 0, .int .i64 q0, .int .i64 q1, .string q2, .slice q3 q4 q5] 24)).drew) (fun b => w.heap.size < b) (.mk 4 0 dotS 2 fun i => if i = 0 then inT x else t) (.agg #[.int .i64 4, .int .i64 0, .string ⟨#[46]⟩, .slice (some ⟨wr.heap.size, 0, none⟩) 2 2]) := by
  have hl := heap_lt hx
  obtain ⟨p1, p2, p3, p4⟩ := box_put4 hx (.int .i64 4) (.int .i64 0) (.string ⟨#[46]⟩) (.slice (some ⟨wr.heap.size, 0, none⟩) 2 2) rfl
  obtain ⟨W2, hW2⟩ : ∃ W2, (((wr.setCell ⟨w.heap.size, 0, none⟩ (.int .i64 4)).setCell ⟨w.heap.size, 1, none⟩ (.int .i64 0)).setCell ⟨w.heap.size, 2, none⟩ (.string ⟨#[46]⟩)).setCell ⟨w.heap.size, 3, none⟩ (.slice (some ⟨wr.heap.size, 0, none⟩) 2 2) = W2 := ⟨_, rfl⟩
  rw [hW2] at p1 p2 p3 p4 ⊢
  have n := heap_alloc_new W2 (Obj.cells #[.int .i64 2, .int .i64 x, .string ⟨#[]⟩, .slice none 0 0, .int .i64 q0, .int .i64 q1, .string q2, .slice q3 q4 q5] 24)
  rw [p2] at n
  refine ⟨(belA (p4 _ _ (Nat.le_refl _) hb) _).drew, (Below.heap_alloc _ _ _ (by omega)).trans p1, tp_two (w := (W2.alloc (Obj.cells #[.int .i64 2, .int .i64 x, .string ⟨#[]⟩, .slice none 0 0, .int .i64 q0, .int .i64 q1, .string q2, .slice q3 q4 q5] 24)).drew) n hl (ht.keep (w' := (W2.alloc (Obj.cells #[.int .i64 2, .int .i64 x, .string ⟨#[]⟩, .slice none 0 0, .int .i64 q0, .int .i64 q1, .string q2, .slice q3 q4 q5] 24)).drew) fun b cs f hS hh => ⟨(Below.heap_alloc _ _ _ (by have := heap_lt hh; omega)).trans ((p3 b (by omega)).trans hh), hS⟩)⟩
set_option maxRecDepth 100000 in
set_option maxHeartbeats 16000000 in
theorem writelists_any {l : List Int} {v : Value} (op : Bool) (w : World) (hl : IIn w w.heap.size l v) (hx : ∀ x ∈ l, I64 x) (hlen : (l.length : Int) ≤ 9223372036854775807) (hT : TabX w) :
    Calls Tryd.prog 5 #[v, .bool op] w fun e w' => e = .returned (.bool true) ∧ Below w.heap.size w w' := by
  obtain ⟨A, c, rfl, hcell⟩ := hl
  by_cases hbig : (200 : Int) < (l.length : Int)
  · go_enter Tryd.func5, Tryd.ntmps5
    go_wp2_with fail
    go_ret
    exact ⟨rfl, Below.refl _ _⟩
  have hl200 : l.length ≤ 200 := by omega
  have HC := Lib.hid hcell
  have HX := Lib.hid hx
  have HTX := Lib.hid hT
  clear hcell hx hT
  by_cases hop : op = true ∧ 0 < l.length
  · obtain ⟨rfl, hl0⟩ := hop
    have hl0' : (0 : Int) < (l.length : Int) := by omega
    have NA := Lib.hid (heap_alloc_new w (Obj.cells #[.int .i64 1, .int .i64 7, .string ⟨#[]⟩, .slice none 0 0] 24))
    have BA := Lib.hid (belA (Below.refl w.heap.size w) (Obj.cells #[.int .i64 1, .int .i64 7, .string ⟨#[]⟩, .slice none 0 0] 24))
    go_enter Tryd.func5, Tryd.ntmps5
    go_wp2_with fail
    go_loopw [6] (fun iv wr => ∃ (z : Int) (j : Nat) (q0 q1 : Int) (q2 : ByteArray) (q3 : Option Addr) (q4 q5 : Nat), iv = .int .i64 z ∧ z = (j : Int) - 1 ∧ j ≤ l.length ∧ Below w.heap.size w wr ∧ wr.heap[w.heap.size]? = some (.cells #[.int .i64 q0, .int .i64 q1, .string q2, .slice q3 q4 q5] 24 (0, 0)) ∧ TP wr (fun b => w.heap.size < b) (lsT restV (l.drop j)) (.agg #[.int .i64 q0, .int .i64 q1, .string q2, .slice q3 q4 q5])) (fun iv _ => (intOf iv + 1).toNat)
    case atStart =>
      exact ⟨_, l.length, 1, 7, ⟨#[]⟩, none, 0, 0, rfl, rfl, Nat.le_refl _, BA.out, NA.out, by rw [List.drop_length]; exact TP.leaf _ _ 1 7 ⟨#[]⟩⟩
    case round =>
      obtain ⟨z, j, q0, q1, q2, q3, q4, q5, rfl, hz, hj, hb, hxb, ht⟩ := hrel
      have HB := Lib.hid hb
      have XB := Lib.hid hxb
      have HT := Lib.hid ht
      obtain ⟨x0, x1, x2, x3⟩ := box4t hxb
      have hbl := heap_lt hxb
      clear hb hxb ht
      cases j with
      | succ i =>
        obtain rfl : z = (i : Int) := by omega
        clear hz
        have hil : (i : Int) < (l.length : Int) := by omega
        obtain ⟨g, o, rfl, hg, hc⟩ := HC.out (by omega)
        obtain ⟨x, hx⟩ : ∃ x, l[i]? = some x := ⟨_, List.getElem?_eq_getElem (by omega)⟩
        have y0 := (HB.out.cell (p := ⟨g, o + i, none⟩) hg).trans (hc i x hx)
        have hgl : g < wr.heap.size := by have := HB.out.size; omega
        have ED := Lib.hid (show l.drop i = x :: l.drop (i + 1) by rw [List.drop_eq_getElem_cons (by omega)]; congr 1; rw [List.getElem?_eq_getElem (by omega)] at hx; injection hx)
        have x0d : wr.drew.cell? ⟨w.heap.size, 0, none⟩ = some (.int .i64 q0) := x0
        have x1d : wr.drew.cell? ⟨w.heap.size, 1, none⟩ = some (.int .i64 q1) := x1
        have x2d : wr.drew.cell? ⟨w.heap.size, 2, none⟩ = some (.string q2) := x2
        have x3d : wr.drew.cell? ⟨w.heap.size, 3, none⟩ = some (.slice q3 q4 q5) := x3
        have y0d : wr.drew.cell? ⟨g, o + i, none⟩ = some (.int .i64 x) := y0
        clear hc hx
        have LR := Lib.hid (ls_round (x := x) HB.out XB.out HT.out)
        have zr : ∀ k, wr.frozen? ⟨w.heap.size, k, none⟩ = false := fun k => by simp [World.frozen?, XB.out]
        clear x0d x1d x2d x3d y0d
        go_wp2_with fail
        go_region
        go_wp2_with fail
        go_roundw
        case rel => exact ⟨(i : Int) - 1, i, 4, 0, ⟨#[46]⟩, some ⟨wr.heap.size, 0, none⟩, 2, 2, rfl, rfl, by omega, LR.out.1, LR.out.2.1, by rw [ED.out]; exact LR.out.2.2⟩
        case measure => first | (simp [intOf]; done) | (simp [intOf]; omega)
      | zero =>
        obtain rfl : z = -1 := by omega
        clear hz
        rw [List.drop_zero] at HT
        have hrt : restT restV := .inr rfl
        obtain ⟨hwr, hfit, hnd, _, _, hlv, _⟩ := ls_ok hrt l HX.out
        have hgood := ls_good hrt HX.out hl200
        obtain ⟨t, htt⟩ : ∃ t, lsT restV l = t := ⟨_, rfl⟩
        obtain ⟨r, hr⟩ := ls_text (b := restV) (l := l) (fun h => absurd hl0 (by rw [h]; decide))
        rw [htt] at HT hwr hfit hnd hlv hgood hr
        have G := Lib.hid (HT.out.gt)
        obtain ⟨s0, hs0⟩ : ∃ s0, ba (txB (nmV []) t).1 = s0 := ⟨_, rfl⟩
        have TO := Lib.hid (show TextOf [] t s0 from .inl ⟨hgood, hs0.symm⟩)
        have hd0 : s0.data.toList = 91 :: (r ++ [93]) := by rw [← hs0, ba_list, hr]
        have HS := Lib.hid (back_alikeX (X := False) hwr hfit hs0.symm fun h => h.elim)
        have HLV := Lib.hid hlv
        have HD := Lib.hid hd0
        have hse : (s0.toList == []) = false := by
          rw [eq_str]
          exact decide_eq_false fun e => by rw [e, ba_list] at hd0; cases hd0
        have CP := Lib.hid ((pwrite_any (by omega) hfit _ _ wr G.out (HTX.out.below HB.out)).mono fun e w' h => nm_fix TO.out h)
        have CR := Lib.hid (fun (W : World) (k : Below wr.heap.size wr W) => (rwrite_any (by omega) hfit _ _ W (G.out.below k)).mono fun e w' h => nm_fix TO.out h)
        have hss : (s0.toList == s0.toList) = true := beq_self_eq_true _
        obtain ⟨K, hKr⟩ : ∃ K, K = r.length + 1 := ⟨_, rfl⟩
        have hK : s0.size = K + 1 := by rw [← len_u s0, hd0, hKr]; simp
        have hKb : K ≤ 1000000000000 := by
          have h1 := (tx_len namesFit_nil t hwr hfit).1
          rw [hr] at h1
          simp only [List.length_cons, List.length_append, List.length_nil] at h1
          omega
        have h91 : ∀ h : 0 < s0.size, ((s0[0]'h).toNat : Int) = 91 := fun h => by rw [ba_at h (c := 91) (by rw [hd0]; rfl)]; rfl
        have h93 : ∀ h : K < s0.size, ((s0[K]'h).toNat : Int) = 93 := fun h => by rw [ba_at h (c := 93) (by rw [hd0, hKr]; simp)]; rfl
        clear hs0 hd0 hr hgood hfit hwr hlv hrt hKr
        go_wp2_with fail
        refine CP.out.mono ?_
        rintro e w2 ⟨rfl, hb2⟩
        have B2 := Lib.hid hb2
        have X2 := Lib.hid ((hb2.block _ hbl).trans XB.out)
        have hl2 := heap_lt X2.out
        clear x0 x1 x2 x3 hb2
        obtain ⟨x0, x1, x2, x3⟩ := box4t X2.out
        have C2 := Lib.hid (CR.out w2 B2.out)
        clear CP CR
        go_wp2_with fail
        refine C2.out.mono ?_
        rintro e w3 ⟨rfl, hb3⟩
        have B3 := Lib.hid (B2.out.trans (hb3.mono B2.out.size))
        have X3 := Lib.hid ((hb3.block _ hl2).trans X2.out)
        have hl3 := heap_lt X3.out
        clear x0 x1 x2 x3 hb3 C2
        have W3 := Lib.hid (HB.out.trans (B3.out.mono HB.out.size))
        have C3 := Lib.hid (onex_any s0 w3)
        go_wp2_with fail
        refine C3.out.mono ?_
        rintro e w4 ⟨⟨k2, n2, nm2, A2, m2, c2, NA2, nn2, nc2, p2, er2, rfl, h0, h1⟩, hb4⟩
        have B4 := Lib.hid (B3.out.trans (hb4.mono B3.out.size))
        have W4 := Lib.hid (W3.out.trans (hb4.mono W3.out.size))
        have X4 := Lib.hid ((hb4.block _ hl3).trans X3.out)
        have hl4 := heap_lt X4.out
        by_cases he2 : er2 = 0
        · subst he2
          obtain ⟨u, ns, h2, h3, _, _⟩ := h0.out rfl
          obtain ⟨qs, hq⟩ : ∃ qs, Alk t u [] qs := by
            rcases HS.out with ⟨_, _, h4, _⟩ | ⟨u', ns', qs, h4, h5⟩
            · rw [h4] at h2; cases h2
            · rw [h4] at h2
              injection h2 with h2
              injection h2 with h2 _
              subst h2
              exact ⟨qs, h5⟩
          have BZ := Lib.hid (belA (Below.refl w4.heap.size w4) (Obj.cells #[.int .i64 k2, .int .i64 n2, .string nm2, .slice A2 m2 c2, .slice NA2 nn2 nc2] 27))
          have X5 := Lib.hid ((BZ.out.block _ hl4).trans X4.out)
          have Z5 := Lib.hid (heap_alloc_new w4 (Obj.cells #[.int .i64 k2, .int .i64 n2, .string nm2, .slice A2 m2 c2, .slice NA2 nn2 nc2] 27))
          have CA := Lib.hid (alike_any t u [] qs _ _ _ _ _ _ hq (G.out.below (B4.out.trans (BZ.out.mono B4.out.size))) (h3.gt.below BZ.out) (PRw.nil _) (by simp; omega))
          obtain ⟨x0, x1, x2, x3⟩ := box4t X5.out
          obtain ⟨z0, z1, z2, z3, _⟩ := box5 Z5.out
          clear h0 h1 h2 h3 hb4 C3 hq h91 h93 hse hss
          go_wp2_with fail
          refine CA.out.mono ?_
          rintro e w5 ⟨v5, rfl, _, hb5⟩
          have W5 := Lib.hid ((W4.out.trans (BZ.out.mono W4.out.size)).trans (hb5.mono (Nat.le_trans W4.out.size BZ.out.size)))
          clear hb5 CA x0 x1 x2 x3 z0 z1 z2 z3
          go_wp2_with fail
          go_ret
          exact ⟨rfl, W5.out⟩
        · have hor : er2 = 33 ∨ er2 = 34 := by
            obtain ⟨h2, _⟩ := h1.out he2
            rcases HS.out with ⟨_, _, h4, h5⟩ | ⟨u', ns', qs, h4, h5⟩
            · rw [h4] at h2
              injection h2 with h2
              injection h2 with _ h2
              rw [← h2]
              rcases h5 with h | h | h
              · exact .inl h.1
              · exact .inr h.1
              · have := HLV.out; omega
            · rw [h4] at h2; cases h2
          have W5 := Lib.hid (belA W4.out (Obj.cells #[.int .i64 k2, .int .i64 n2, .string nm2, .slice A2 m2 c2, .slice NA2 nn2 nc2] 27))
          clear h0 h1 hb4 C3
          rcases hor with rfl | rfl
          all_goals
            go_wp2_with fail
            go_ret
            exact ⟨rfl, W5.out⟩
  · cases op with
    | false =>
      have NA := Lib.hid (heap_alloc_new w (Obj.cells #[.int .i64 3, .int .i64 0, .string ⟨#[91, 93]⟩, .slice none 0 0] 24))
      have BA := Lib.hid (belA (Below.refl w.heap.size w) (Obj.cells #[.int .i64 3, .int .i64 0, .string ⟨#[91, 93]⟩, .slice none 0 0] 24))
      go_enter Tryd.func5, Tryd.ntmps5
      go_wp2_with fail
      go_loopw [6] (fun iv wr => ∃ (z : Int) (j : Nat) (q0 q1 : Int) (q2 : ByteArray) (q3 : Option Addr) (q4 q5 : Nat), iv = .int .i64 z ∧ z = (j : Int) - 1 ∧ j ≤ l.length ∧ Below w.heap.size w wr ∧ wr.heap[w.heap.size]? = some (.cells #[.int .i64 q0, .int .i64 q1, .string q2, .slice q3 q4 q5] 24 (0, 0)) ∧ TP wr (fun b => w.heap.size < b) (lsT nilT (l.drop j)) (.agg #[.int .i64 q0, .int .i64 q1, .string q2, .slice q3 q4 q5])) (fun iv _ => (intOf iv + 1).toNat)
      case atStart =>
        exact ⟨_, l.length, 3, 0, ⟨#[91, 93]⟩, none, 0, 0, rfl, rfl, Nat.le_refl _, BA.out, NA.out, by rw [List.drop_length]; exact TP.leaf _ _ 3 0 ⟨#[91, 93]⟩⟩
      case round =>
        obtain ⟨z, j, q0, q1, q2, q3, q4, q5, rfl, hz, hj, hb, hxb, ht⟩ := hrel
        have HB := Lib.hid hb
        have XB := Lib.hid hxb
        have HT := Lib.hid ht
        obtain ⟨x0, x1, x2, x3⟩ := box4t hxb
        have hbl := heap_lt hxb
        clear hb hxb ht
        cases j with
        | succ i =>
          obtain rfl : z = (i : Int) := by omega
          clear hz
          have hil : (i : Int) < (l.length : Int) := by omega
          obtain ⟨g, o, rfl, hg, hc⟩ := HC.out (by omega)
          obtain ⟨x, hx⟩ : ∃ x, l[i]? = some x := ⟨_, List.getElem?_eq_getElem (by omega)⟩
          have y0 := (HB.out.cell (p := ⟨g, o + i, none⟩) hg).trans (hc i x hx)
          have hgl : g < wr.heap.size := by have := HB.out.size; omega
          have ED := Lib.hid (show l.drop i = x :: l.drop (i + 1) by rw [List.drop_eq_getElem_cons (by omega)]; congr 1; rw [List.getElem?_eq_getElem (by omega)] at hx; injection hx)
          have x0d : wr.drew.cell? ⟨w.heap.size, 0, none⟩ = some (.int .i64 q0) := x0
          have x1d : wr.drew.cell? ⟨w.heap.size, 1, none⟩ = some (.int .i64 q1) := x1
          have x2d : wr.drew.cell? ⟨w.heap.size, 2, none⟩ = some (.string q2) := x2
          have x3d : wr.drew.cell? ⟨w.heap.size, 3, none⟩ = some (.slice q3 q4 q5) := x3
          have y0d : wr.drew.cell? ⟨g, o + i, none⟩ = some (.int .i64 x) := y0
          clear hc hx
          have LR := Lib.hid (ls_round (x := x) HB.out XB.out HT.out)
          have zr : ∀ k, wr.frozen? ⟨w.heap.size, k, none⟩ = false := fun k => by simp [World.frozen?, XB.out]
          clear x0d x1d x2d x3d y0d
          go_wp2_with fail
          go_region
          go_wp2_with fail
          go_roundw
          case rel => exact ⟨(i : Int) - 1, i, 4, 0, ⟨#[46]⟩, some ⟨wr.heap.size, 0, none⟩, 2, 2, rfl, rfl, by omega, LR.out.1, LR.out.2.1, by rw [ED.out]; exact LR.out.2.2⟩
          case measure => first | (simp [intOf]; done) | (simp [intOf]; omega)
        | zero =>
          obtain rfl : z = -1 := by omega
          clear hz
          rw [List.drop_zero] at HT
          have hrt : restT nilT := .inl rfl
          obtain ⟨hwr, hfit, hnd, _, _, hlv, _⟩ := ls_ok hrt l HX.out
          have hgood := ls_good hrt HX.out hl200
          obtain ⟨t, htt⟩ : ∃ t, lsT nilT l = t := ⟨_, rfl⟩
          obtain ⟨r, hr⟩ := ls_text (b := nilT) (l := l) (fun _ => rfl)
          rw [htt] at HT hwr hfit hnd hlv hgood hr
          have G := Lib.hid (HT.out.gt)
          obtain ⟨s0, hs0⟩ : ∃ s0, ba (txB (nmV []) t).1 = s0 := ⟨_, rfl⟩
          have TO := Lib.hid (show TextOf [] t s0 from .inl ⟨hgood, hs0.symm⟩)
          have hd0 : s0.data.toList = 91 :: (r ++ [93]) := by rw [← hs0, ba_list, hr]
          have HS := Lib.hid (back_alikeX (X := False) hwr hfit hs0.symm fun h => h.elim)
          have HLV := Lib.hid hlv
          have HD := Lib.hid hd0
          have hse : (s0.toList == []) = false := by
            rw [eq_str]
            exact decide_eq_false fun e => by rw [e, ba_list] at hd0; cases hd0
          have CP := Lib.hid ((pwrite_any (by omega) hfit _ _ wr G.out (HTX.out.below HB.out)).mono fun e w' h => nm_fix TO.out h)
          have CR := Lib.hid (fun (W : World) (k : Below wr.heap.size wr W) => (rwrite_any (by omega) hfit _ _ W (G.out.below k)).mono fun e w' h => nm_fix TO.out h)
          have hss : (s0.toList == s0.toList) = true := beq_self_eq_true _
          obtain ⟨K, hKr⟩ : ∃ K, K = r.length + 1 := ⟨_, rfl⟩
          have hK : s0.size = K + 1 := by rw [← len_u s0, hd0, hKr]; simp
          have hKb : K ≤ 1000000000000 := by
            have h1 := (tx_len namesFit_nil t hwr hfit).1
            rw [hr] at h1
            simp only [List.length_cons, List.length_append, List.length_nil] at h1
            omega
          have h91 : ∀ h : 0 < s0.size, ((s0[0]'h).toNat : Int) = 91 := fun h => by rw [ba_at h (c := 91) (by rw [hd0]; rfl)]; rfl
          have h93 : ∀ h : K < s0.size, ((s0[K]'h).toNat : Int) = 93 := fun h => by rw [ba_at h (c := 93) (by rw [hd0, hKr]; simp)]; rfl
          clear hs0 hd0 hr hgood hfit hwr hlv hrt hKr
          go_wp2_with fail
          refine CP.out.mono ?_
          rintro e w2 ⟨rfl, hb2⟩
          have B2 := Lib.hid hb2
          have X2 := Lib.hid ((hb2.block _ hbl).trans XB.out)
          have hl2 := heap_lt X2.out
          clear x0 x1 x2 x3 hb2
          obtain ⟨x0, x1, x2, x3⟩ := box4t X2.out
          have C2 := Lib.hid (CR.out w2 B2.out)
          clear CP CR
          go_wp2_with fail
          refine C2.out.mono ?_
          rintro e w3 ⟨rfl, hb3⟩
          have B3 := Lib.hid (B2.out.trans (hb3.mono B2.out.size))
          have X3 := Lib.hid ((hb3.block _ hl2).trans X2.out)
          have hl3 := heap_lt X3.out
          clear x0 x1 x2 x3 hb3 C2
          have W3 := Lib.hid (HB.out.trans (B3.out.mono HB.out.size))
          have C3 := Lib.hid (onex_any s0 w3)
          go_wp2_with fail
          refine C3.out.mono ?_
          rintro e w4 ⟨⟨k2, n2, nm2, A2, m2, c2, NA2, nn2, nc2, p2, er2, rfl, h0, h1⟩, hb4⟩
          have B4 := Lib.hid (B3.out.trans (hb4.mono B3.out.size))
          have W4 := Lib.hid (W3.out.trans (hb4.mono W3.out.size))
          have X4 := Lib.hid ((hb4.block _ hl3).trans X3.out)
          have hl4 := heap_lt X4.out
          by_cases he2 : er2 = 0
          · subst he2
            obtain ⟨u, ns, h2, h3, _, _⟩ := h0.out rfl
            obtain ⟨qs, hq⟩ : ∃ qs, Alk t u [] qs := by
              rcases HS.out with ⟨_, _, h4, _⟩ | ⟨u', ns', qs, h4, h5⟩
              · rw [h4] at h2; cases h2
              · rw [h4] at h2
                injection h2 with h2
                injection h2 with h2 _
                subst h2
                exact ⟨qs, h5⟩
            have BZ := Lib.hid (belA (Below.refl w4.heap.size w4) (Obj.cells #[.int .i64 k2, .int .i64 n2, .string nm2, .slice A2 m2 c2, .slice NA2 nn2 nc2] 27))
            have X5 := Lib.hid ((BZ.out.block _ hl4).trans X4.out)
            have Z5 := Lib.hid (heap_alloc_new w4 (Obj.cells #[.int .i64 k2, .int .i64 n2, .string nm2, .slice A2 m2 c2, .slice NA2 nn2 nc2] 27))
            have CA := Lib.hid (alike_any t u [] qs _ _ _ _ _ _ hq (G.out.below (B4.out.trans (BZ.out.mono B4.out.size))) (h3.gt.below BZ.out) (PRw.nil _) (by simp; omega))
            obtain ⟨x0, x1, x2, x3⟩ := box4t X5.out
            obtain ⟨z0, z1, z2, z3, _⟩ := box5 Z5.out
            clear h0 h1 h2 h3 hb4 C3 hq h91 h93 hse hss
            go_wp2_with fail
            refine CA.out.mono ?_
            rintro e w5 ⟨v5, rfl, _, hb5⟩
            have W5 := Lib.hid ((W4.out.trans (BZ.out.mono W4.out.size)).trans (hb5.mono (Nat.le_trans W4.out.size BZ.out.size)))
            clear hb5 CA x0 x1 x2 x3 z0 z1 z2 z3
            go_wp2_with fail
            go_ret
            exact ⟨rfl, W5.out⟩
          · have hor : er2 = 33 ∨ er2 = 34 := by
              obtain ⟨h2, _⟩ := h1.out he2
              rcases HS.out with ⟨_, _, h4, h5⟩ | ⟨u', ns', qs, h4, h5⟩
              · rw [h4] at h2
                injection h2 with h2
                injection h2 with _ h2
                rw [← h2]
                rcases h5 with h | h | h
                · exact .inl h.1
                · exact .inr h.1
                · have := HLV.out; omega
              · rw [h4] at h2; cases h2
            have W5 := Lib.hid (belA W4.out (Obj.cells #[.int .i64 k2, .int .i64 n2, .string nm2, .slice A2 m2 c2, .slice NA2 nn2 nc2] 27))
            clear h0 h1 hb4 C3
            rcases hor with rfl | rfl
            all_goals
              go_wp2_with fail
              go_ret
              exact ⟨rfl, W5.out⟩
    | true =>
      have hl0 : l.length = 0 := by
        rcases Nat.eq_zero_or_pos l.length with h | h
        · exact h
        · exact absurd ⟨rfl, h⟩ hop
      have hl0' : ¬ ((0 : Int) < (l.length : Int)) := by omega
      have HNIL := Lib.hid (show l = [] from List.eq_nil_of_length_eq_zero hl0)
      clear hop
      have NA := Lib.hid (heap_alloc_new w (Obj.cells #[.int .i64 3, .int .i64 0, .string ⟨#[91, 93]⟩, .slice none 0 0] 24))
      have BA := Lib.hid (belA (Below.refl w.heap.size w) (Obj.cells #[.int .i64 3, .int .i64 0, .string ⟨#[91, 93]⟩, .slice none 0 0] 24))
      go_enter Tryd.func5, Tryd.ntmps5
      go_wp2_with fail
      go_loopw [6] (fun iv wr => ∃ (z : Int) (j : Nat) (q0 q1 : Int) (q2 : ByteArray) (q3 : Option Addr) (q4 q5 : Nat), iv = .int .i64 z ∧ z = (j : Int) - 1 ∧ j ≤ l.length ∧ Below w.heap.size w wr ∧ wr.heap[w.heap.size]? = some (.cells #[.int .i64 q0, .int .i64 q1, .string q2, .slice q3 q4 q5] 24 (0, 0)) ∧ TP wr (fun b => w.heap.size < b) (lsT nilT (l.drop j)) (.agg #[.int .i64 q0, .int .i64 q1, .string q2, .slice q3 q4 q5])) (fun iv _ => (intOf iv + 1).toNat)
      case atStart =>
        exact ⟨-1, 0, 3, 0, ⟨#[91, 93]⟩, none, 0, 0, rfl, rfl, Nat.zero_le _, BA.out, NA.out, by rw [List.drop_zero, HNIL.out]; exact TP.leaf _ _ 3 0 ⟨#[91, 93]⟩⟩
      case round =>
        obtain ⟨z, j, q0, q1, q2, q3, q4, q5, rfl, hz, hj, hb, hxb, ht⟩ := hrel
        have HB := Lib.hid hb
        have XB := Lib.hid hxb
        have HT := Lib.hid ht
        obtain ⟨x0, x1, x2, x3⟩ := box4t hxb
        have hbl := heap_lt hxb
        clear hb hxb ht
        cases j with
        | succ i => exact absurd hj (by omega)
        | zero =>
          obtain rfl : z = -1 := by omega
          clear hz
          rw [List.drop_zero] at HT
          have hrt : restT nilT := .inl rfl
          obtain ⟨hwr, hfit, hnd, _, _, hlv, _⟩ := ls_ok hrt l HX.out
          have hgood := ls_good hrt HX.out hl200
          obtain ⟨t, htt⟩ : ∃ t, lsT nilT l = t := ⟨_, rfl⟩
          obtain ⟨r, hr⟩ := ls_text (b := nilT) (l := l) (fun _ => rfl)
          rw [htt] at HT hwr hfit hnd hlv hgood hr
          have G := Lib.hid (HT.out.gt)
          obtain ⟨s0, hs0⟩ : ∃ s0, ba (txB (nmV []) t).1 = s0 := ⟨_, rfl⟩
          have TO := Lib.hid (show TextOf [] t s0 from .inl ⟨hgood, hs0.symm⟩)
          have hd0 : s0.data.toList = 91 :: (r ++ [93]) := by rw [← hs0, ba_list, hr]
          have HS := Lib.hid (back_alikeX (X := False) hwr hfit hs0.symm fun h => h.elim)
          have HLV := Lib.hid hlv
          have HD := Lib.hid hd0
          have hse : (s0.toList == []) = false := by
            rw [eq_str]
            exact decide_eq_false fun e => by rw [e, ba_list] at hd0; cases hd0
          have CP := Lib.hid ((pwrite_any (by omega) hfit _ _ wr G.out (HTX.out.below HB.out)).mono fun e w' h => nm_fix TO.out h)
          have CR := Lib.hid (fun (W : World) (k : Below wr.heap.size wr W) => (rwrite_any (by omega) hfit _ _ W (G.out.below k)).mono fun e w' h => nm_fix TO.out h)
          have hss : (s0.toList == s0.toList) = true := beq_self_eq_true _
          obtain ⟨K, hKr⟩ : ∃ K, K = r.length + 1 := ⟨_, rfl⟩
          have hK : s0.size = K + 1 := by rw [← len_u s0, hd0, hKr]; simp
          have hKb : K ≤ 1000000000000 := by
            have h1 := (tx_len namesFit_nil t hwr hfit).1
            rw [hr] at h1
            simp only [List.length_cons, List.length_append, List.length_nil] at h1
            omega
          have h91 : ∀ h : 0 < s0.size, ((s0[0]'h).toNat : Int) = 91 := fun h => by rw [ba_at h (c := 91) (by rw [hd0]; rfl)]; rfl
          have h93 : ∀ h : K < s0.size, ((s0[K]'h).toNat : Int) = 93 := fun h => by rw [ba_at h (c := 93) (by rw [hd0, hKr]; simp)]; rfl
          clear hs0 hd0 hr hgood hfit hwr hlv hrt hKr
          go_wp2_with fail
          refine CP.out.mono ?_
          rintro e w2 ⟨rfl, hb2⟩
          have B2 := Lib.hid hb2
          have X2 := Lib.hid ((hb2.block _ hbl).trans XB.out)
          have hl2 := heap_lt X2.out
          clear x0 x1 x2 x3 hb2
          obtain ⟨x0, x1, x2, x3⟩ := box4t X2.out
          have C2 := Lib.hid (CR.out w2 B2.out)
          clear CP CR
          go_wp2_with fail
          refine C2.out.mono ?_
          rintro e w3 ⟨rfl, hb3⟩
          have B3 := Lib.hid (B2.out.trans (hb3.mono B2.out.size))
          have X3 := Lib.hid ((hb3.block _ hl2).trans X2.out)
          have hl3 := heap_lt X3.out
          clear x0 x1 x2 x3 hb3 C2
          have W3 := Lib.hid (HB.out.trans (B3.out.mono HB.out.size))
          have C3 := Lib.hid (onex_any s0 w3)
          go_wp2_with fail
          refine C3.out.mono ?_
          rintro e w4 ⟨⟨k2, n2, nm2, A2, m2, c2, NA2, nn2, nc2, p2, er2, rfl, h0, h1⟩, hb4⟩
          have B4 := Lib.hid (B3.out.trans (hb4.mono B3.out.size))
          have W4 := Lib.hid (W3.out.trans (hb4.mono W3.out.size))
          have X4 := Lib.hid ((hb4.block _ hl3).trans X3.out)
          have hl4 := heap_lt X4.out
          by_cases he2 : er2 = 0
          · subst he2
            obtain ⟨u, ns, h2, h3, _, _⟩ := h0.out rfl
            obtain ⟨qs, hq⟩ : ∃ qs, Alk t u [] qs := by
              rcases HS.out with ⟨_, _, h4, _⟩ | ⟨u', ns', qs, h4, h5⟩
              · rw [h4] at h2; cases h2
              · rw [h4] at h2
                injection h2 with h2
                injection h2 with h2 _
                subst h2
                exact ⟨qs, h5⟩
            have BZ := Lib.hid (belA (Below.refl w4.heap.size w4) (Obj.cells #[.int .i64 k2, .int .i64 n2, .string nm2, .slice A2 m2 c2, .slice NA2 nn2 nc2] 27))
            have X5 := Lib.hid ((BZ.out.block _ hl4).trans X4.out)
            have Z5 := Lib.hid (heap_alloc_new w4 (Obj.cells #[.int .i64 k2, .int .i64 n2, .string nm2, .slice A2 m2 c2, .slice NA2 nn2 nc2] 27))
            have CA := Lib.hid (alike_any t u [] qs _ _ _ _ _ _ hq (G.out.below (B4.out.trans (BZ.out.mono B4.out.size))) (h3.gt.below BZ.out) (PRw.nil _) (by simp; omega))
            obtain ⟨x0, x1, x2, x3⟩ := box4t X5.out
            obtain ⟨z0, z1, z2, z3, _⟩ := box5 Z5.out
            clear h0 h1 h2 h3 hb4 C3 hq h91 h93 hse hss
            go_wp2_with fail
            refine CA.out.mono ?_
            rintro e w5 ⟨v5, rfl, _, hb5⟩
            have W5 := Lib.hid ((W4.out.trans (BZ.out.mono W4.out.size)).trans (hb5.mono (Nat.le_trans W4.out.size BZ.out.size)))
            clear hb5 CA x0 x1 x2 x3 z0 z1 z2 z3
            go_wp2_with fail
            go_ret
            exact ⟨rfl, W5.out⟩
          · have hor : er2 = 33 ∨ er2 = 34 := by
              obtain ⟨h2, _⟩ := h1.out he2
              rcases HS.out with ⟨_, _, h4, h5⟩ | ⟨u', ns', qs, h4, h5⟩
              · rw [h4] at h2
                injection h2 with h2
                injection h2 with _ h2
                rw [← h2]
                rcases h5 with h | h | h
                · exact .inl h.1
                · exact .inr h.1
                · have := HLV.out; omega
              · rw [h4] at h2; cases h2
            have W5 := Lib.hid (belA W4.out (Obj.cells #[.int .i64 k2, .int .i64 n2, .string nm2, .slice A2 m2 c2, .slice NA2 nn2 nc2] 27))
            clear h0 h1 hb4 C3
            rcases hor with rfl | rfl
            all_goals
              go_wp2_with fail
              go_ret
              exact ⟨rfl, W5.out⟩
end Go.Proofs.YtiefbdblefliaaaDoor
