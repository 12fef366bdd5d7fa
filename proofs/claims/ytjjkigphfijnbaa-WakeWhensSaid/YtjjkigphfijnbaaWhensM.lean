/- The walk through term.Vars and its closure. The walks through slices.Index, Contains, Grow, Concat and wake.union. The walk through wake.both. The walk through wake.When. The walk through the law WakeWhens. -/
import Derived.Test.YtjjkigphfijnbaaVars
import Derived.Test.YtjjkigphfijnbaaUni3
import Derived.Lib.AppendZerosOnto
import Derived.Test.YtjjkigphfijnbaaWhenR
import Derived.Test.YtjjkigphfijnbaaWOne
namespace Go.Proofs.Ytjjkigphfijnbaa
open Go.RowKit

theorem targs_yes {k n : Int} {s : ByteArray} {A : Option Addr} {m c : Nat} (hk : (k == 4) = true) (w : World) :
    Calls Try.prog 68 #[.agg #[.int .i64 k, .int .i64 n, .string s, .slice A m c]] w fun e w' => e = .returned (.slice A m c) ∧ Below w.heap.size w w' := by
  have hk' : (k != 4) = false := by simpa using hk
  clear hk
  go_enter Try.func68, Try.ntmps68
  go_wp2_with fail
  go_ret
  exact ⟨rfl, (Below.refl _ _).alloc (Nat.le_refl _) _⟩
theorem targs_no {k n : Int} {s : ByteArray} {A : Option Addr} {m c : Nat} (hk : (k == 4) = false) (w : World) :
    Calls Try.prog 68 #[.agg #[.int .i64 k, .int .i64 n, .string s, .slice A m c]] w fun e w' => e = .returned (.slice none 0 0) ∧ Below w.heap.size w w' := by
  have hk' : (k != 4) = true := by simpa using hk
  clear hk
  go_enter Try.func68, Try.ntmps68
  go_wp2_with fail
  go_ret
  exact ⟨rfl, (Below.refl _ _).alloc (Nat.le_refl _) _⟩
def fnV (Sb Ob Wb : Nat) : Value := .func (.func 67) #[] #[.pointer (some ⟨Sb, 0, none⟩), .pointer (some ⟨Ob, 0, none⟩), .pointer (some ⟨Wb, 0, none⟩)]
/-- Where the closure stands: what was gathered. -/
structure Vc (w0 w : World) (Sb Ob Wb sb : Nat) (acc : List Int) : Prop where
  bs : w.heap[Sb]? = some (.cells #[.map (some sb)] 110 (0, 0))
  bw : w.heap[Wb]? = some (.cells #[fnV Sb Ob Wb] 111 (0, 0))
  bo : ∃ A c, w.heap[Ob]? = some (.cells #[.slice A acc.length c] 28 (0, 0)) ∧ ORow w w0.heap.size (.slice A acc.length c) acc
  seen : IM w sb acc.length (seenM acc)
  nd : acc.Nodup
  rng : ∀ x ∈ acc, 0 ≤ x ∧ x < 1000
  low : Below w0.heap.size w0 w
  o0 : w0.heap.size ≤ Ob
  s0 : w0.heap.size ≤ sb
theorem Vc.below {w0 w w' : World} {Sb Ob Wb sb : Nat} {acc : List Int} (h : Vc w0 w Sb Ob Wb sb acc) (hb : Below w.heap.size w w') : Vc w0 w' Sb Ob Wb sb acc := by
  obtain ⟨A, c, h1, h2⟩ := h.bo
  exact ⟨(hb.block _ (heap_lt h.bs)).trans h.bs, (hb.block _ (heap_lt h.bw)).trans h.bw, ⟨A, c, (hb.block _ (heap_lt h1)).trans h1, h2.below hb⟩, h.seen.keep (hb.block sb h.seen.lt), h.nd, h.rng, h.low.trans (hb.mono h.low.size), h.o0, h.s0⟩
theorem Vc.few {w0 w : World} {Sb Ob Wb sb : Nat} {acc : List Int} (h : Vc w0 w Sb Ob Wb sb acc) : acc.length ≤ 1000 := nodup_few 1000 _ h.nd h.rng
theorem Vc.asked {w0 w : World} {Sb Ob Wb sb : Nat} {acc : List Int} (h : Vc w0 w Sb Ob Wb sb acc) {i : Int} (h0 : 0 ≤ i) (h1 : i < 1000) :
    (Instr.lookup 110 (.map (some sb)) (.int .i64 i) false).run Try.prog w = .ok (.bool (decide (i ∈ acc))) w := by
  have := h.seen.look1 Try.underlying110 (zeroB w) (i := i) ⟨by omega, by omega⟩
  rw [this]
  by_cases hi : i ∈ acc <;> simp [seenM, hi]
theorem seenM_snoc (acc : List Int) (i : Int) : putI (seenM acc) i (.bool true) = seenM (acc ++ [i]) := by
  funext j
  by_cases h : j = i <;> simp [putI, seenM, h]
/-- A new one: stored into the map .. -/
theorem Vc.mark {w0 w : World} {Sb Ob Wb sb : Nat} {acc : List Int} (h : Vc w0 w Sb Ob Wb sb acc) {i : Int} (h0 : 0 ≤ i) (h1 : i < 1000) :
    ∃ w', (Instr.mapUpdate 110 (.map (some sb)) (.int .i64 i) (.bool true)).run Try.prog w = .ok () w' ∧ IM w' sb (acc.length + 1) (seenM (acc ++ [i])) ∧ w.mapTurned w' sb := by
  obtain ⟨w', a1, a2, a3⟩ := h.seen.store Try.underlying110 (by have := h.few; unfold maxLen; omega) (i := i) ⟨by omega, by omega⟩ (.bool true)
  rw [seenM_snoc] at a2
  exact ⟨w', a1, a2, a3⟩
/-- .. and onto the row. -/
theorem Vc.add {w0 w w1 w2 W : World} {Sb Ob Wb sb : Nat} {acc : List Int} {A : Option Addr} {c g cap : Nat} {i : Int} (h : Vc w0 w Sb Ob Wb sb acc) (hbo : w.heap[Ob]? = some (.cells #[.slice A acc.length c] 28 (0, 0))) (hor : ORow w w0.heap.size (.slice A acc.length c) acc)
    (hi : i ∉ acc) (h0 : 0 ≤ i) (h1 : i < 1000) (him : IM w1 sb (acc.length + 1) (seenM (acc ++ [i]))) (ht : w.mapTurned w1 sb) (o : Obj) (hown : w2.ownsRow w0.heap.size 3 1 (.slice (some ⟨g, 0, none⟩) (acc.length + 1) cap) (acc.length + 1) (acc.map (Value.int .i64) ++ [.int .i64 i]))
    (hg : (w1.alloc o).grownBy w2 (Value.slice A acc.length c).ownBlock) (hW : W = w2.setCell ⟨Ob, 0, none⟩ (.slice (some ⟨g, 0, none⟩) (acc.length + 1) cap)) : Vc w0 W Sb Ob Wb sb (acc ++ [i]) := by
  obtain ⟨es, cl, hmm⟩ := h.seen.is
  have hsz := turned_size ht
  have keepT : ∀ {b : Nat} {cs : Array Value} {ty : TypeId} {m : Nat × Nat}, w.heap[b]? = some (.cells cs ty m) → w1.heap[b]? = some (.cells cs ty m) := fun {b cs ty m} hb => by
    refine (turned_block ht b ?_).trans hb
    rintro rfl
    rw [hmm] at hb
    cases hb
  have hor1 : ORow w1 w0.heap.size (.slice A acc.length c) acc := own_keep hor fun b hb => by
    obtain ⟨cs, f, hh⟩ := Go.Lib.ownsRow_kind hor b hb
    exact (keepT hh).trans hh.symm
  have ba : Below w1.heap.size w1 (w1.alloc o) := belA (Below.refl _ _) o
  have keep2 : ∀ {b : Nat} {cs : Array Value} {ty : TypeId} {m : Nat × Nat}, w.heap[b]? = some (.cells cs ty m) → ty ≠ 3 → w2.heap[b]? = some (.cells cs ty m) := fun {b cs ty m} hb hne =>
    grownFar (own_below hor1 ba) hg ((ba.block b (heap_lt (keepT hb))).trans (keepT hb)) fun _ _ => cellsNe hne
  have keepW : ∀ {b : Nat} {cs : Array Value} {ty : TypeId} {m : Nat × Nat}, w.heap[b]? = some (.cells cs ty m) → ty ≠ 3 → ty ≠ 28 → W.heap[b]? = some (.cells cs ty m) := fun {b cs ty m} hb hne hne2 => by
    rw [hW]
    refine (Below.heap_setCell _ _ _ b ?_).trans (keep2 hb hne)
    rintro rfl
    rw [show w.heap[_]? = _ from hbo] at hb
    injection hb with hb
    injection hb with _ hb
    exact hne2 hb.symm
  have hb2 := keep2 hbo (by decide)
  have hob : W.heap[Ob]? = some (.cells #[.slice (some ⟨g, 0, none⟩) (acc.length + 1) cap] 28 (0, 0)) := by rw [hW]; simpa using blk_set hb2 0 (.slice (some ⟨g, 0, none⟩) (acc.length + 1) cap)
  have hnd : (acc ++ [i]).Nodup := by
    rw [List.nodup_append]
    exact ⟨h.nd, by simp, fun a ha b hb => by simp at hb; subst hb; exact fun e => hi (e ▸ ha)⟩
  have hsb : sb ≠ Ob := by rintro rfl; rw [hmm] at hbo; cases hbo
  have hm1 : ∃ es cl, w1.heap[sb]? = some (.map es cl) := him.is
  obtain ⟨es1, cl1, hm1⟩ := hm1
  have hm2 : w2.heap[sb]? = w1.heap[sb]? := (grownFar (own_below hor1 ba) hg ((ba.block sb (heap_lt hm1)).trans hm1) (fun _ _ e => by cases e)).trans hm1.symm
  refine ⟨keepW h.bs (by decide) (by decide), keepW h.bw (by decide) (by decide), ⟨_, cap, by rw [List.length_append]; exact hob, ?_⟩, ?_, hnd, fun x hx => ?_, ?_, h.o0, h.s0⟩
  · rw [hW]
    have : ORow w2 w0.heap.size (.slice (some ⟨g, 0, none⟩) (acc.length + 1) cap) (acc ++ [i]) := ORow.push hown
    rw [List.length_append]
    refine own_keep this fun b hb => Below.heap_setCell _ _ _ b ?_
    rintro rfl
    obtain ⟨cs, f, hh⟩ := Go.Lib.ownsRow_kind this _ hb
    rw [show w2.heap[_]? = _ from hb2] at hh
    injection hh with hh
    injection hh with _ hh
    exact absurd hh (by decide)
  · rw [List.length_append]
    refine him.keep ?_
    rw [hW, Below.heap_setCell _ _ _ sb hsb]
    exact hm2
  · rcases List.mem_append.mp hx with hx | hx
    · exact h.rng x hx
    · simp at hx; subst hx; exact ⟨h0, h1⟩
  · rw [hW]
    exact (((Below.turned h.low ht h.s0).alloc (by have := h.low.size; omega) o).grown hg (by have := h.low.size; simp; omega) fun k hk => (hor.lt k hk).1).setCell (p := ⟨Ob, 0, none⟩) h.o0 _
set_option maxRecDepth 100000 in
set_option maxHeartbeats 8000000 in
theorem vc_any {w0 : World} {Sb Ob Wb sb : Nat} : ∀ (t : T), t.ok → ∀ (w : World) (v : Value) (acc : List Int), Vc w0 w Sb Ob Wb sb acc → TP w0 (fun _ => True) t v →
    Calls Try.prog 67 #[v, .pointer (some ⟨Sb, 0, none⟩), .pointer (some ⟨Ob, 0, none⟩), .pointer (some ⟨Wb, 0, none⟩)] w fun e w' => e = .returned (.tuple #[]) ∧ Vc w0 w' Sb Ob Wb sb (addAll acc (varsT t)) := by
  intro t
  induction t with
  | nil => exact fun h => h.1.elim
  | mk k n s m a ih =>
    intro hok w v acc hvc hv
    obtain ⟨A, c, rfl, hmc, hA, hx⟩ := hv
    have HX := Lib.hid hx
    have OK := Lib.hid hok
    have IH := Lib.hid ih
    have hm : m ≤ 1000 := Nat.le_of_lt hok.few
    obtain ⟨W, hW⟩ : ∃ W, W = w.alloc (Obj.cells #[.int .i64 k, .int .i64 n, .string s, .slice A m c] 34) := ⟨_, rfl⟩
    have V := Lib.hid (show Vc w0 W Sb Ob Wb sb acc by rw [hW]; exact hvc.below (belA (Below.refl _ _) _))
    have X := Lib.hid (show W.heap[w.heap.size]? = some (.cells #[.int .i64 k, .int .i64 n, .string s, .slice A m c] 34 (0, 0)) by rw [hW]; exact heap_alloc_new _ _)
    have HW := Lib.hid hW
    obtain ⟨OA, oc, hbo, hor⟩ := V.out.bo
    have HBO := Lib.hid hbo
    have HOR := Lib.hid hor
    obtain ⟨x0, x1, x2, x3⟩ := box4 X.out
    have hgl := heap_lt X.out
    have b0 := cell_of_row W Sb 0 _ _ _ V.out.bs
    have b1 := cell_of_row W Ob 0 _ _ _ hbo
    have b2 := cell_of_row W Wb 0 _ _ _ V.out.bw
    have l0 := heap_lt V.out.bs
    have l1 := heap_lt hbo
    have l2 := heap_lt V.out.bw
    have hs0 := hvc.low.size
    have hfew := V.out.few
    have hOb : Ob < w.heap.size := by
      obtain ⟨_, _, hh, _⟩ := hvc.bo
      exact heap_lt hh
    obtain ⟨item, ii1, ii2, ii3, ii4⟩ := elInt8.hi
    clear hvc hx hok ih hA hbo hor hW
    cases hk1 : (k == 1) with
    | true =>
      have hk : k = 1 := by simpa using hk1
      have hk4 : (k == 4) = false := by rw [hk]; rfl
      have hn0 := (OK.out.var hk).1
      have hn1 := (OK.out.var hk).2.1
      have EV := Lib.hid (show varsT (.mk k n s m a) = [n] by unfold varsT; rw [if_pos hk])
      have RS := V.out.asked hn0 hn1
      clear hk
      by_cases hmem : n ∈ acc
      · have E := Lib.hid (show addAll acc (varsT (.mk k n s m a)) = acc by rw [EV.out]; exact if_pos hmem)
        rw [decide_eq_true hmem] at RS
        clear hmem
        go_enter Try.func67, Try.ntmps67
        go_upto_region 1 with fail
        rw [← HW.out]
        go_wp2_with fail
        refine (targs_no hk4 _).mono ?_
        rintro e w6 ⟨rfl, h6⟩
        have V6 := Lib.hid (V.out.below h6)
        clear h6
        go_wp2_with fail
        go_loopw [6, 28] (fun _ iv wr => iv = .int .i64 0 ∧ wr = w6) (fun _ _ _ => 0)
        case atStart => exact ⟨rfl, rfl⟩
        case round =>
          obtain ⟨rfl, rfl⟩ := hrel
          go_wp2_with fail
          go_end0
          exact ⟨rfl, by rw [E.out]; exact V6.out⟩
      · have E := Lib.hid (show addAll acc (varsT (.mk k n s m a)) = acc ++ [n] by rw [EV.out]; exact if_neg hmem)
        rw [decide_eq_false hmem] at RS
        have HM := Lib.hid hmem
        obtain ⟨w1, hrun, him, hturn⟩ := V.out.mark hn0 hn1
        have HIM := Lib.hid him
        have HT := Lib.hid hturn
        have kT : ∀ {b : Nat} {cs : Array Value} {ty : TypeId} {m : Nat × Nat}, W.heap[b]? = some (.cells cs ty m) → w1.heap[b]? = some (.cells cs ty m) := fun {b cs ty m} hb => by
          refine (turned_block hturn b ?_).trans hb
          rintro rfl
          obtain ⟨es, cl, hmm⟩ := V.out.seen.is
          rw [hmm] at hb
          cases hb
        have X1 := kT X.out
        have HBO1 := kT HBO.out
        obtain ⟨z0, z1, z2, z3⟩ := box4 X1
        have y1 := cell_of_row w1 Ob 0 _ _ _ HBO1
        have hl1 := heap_lt HBO1
        have hglx := heap_lt X1
        have HOR1 := Lib.hid (show ORow w1 w0.heap.size (.slice OA acc.length oc) acc from own_keep HOR.out fun b hb => by
          obtain ⟨cs, f, hh⟩ := Go.Lib.ownsRow_kind HOR.out b hb
          exact (kT hh).trans hh.symm)
        have HX1 := Lib.hid X1
        have HO1 := Lib.hid HBO1
        have hsz := turned_size hturn
        have HSZ := Lib.hid hsz
        have hWs : w0.heap.size ≤ W.heap.size := V.out.low.size
        have hw1s : w0.heap.size ≤ w1.heap.size := by omega
        clear him hturn kT X1 HBO1 hmem hsz
        go_enter Try.func67, Try.ntmps67
        go_upto_region 1 with fail
        rw [← HW.out]
        go_wp2_with (at_builtin; go_must (refine wpList_append_lies _ rfl _ _ _ rfl w0.heap.size 3 item (.int .i64 0) 1 8 Try.underlying28 ii1 ii2 ii3 ii4 rfl (by omega) _ acc.length _ rfl (own_below HOR1.out (belA (Below.refl _ _) _)) ⟨w1.heap.size, 0, none⟩ 1 1 [.int .i64 n] rfl rfl (World.news_of_block (heap_alloc_new _ _)) ?_ (by omega) (by unfold maxLen; omega) (by omega) (by simp; omega) _ rfl ?_))
        · first
          | rfl
          | (intro u hu
             simp only [List.mem_cons, List.not_mem_nil, or_false] at hu
             rcases hu with rfl
             rfl)
        intro g1 cap1 w3 hown3 hg3 hat3 hlt3
        have hw1a := belA (Below.refl w1.heap.size w1) (Obj.cells #[.int .i64 n] 3)
        have O3 := grownFar (own_below HOR1.out hw1a) hg3 ((hw1a.block _ hl1).trans HO1.out) fun _ _ => cellsNe (by decide)
        have X3 := grownFar (own_below HOR1.out hw1a) hg3 ((hw1a.block _ hglx).trans HX1.out) fun _ _ => cellsNe (by decide)
        have of3 : ∀ j, w3.frozen? ⟨Ob, j, none⟩ = false := fun j => by simp [World.frozen?, O3]
        have oc3 := cell_of_row w3 Ob 0 _ _ _ O3
        have ol3 := heap_lt O3
        have VA := Lib.hid (Vc.add V.out HBO.out HOR.out HM.out hn0 hn1 HIM.out HT.out _ hown3 hg3 rfl)
        obtain ⟨y0, y1', y2, y3⟩ := box4 ((Below.heap_setCell w3 ⟨Ob, 0, none⟩ (.slice (some ⟨g1, 0, none⟩) (acc.length + 1) cap1) w.heap.size (Nat.ne_of_gt hOb)).trans X3)
        have hgX3 := heap_lt X3
        clear hown3 hg3 hat3 hlt3 hw1a O3 X3 hrun RS
        go_wp2_with fail
        refine (targs_no hk4 _).mono ?_
        rintro e w6 ⟨rfl, h6⟩
        have V6 := Lib.hid (VA.out.below h6)
        clear h6
        go_wp2_with fail
        go_loopw [6, 28] (fun _ iv wr => iv = .int .i64 0 ∧ wr = w6) (fun _ _ _ => 0)
        case atStart => exact ⟨rfl, rfl⟩
        case round =>
          obtain ⟨rfl, rfl⟩ := hrel
          go_wp2_with fail
          go_end0
          exact ⟨rfl, by rw [E.out]; exact V6.out⟩
    | false =>
      have hk1n : ¬ k = 1 := by simpa using hk1
      cases hk4 : (k == 4) with
      | false =>
        have E := Lib.hid (show addAll acc (varsT (.mk k n s m a)) = acc by unfold varsT; rw [if_neg hk1n, if_neg (by simpa using hk4)]; rfl)
        clear hk1n
        go_enter Try.func67, Try.ntmps67
        go_upto_region 1 with fail
        rw [← HW.out]
        go_wp2_with fail
        refine (targs_no hk4 _).mono ?_
        rintro e w6 ⟨rfl, h6⟩
        have V6 := Lib.hid (V.out.below h6)
        clear h6
        go_wp2_with fail
        go_loopw [6, 28] (fun _ iv wr => iv = .int .i64 0 ∧ wr = w6) (fun _ _ _ => 0)
        case atStart => exact ⟨rfl, rfl⟩
        case round =>
          obtain ⟨rfl, rfl⟩ := hrel
          go_wp2_with fail
          go_end0
          exact ⟨rfl, by rw [E.out]; exact V6.out⟩
      | true =>
        obtain ⟨ff, hff⟩ : ∃ ff : Nat → List Int, (fun i => varsT (a i)) = ff := ⟨_, rfl⟩
        have FI := Lib.hid (show ∀ i, varsT (a i) = ff i from fun i => by rw [← hff])
        have E := Lib.hid (show addAll acc (varsT (.mk k n s m a)) = foldN m ff acc by
          rw [show k = 4 by simpa using hk4, varsT_cmp, hff]; exact foldN_acc acc)
        clear hk1n hff
        go_enter Try.func67, Try.ntmps67
        go_upto_region 1 with fail
        rw [← HW.out]
        go_wp2_with fail
        refine (targs_yes hk4 _).mono ?_
        rintro e w6 ⟨rfl, h6⟩
        have V6 := Lib.hid (V.out.below h6)
        clear h6 x0 x1 x2 x3 b0 b1 b2
        go_wp2_with fail
        go_loopw [6, 28] (fun _ iv wr => ∃ i : Nat, iv = .int .i64 (i : Int) ∧ i ≤ m ∧ Vc w0 wr Sb Ob Wb sb (foldN i ff acc)) (fun _ iv _ => m - (intOf iv).toNat)
        case atStart => exact ⟨0, rfl, Nat.zero_le _, V6.out⟩
        case round =>
          clear V6
          obtain ⟨i, rfl, hi, hr⟩ := hrel
          have R := Lib.hid hr
          have hl2 := heap_lt hr.bw
          have b2 := cell_of_row wr Wb 0 _ _ _ hr.bw
          clear hr
          by_cases him : i < m
          · have him' : (i : Int) < (m : Int) := by omega
            obtain ⟨b, cs, fz, rfl, hSb, hbb, hcell⟩ := HX.out (by omega)
            obtain ⟨v0, v1, v2, v3, c0, c1', c2, c3, ht'⟩ := hcell i him
            obtain ⟨k0', k1, k2, A0', m0', cc0, he⟩ := ht'.agg
            injection he with he
            simp only [Array.mk.injEq, List.cons.injEq, and_true] at he
            obtain ⟨rfl, rfl, rfl, rfl⟩ := he
            have hbw := (R.out.low.block b (heap_lt hbb)).trans hbb
            have hbl := heap_lt hbw
            have hrc := fun (j : Nat) => cell_of_row wr b j _ _ _ hbw
            have d0 := (hrc (4 * i)).trans c0
            have d1 := (hrc (4 * i + 1)).trans c1'
            have d2 := (hrc (4 * i + 2)).trans c2
            have d3 := (hrc (4 * i + 3)).trans c3
            rw [Nat.mul_comm 4 i] at d0 d1 d2 d3
            have CI := IH.out i (OK.out.arg him) _ _ _ (R.out.below (belA (Below.refl _ _) (Obj.cells #[.int .i64 k0', .int .i64 k1, .string k2, .slice A0' m0' cc0] 34))) ht'
            rw [FI.out i] at CI
            have CI := Lib.hid CI
            clear hrc c0 c1' c2 c3 ht' hcell hbb hbw
            unfold fnV at b2
            go_wp2_with fail
            refine CI.out.mono ?_
            rintro e w7 ⟨rfl, h7⟩
            have V7 := Lib.hid (show Vc w0 w7 Sb Ob Wb sb (foldN (i + 1) ff acc) from h7)
            clear h7 d0 d1 d2 d3 b2
            go_wp2_with fail
            go_roundw
            case rel => exact ⟨i + 1, by go_num, him, V7.out⟩
            case measure => simp [intOf]; omega
          · obtain rfl : i = m := by omega
            have him' : ¬ (i : Int) < (i : Int) := by omega
            go_wp2_with fail
            go_end0
            exact ⟨rfl, by rw [E.out]; exact R.out⟩
set_option maxRecDepth 100000 in
set_option maxHeartbeats 4000000 in
theorem tvars_any {t : T} (hok : t.ok) {v : Value} {w : World} {S : Nat → Prop} (hv : TP w S t v) :
    Calls Try.prog 45 #[v] w fun e w' => VarsP t w e w' := by
  obtain ⟨k, n, s, A, m, c, rfl⟩ := hv.agg
  have HV := Lib.hid (hv.more (S' := fun _ => True) fun _ _ => trivial)
  have MK : ∀ W : World, (Instr.makeMap 110 none).run Try.prog W = .ok (.map (some W.heap.size)) (W.alloc (.map #[] 0)) := fun W => run_makeMap _ W
  obtain ⟨W5, hW5⟩ : ∃ W5, W5 = (((w.alloc (Obj.cells #[.int .i64 k, .int .i64 n, .string s, .slice A m c] 34)).alloc (Obj.cells #[.slice none 0 0] 28)).alloc (Obj.map #[] 0)).alloc (Obj.cells #[.map (some (w.heap.size + 1 + 1))] 110) := ⟨_, rfl⟩
  have z5 : W5.heap.size = w.heap.size + 1 + 1 + 1 + 1 := by rw [hW5]; simp
  have B5 : Below w.heap.size w W5 := by rw [hW5]; exact belA (belA (belA (belA (Below.refl _ _) _) _) _) _
  have g0 : W5.heap[w.heap.size]? = some (.cells #[.int .i64 k, .int .i64 n, .string s, .slice A m c] 34 (0, 0)) := by rw [hW5]; exact (Below.heap_alloc _ _ _ (by simp; omega)).trans ((Below.heap_alloc _ _ _ (by simp; omega)).trans ((Below.heap_alloc _ _ _ (by simp)).trans (heap_alloc_new _ _)))
  have g1 : W5.heap[w.heap.size + 1]? = some (.cells #[.slice none 0 0] 28 (0, 0)) := by rw [hW5]; exact (Below.heap_alloc _ _ _ (by simp <;> omega)).trans ((Below.heap_alloc _ _ _ (by simp <;> omega)).trans ((congrArg _ (by simp)).trans (heap_alloc_new _ _)))
  have g3 : W5.heap[w.heap.size + 1 + 1 + 1]? = some (.cells #[.map (some (w.heap.size + 1 + 1))] 110 (0, 0)) := by rw [hW5]; exact (congrArg _ (by simp)).trans (heap_alloc_new _ _)
  have gm : IM W5 (w.heap.size + 1 + 1) 0 (fun _ => none) := by
    rw [hW5]
    have h := (IM.made ((w.alloc (Obj.cells #[.int .i64 k, .int .i64 n, .string s, .slice A m c] 34)).alloc (Obj.cells #[.slice none 0 0] 28)))
    have e : ((w.alloc (Obj.cells #[.int .i64 k, .int .i64 n, .string s, .slice A m c] 34)).alloc (Obj.cells #[.slice none 0 0] 28)).heap.size = w.heap.size + 1 + 1 := by simp
    rw [e] at h
    exact h.keep (Below.heap_alloc _ _ _ (by simp))
  have SF : ∀ (a : Addr) (cs : Array Value) (m : Mode) (W : World), (store a (.func (.func 67) #[] cs) m).run Try.prog W = stored Try.prog W a (.func (.func 67) #[] cs) m := fun a cs m W => run_store _ W a _ m rfl
  have BW := Lib.hid (belA (Below.refl W5.heap.size W5) (Obj.cells #[fnV (w.heap.size + 1 + 1 + 1) (w.heap.size + 1) W5.heap.size] 111))
  have V := Lib.hid (show Vc w (W5.alloc (Obj.cells #[fnV (w.heap.size + 1 + 1 + 1) (w.heap.size + 1) W5.heap.size] 111)) (w.heap.size + 1 + 1 + 1) (w.heap.size + 1) W5.heap.size (w.heap.size + 1 + 1) [] from
    ⟨(BW.out.block _ (heap_lt g3)).trans g3, heap_alloc_new _ _, ⟨none, 0, (BW.out.block _ (heap_lt g1)).trans g1, World.ownsRow_nil _ _ _ _⟩, (show (fun _ => none) = seenM [] by funext i; simp [seenM]) ▸ (gm.keep (BW.out.block _ gm.lt)), List.Pairwise.nil, fun _ h => absurd h List.not_mem_nil, B5.trans (BW.out.mono (by omega)), by omega, by omega⟩)
  have X5 := Lib.hid ((BW.out.block _ (heap_lt g0)).trans g0)
  have CV := Lib.hid (vc_any t hok _ _ _ V.out HV.out)
  have HW5 := Lib.hid hW5
  have HZ := Lib.hid z5
  have G0 := Lib.hid g0
  clear hv B5 g0 g1 g3 gm hW5 z5
  go_enter Try.func45, Try.ntmps45
  go_upto_region 3 with fail
  rw [← HW5.out]
  obtain ⟨t0, t1, t2, t3⟩ := box4 G0.out
  have ht5 := heap_lt G0.out
  have e9 : w.heap.size + 1 + 1 + 1 + 1 = W5.heap.size := HZ.out.symm
  go_wp2_with fail
  refine CV.out.mono ?_
  rintro e w7 ⟨rfl, h7⟩
  rw [addAll_nil varsT_nodup] at h7
  obtain ⟨OA, oc, h8, h9⟩ := h7.bo
  have o0 := cell_of_row w7 (w.heap.size + 1) 0 _ _ _ h8
  have ol := heap_lt h8
  have O9 := Lib.hid h9
  have B7 := Lib.hid h7.low
  clear h7 h8 h9
  go_wp2_with fail
  go_ret
  exact ⟨⟨OA, oc, rfl, O9.out⟩, B7.out⟩
end Go.Proofs.Ytjjkigphfijnbaa
namespace Go.Proofs.Ytjjkigphfijnbaa
open Go.RowKit

set_option maxRecDepth 100000 in
set_option maxHeartbeats 4000000 in
theorem indexI_any {ns : List Int} {A : Option Addr} {c : Nat} {w : World} (ha : IRow w (.slice A ns.length c) ns) (hl : ns.length ≤ 1000000) (x : Int) {b : Bool} (hb : b = true ↔ x ∈ ns) :
    Calls Try.prog 93 #[.slice A ns.length c, .int .i64 x] w fun e w' => ∃ i : Int, e = .returned (.int .i64 i) ∧ decide (0 ≤ i) = b ∧ Below w.heap.size w w' := by
  obtain ⟨_, _, e1, ha1, ha2, hax⟩ := ha.open_
  injection e1 with e1 _ e2
  subst e1; subst e2
  have HA := Lib.hid hax
  have HB := Lib.hid hb
  clear hax ha ha2 hb
  go_enter Try.func93, Try.ntmps93
  go_wp2_with fail
  go_loopw [4, 5, 8] (fun _ _ iv wr => ∃ i : Nat, iv = .int .i64 (i : Int) ∧ i ≤ ns.length ∧ (∀ q, q < i → ns[q]? ≠ some x) ∧ Below w.heap.size w wr) (fun _ _ iv _ => ns.length - (intOf iv).toNat)
  case atStart => exact ⟨0, rfl, Nat.zero_le _, fun q hq => absurd hq (by omega), Below.refl _ _⟩
  case round =>
    obtain ⟨i, rfl, hi, hq, hb⟩ := hrel
    have HQ := Lib.hid hq
    have HW := Lib.hid hb
    clear hb hq
    by_cases him : i < ns.length
    · have him' : (i : Int) < (ns.length : Int) := by omega
      obtain ⟨y, hy⟩ : ∃ y, ns[i]? = some y := ⟨_, List.getElem?_eq_getElem him⟩
      obtain ⟨ga, rfl, hgl, ca⟩ := HA.out i y hy
      have da := (HW.out.cell (p := ⟨ga, i, none⟩) hgl).trans ca
      have HY := Lib.hid hy
      clear ca hy
      cases hyx : (x == y) with
      | true =>
        have E := Lib.hid (show decide (0 ≤ (i : Int)) = b from by
          rw [HB.out.mpr (by have h9 : x = y := (by simpa using hyx); rw [h9]; exact List.mem_of_getElem? HY.out)]
          exact decide_eq_true (by omega))
        go_wp2_with fail
        go_ret
        exact ⟨_, rfl, E.out, HW.out⟩
      | false =>
        have hne : x ≠ y := by simpa using hyx
        have HN := Lib.hid hne
        clear hne
        go_wp2_with fail
        go_roundw
        case rel => exact ⟨i + 1, by go_num, him, fun q hq h => by
          rcases Nat.lt_or_ge q i with h1 | h1
          · exact HQ.out q h1 h
          · obtain rfl : q = i := by omega
            rw [HY.out] at h
            injection h with h
            exact HN.out h.symm, HW.out⟩
        case measure => simp [intOf]; omega
    · have him' : ¬ (i : Int) < (ns.length : Int) := by omega
      have E := Lib.hid (show decide (0 ≤ (-1 : Int)) = b from by
        cases b with
        | false => rfl
        | true =>
          obtain ⟨q, hq⟩ := List.getElem?_of_mem (HB.out.mp rfl)
          exact absurd hq (HQ.out q (by
            rcases Nat.lt_or_ge q ns.length with h | h
            · omega
            · rw [List.getElem?_eq_none h] at hq; cases hq)))
      go_wp2_with fail
      go_ret
      exact ⟨_, rfl, E.out, HW.out⟩
theorem containsI_any {ns : List Int} {A : Option Addr} {c : Nat} {w : World} (ha : IRow w (.slice A ns.length c) ns) (hl : ns.length ≤ 1000000) (x : Int) {b : Bool} (hb : b = true ↔ x ∈ ns) :
    Calls Try.prog 82 #[.slice A ns.length c, .int .i64 x] w fun e w' => e = .returned (.bool b) ∧ Below w.heap.size w w' := by
  have CI := Lib.hid (indexI_any ha hl x hb)
  clear ha hb
  go_enter Try.func82, Try.ntmps82
  go_wp2_with fail
  refine CI.out.mono ?_
  rintro e w1 ⟨i, rfl, hi, h1⟩
  have HI := Lib.hid hi
  have H1 := Lib.hid h1
  clear hi h1
  go_wp2_with fail
  go_ret
  exact ⟨by rw [← HI.out]; rfl, H1.out⟩
set_option maxRecDepth 100000 in
set_option maxHeartbeats 4000000 in
theorem grow_any (n : Nat) (hn : n ≤ 1000000) (w : World) :
    Calls Try.prog 92 #[.slice none 0 0, .int .i64 (n : Int)] w fun e w' => ∃ A c, e = .returned (.slice A 0 c) ∧ ORow w' w.heap.size (.slice A 0 c) [] ∧ Below w.heap.size w w' := by
  rcases Nat.eq_zero_or_pos n with h0 | h0
  · subst h0
    go_enter Try.func92, Try.ntmps92
    go_wp2_with fail
    go_ret
    exact ⟨none, 0, rfl, World.ownsRow_nil _ _ _ _, Below.refl _ _⟩
  · obtain ⟨i0, ii1, ii2, ii3, ii4⟩ := elInt8.hi
    have h1 : ¬ ((n : Int) < 0) := by omega
    have h3 : (n : Int) > 0 := by omega
    have hrz : ∀ ty, (Builtin.append_ #[28, 3] ty #[.slice none 0 0, .int .i64 (n : Int)]).run Try.prog w = .ok _ _ := fun ty => by
      have h := Lib.run_append_grow_zeros w 28 3 ty 3 i0 (.int .i64 0) .i64 .i64 Try.underlying28 Try.underlying3 ii1 ii2 none 0 0 [] (run_firstCells_none w.drew i0.size 0 0 0) n h0 (by omega) (by omega) (by omega) (by rw [ii4]; omega) (by rw [Nat.zero_add]; exact growslice_fits h0 (by rw [ii4]; omega))
      rw [Nat.zero_add] at h
      exact h
    have hGn : n ≤ grownCap w n 0 3 := grownCap_ge w _ _ _
    have hG63 := grownCap_le_maxLen w n 0 3 (by unfold maxLen; omega)
    obtain ⟨G, hG⟩ : ∃ G, G = grownCap w n 0 3 := ⟨_, rfl⟩
    rw [← hG] at hrz hGn hG63
    have hG63' : G ≤ 9223372036854775807 := by unfold maxLen at hG63; omega
    have HM := Lib.hid hG63
    have HZ := Lib.hid ii3
    clear hG hG63
    obtain ⟨Z, hZ⟩ : ∃ Z, ([] : List Value).toArray ++ Builtin.zeroCells (Value.int .i64 0).cells n ++ Builtin.zeroCells (Value.int .i64 0).cells (G - n) = Z := ⟨_, rfl⟩
    have HS := Lib.hid (show Z.size = G from by rw [← hZ]; simp [Builtin.zeroCells, Value.cells]; omega)
    rw [hZ] at hrz
    clear hZ
    go_enter Try.func92, Try.ntmps92
    go_wp2_with (at_builtin; refine Lib.wpList_append_run _ rfl _ _ _ _ rfl _ _ rfl rfl _ _ (hrz _) ?_)
    go_ret
    exact ⟨_, G, rfl, ⟨by simp, .inr ⟨_, G, Z, rfl, Nat.le_refl _, heap_alloc_new _ _, Nat.zero_le _, HM.out, by rw [HS.out, Nat.mul_one], by simp⟩⟩, belA (Below.refl _ _).drew _⟩
/-- Rows of integers, one behind the other. -/
structure Rws (w : World) (g : Nat) (ls : List (List Int)) : Prop where
  row : ∀ i l, ls[i]? = some l → ∃ A c, w.cell? ⟨g, i, none⟩ = some (.slice A l.length c) ∧ IRow w (.slice A l.length c) l
  lt : g < w.heap.size
theorem Rws.below {w w' : World} {g : Nat} {ls : List (List Int)} (h : Rws w g ls) (hb : Below w.heap.size w w') : Rws w' g ls :=
  ⟨fun i l hl => by obtain ⟨A, c, h1, h2⟩ := h.row i l hl; exact ⟨A, c, (hb.cell (p := ⟨g, i, none⟩) h.lt).trans h1, h2.below hb⟩, by have := h.lt; have := hb.size; omega⟩
def cat (ls : List (List Int)) (i : Nat) : List Int := (ls.take i).flatten
def sofar (ls : List (List Int)) (i : Nat) : Nat := (cat ls i).length
theorem sofar_succ {ls : List (List Int)} {i : Nat} {l : List Int} (h : ls[i]? = some l) : sofar ls (i + 1) = sofar ls i + l.length := by
  unfold sofar cat
  rw [List.take_add_one, h]
  simp
theorem sofar_le (ls : List (List Int)) (i : Nat) : sofar ls i ≤ ls.flatten.length := by
  unfold sofar cat
  conv => rhs; rw [← List.take_append_drop i ls, List.flatten_append, List.length_append]
  omega
set_option maxRecDepth 100000 in
set_option maxHeartbeats 8000000 in
theorem concat_any {g : Nat} {ls : List (List Int)} {w : World} (hg : Rws w g ls) (hn : ls.length ≤ 1000) (hf : ls.flatten.length ≤ 1000000) :
    Calls Try.prog 81 #[.slice (some ⟨g, 0, none⟩) ls.length ls.length] w fun e w' => (∃ A c, e = .returned (.slice A ls.flatten.length c) ∧ ORow w' w.heap.size (.slice A ls.flatten.length c) ls.flatten) ∧ Below w.heap.size w w' := by
  obtain ⟨N, hN⟩ : ∃ N, ls.flatten.length = N := ⟨_, rfl⟩
  have HN := Lib.hid hN
  have HG := Lib.hid hg
  have hgl := hg.lt
  have SL := Lib.hid (fun i => Nat.le_trans (sofar_le ls i) hf)
  rw [hN]
  clear hg hN
  go_enter Try.func81, Try.ntmps81
  go_wp2_with fail
  go_loopw [3, 5, 11] (fun sv _ iv wr => ∃ i : Nat, iv = .int .i64 (i : Int) ∧ sv = .int .i64 (sofar ls i : Int) ∧ i ≤ ls.length ∧ wr = w) (fun _ _ iv _ => ls.length - (intOf iv).toNat)
  case atStart => exact ⟨0, rfl, rfl, Nat.zero_le _, rfl⟩
  case round =>
    obtain ⟨i, rfl, rfl, hi, hw⟩ := hrel
    subst wr
    by_cases him : i < ls.length
    · have him' : (i : Int) < (ls.length : Int) := by omega
      obtain ⟨l, hl⟩ : ∃ l, ls[i]? = some l := ⟨_, List.getElem?_eq_getElem him⟩
      obtain ⟨A, c, c1, _⟩ := HG.out.row i l hl
      have S1 := Lib.hid (sofar_succ hl)
      have hS := SL.out (i + 1)
      rw [S1.out] at hS
      have hneg : ¬ ((sofar ls i : Int) + (l.length : Int) < 0) := by omega
      clear hl
      go_wp2_with fail
      go_roundw
      case rel => exact ⟨i + 1, by go_num, by rw [S1.out]; go_num, him, by trivial⟩
      case measure => simp [intOf]; omega
    · obtain rfl : i = ls.length := by omega
      have him' : ¬ (ls.length : Int) < (ls.length : Int) := by omega
      have CG := Lib.hid (grow_any (sofar ls ls.length) (SL.out _) w)
      go_wp2_with fail
      refine CG.out.mono ?_
      rintro e w1 ⟨A, c, rfl, ho, hb⟩
      have HO := Lib.hid ho
      have HB := Lib.hid hb
      clear ho hb CG
      go_wp2_with fail
      go_loopw [6, 8, 27] (fun ov _ iv w2 => ∃ i : Nat, iv = .int .i64 (i : Int) ∧ i ≤ ls.length ∧ (∃ A c, ov = .slice A (sofar ls i) c) ∧ ORow w2 w.heap.size ov (cat ls i) ∧ Below w.heap.size w w2) (fun _ _ iv _ => ls.length - (intOf iv).toNat)
      case atStart => exact ⟨0, rfl, Nat.zero_le _, ⟨A, c, rfl⟩, by simpa [cat] using HO.out, HB.out⟩
      case round =>
        clear HO HB
        obtain ⟨i, rfl, hi, ⟨A, c, rfl⟩, ho, hb⟩ := hrel
        have O := Lib.hid ho
        have B := Lib.hid hb
        clear ho hb
        by_cases him : i < ls.length
        · have him' : (i : Int) < (ls.length : Int) := by omega
          obtain ⟨l, hl⟩ : ∃ l, ls[i]? = some l := ⟨_, List.getElem?_eq_getElem him⟩
          obtain ⟨RA, rc, c1, hr⟩ := HG.out.row i l hl
          have S1 := Lib.hid (sofar_succ hl)
          have T1 := Lib.hid (show cat ls (i + 1) = cat ls i ++ l by unfold cat; rw [List.take_add_one, hl]; simp)
          have hS := SL.out (i + 1)
          rw [S1.out] at hS
          have d1 := (B.out.cell (p := ⟨g, i, none⟩) hgl).trans c1
          have R := Lib.hid (hr.below B.out)
          obtain ⟨_, _, e1, r1, r2, _⟩ := hr.open_
          injection e1 with e1 _ e2
          subst e1; subst e2
          have hs0 := B.out.size
          clear hl c1 hr
          go_wp2_with (at_builtin; go_must (refine wpList_append_cells _ rfl _ _ _ rfl elInt8 w.heap.size _ (sofar ls i) _ rfl O.out RA l.length rc (l.map (Value.int .i64)) rfl r2 r1 (by simp) ?_ ?_ (by omega) (by unfold maxLen; omega) (by omega) ?_))
          · intro h0
            obtain ⟨_, _, e1, _, _, hx⟩ := R.out.open_
            injection e1 with e1 _ e2
            subst e1; subst e2
            obtain ⟨b, hA, hg, _⟩ := hx 0 (l[0]'h0) (List.getElem?_eq_getElem h0)
            refine ⟨b, 0, hA, fun j u hu => ?_⟩
            obtain ⟨g', hA', hg', hc⟩ := hx j u (by simpa using hu)
            rw [hA] at hA'
            injection hA' with hA'
            injection hA' with hA'
            subst hA'
            simpa using hc
          · intro u hu
            first
            | rfl
            | (obtain ⟨y, _, rfl⟩ := List.mem_map.mp hu
               rfl)
          intro v1 w1 hown1 hg1
          have B1 := Lib.hid (B.out.grown hg1 hs0 fun k hk => (O.out.lt k hk).1)
          have O1 := Lib.hid (show ORow w1 w.heap.size v1 (cat ls (i + 1)) by
            rw [T1.out]
            unfold ORow
            rw [List.length_append, List.map_append]
            exact hown1)
          have V1 := Lib.hid (show ∃ A c, v1 = .slice A (sofar ls (i + 1)) c by
            obtain ⟨A, c, h, _⟩ := own_open hown1
            exact ⟨A, c, by rw [S1.out]; exact h⟩)
          clear hown1 hg1 d1
          go_wp2_with fail
          go_roundw
          case rel => exact ⟨i + 1, by go_num, him, V1.out, O1.out, B1.out⟩
          case measure => simp [intOf]; omega
        · obtain rfl : i = ls.length := by omega
          have him' : ¬ (ls.length : Int) < (ls.length : Int) := by omega
          have E := Lib.hid (show cat ls ls.length = ls.flatten by unfold cat; rw [List.take_length])
          have E2 := Lib.hid (show sofar ls ls.length = N by unfold sofar cat; rw [List.take_length]; exact HN.out)
          go_wp2_with fail
          go_ret
          have h := O.out
          rw [E.out, E2.out] at h
          rw [E2.out]
          exact ⟨⟨A, c, rfl, h⟩, B.out⟩
set_option maxRecDepth 100000 in
set_option maxHeartbeats 8000000 in
theorem union_any {g : Nat} {ls : List (List Int)} {w : World} (hg : Rws w g ls) (hn : ls.length ≤ 1000) (hr : ∀ x ∈ ls.flatten, 0 ≤ x ∧ x < 1000) (hf : ls.flatten.length ≤ 1000000) :
    Calls Try.prog 69 #[.slice (some ⟨g, 0, none⟩) ls.length ls.length] w fun e w' => (∃ A c, e = .returned (.slice A (addAll [] ls.flatten).length c) ∧ ORow w' w.heap.size (.slice A (addAll [] ls.flatten).length c) (addAll [] ls.flatten)) ∧ Below w.heap.size w w' := by
  have CC := Lib.hid (concat_any hg hn hf)
  obtain ⟨fl, hfl⟩ : ∃ fl, ls.flatten = fl := ⟨_, rfl⟩
  rw [hfl] at CC hr hf ⊢
  have hfew : ∀ q, (addAll [] (fl.take q)).length ≤ 1000 := fun q => nodup_few 1000 _ (addAll_nodup List.Pairwise.nil) fun x hx => by
    rcases mem_addAll.mp hx with h | h
    · cases h
    · exact hr x (List.mem_of_mem_take h)
  have hfall := Lib.hid hfew
  obtain ⟨item, ii1, ii2, ii3, ii4⟩ := elInt8.hi
  clear hfl hg hr hfew
  go_enter Try.func69, Try.ntmps69
  go_wp2_with fail
  refine CC.out.mono ?_
  rintro e w1 ⟨⟨FA, fc, rfl, ho⟩, hb⟩
  have L1 := Lib.hid ho
  have B1 := Lib.hid hb
  clear ho hb CC
  go_wp2_with fail
  go_loopw [3, 5, 9] (fun ov _ iv wr => ∃ i : Nat, iv = .int .i64 (i : Int) ∧ i ≤ fl.length ∧ ORow wr w1.heap.size ov (addAll [] (fl.take i)) ∧ Below w1.heap.size w1 wr) (fun _ _ iv _ => fl.length - (intOf iv).toNat)
  case atStart => exact ⟨0, rfl, Nat.zero_le _, by rw [show addAll [] (fl.take 0) = [] from rfl]; exact World.ownsRow_nil _ _ _ _, Below.refl _ _⟩
  case round =>
    obtain ⟨i, rfl, hi, ho, hb⟩ := hrel
    obtain ⟨PA, pc, rfl, _, _, _, _⟩ := own_open ho
    have O8 := Lib.hid ho
    have B8 := Lib.hid hb
    have L8 := Lib.hid (L1.out.below hb)
    have hb8 := hb.size
    have hfew := hfall.out i
    obtain ⟨acc, hacc⟩ : ∃ acc, addAll [] (fl.take i) = acc := ⟨_, rfl⟩
    have HA := Lib.hid hacc
    rw [hacc] at hfew O8 ⊢
    clear ho hb hacc
    by_cases him : i < fl.length
    · have him' : (i : Int) < (fl.length : Int) := by omega
      obtain ⟨x, hx⟩ : ∃ x, fl[i]? = some x := ⟨_, List.getElem?_eq_getElem him⟩
      obtain ⟨_, _, e1, _, _, hlx⟩ := L8.out.irow.open_
      injection e1 with e1 _ e2
      subst e1; subst e2
      obtain ⟨gl, rfl, hgll, cl⟩ := hlx i x hx
      obtain ⟨bb, hbb⟩ : ∃ bb : Bool, bb = true ↔ x ∈ acc := ⟨decide (x ∈ acc), by simp⟩
      have HB9 := Lib.hid hbb
      have TK := Lib.hid (show fl.take (i + 1) = fl.take i ++ [x] by rw [List.take_add_one, hx]; rfl)
      have CH := Lib.hid (containsI_any O8.out.irow (by omega) x hbb)
      clear hlx hx hbb
      go_wp2_with fail
      refine CH.out.mono ?_
      rintro e w9 ⟨rfl, h9⟩
      have O9 := Lib.hid (O8.out.below h9)
      have B9 := Lib.hid (B8.out.trans (h9.mono hb8))
      have hs9 := h9.size
      clear h9 cl
      cases bb with
      | true =>
        have EA := Lib.hid (show addAll [] (fl.take (i + 1)) = acc by rw [TK.out, addAll_append, HA.out]; exact if_pos (HB9.out.mp rfl))
        go_wp2_with fail
        go_roundw
        case rel => exact ⟨i + 1, by go_num, him, by rw [EA.out]; exact O9.out, B9.out⟩
        case measure => simp [intOf]; omega
      | false =>
        have EA := Lib.hid (show addAll [] (fl.take (i + 1)) = acc ++ [x] by rw [TK.out, addAll_append, HA.out]; exact if_neg fun h => by have := HB9.out.mpr h; cases this)
        go_wp2_with (at_builtin; go_must (refine wpList_append_lies _ rfl _ _ _ rfl w1.heap.size 3 item (.int .i64 0) 1 8 Try.underlying28 ii1 ii2 ii3 ii4 rfl (by omega) _ acc.length _ rfl (own_below O9.out (belA (Below.refl _ _) _)) ⟨w9.heap.size, 0, none⟩ 1 1 [.int .i64 x] rfl rfl (World.news_of_block (heap_alloc_new _ _)) ?_ (by omega) (by unfold maxLen; omega) (by omega) (by simp; omega) _ rfl ?_))
        · first
          | rfl
          | (intro u hu
             simp only [List.mem_cons, List.not_mem_nil, or_false] at hu
             rcases hu with rfl
             rfl)
        intro g1 cap1 wA hownA hgA hatA _
        have OA9 := Lib.hid (show ORow wA w1.heap.size (.slice (some ⟨g1, 0, none⟩) (acc.length + 1) cap1) (acc ++ [x]) from ORow.push hownA)
        have BA9 := Lib.hid ((B9.out.trans ((belA (Below.refl _ _) (Obj.cells #[.int .i64 x] 3)).mono B9.out.size)).grown hgA (by simp; omega) fun k hk => (O9.out.lt k hk).1)
        clear hownA hgA hatA
        go_wp2_with fail
        go_roundw
        case rel => exact ⟨i + 1, by go_num, him, by rw [EA.out]; exact OA9.out, BA9.out⟩
        case measure => simp [intOf]; omega
    · obtain rfl : i = fl.length := by omega
      have him' : ¬ (fl.length : Int) < (fl.length : Int) := by omega
      have E3 := Lib.hid (show addAll [] fl = acc by rw [← HA.out, List.take_length])
      have hb1 := B1.out.size
      go_wp2_with fail
      go_ret
      rw [E3.out]
      exact ⟨⟨PA, pc, rfl, ownsRow_more O8.out hb1⟩, B1.out.trans (B8.out.mono hb1)⟩
end Go.Proofs.Ytjjkigphfijnbaa
namespace Go.Proofs.Ytjjkigphfijnbaa
open Go.RowKit

def WhenC (t : T) : Prop := ∀ (v : Value) (w : World) (S : Nat → Prop), TP w S t v → Calls Try.prog 31 #[v] w fun e w' => WhenP (whenT t) w e w'
theorem WhenP.up {p : Int × List Int} {w w1 : World} {e : Ending} {w' : World} (hb : Below w.heap.size w w1) (h : WhenP p w1 e w') : WhenP p w e w' := by
  obtain ⟨⟨A, c, h1, h2⟩, h3⟩ := h
  exact ⟨⟨A, c, h1, ownsRow_more h2 hb.size⟩, hb.trans (h3.mono hb.size)⟩
theorem WhenP.nil {n : Int} {w w' : World} (hb : Below w.heap.size w w') : WhenP (n, []) w (.returned (.tuple #[.int .i64 n, .slice none 0 0])) w' := ⟨⟨Option.none, 0, rfl, World.ownsRow_nil _ _ _ _⟩, hb⟩
theorem union2_any {g : Nat} {l0 l1 : List Int} {A0 A1 : Option Addr} {c0 c1 : Nat} {w : World} (hg : w.heap[g]? = some (.cells #[.slice A0 l0.length c0, .slice A1 l1.length c1] 28 (0, 0))) (h0 : IRow w (.slice A0 l0.length c0) l0) (h1 : IRow w (.slice A1 l1.length c1) l1)
    (n0 : l0.Nodup) (n1 : l1.Nodup) (r0 : ∀ x ∈ l0, 0 ≤ x ∧ x < 1000) (r1 : ∀ x ∈ l1, 0 ≤ x ∧ x < 1000) :
    Calls Try.prog 69 #[.slice (some ⟨g, 0, none⟩) 2 2] w fun e w' => (∃ A c, e = .returned (.slice A (addAll l0 l1).length c) ∧ ORow w' w.heap.size (.slice A (addAll l0 l1).length c) (addAll l0 l1)) ∧ Below w.heap.size w w' := by
  have h := union_any (g := g) (ls := [l0, l1]) (w := w) ⟨fun i l hl => by
    rcases i with _ | _ | i
    · simp at hl
      subst hl
      exact ⟨A0, c0, (cell_of_row w g 0 _ _ _ hg).trans rfl, h0⟩
    · simp at hl
      subst hl
      exact ⟨A1, c1, (cell_of_row w g 1 _ _ _ hg).trans rfl, h1⟩
    · simp at hl, heap_lt hg⟩ (by simp) (fun x hx => by
      simp at hx
      exact hx.elim (r0 x) (r1 x)) (by
      have := nodup_few 1000 _ n0 r0
      have := nodup_few 1000 _ n1 r1
      simp
      omega)
  have e : addAll [] [l0, l1].flatten = addAll l0 l1 := by
    rw [show [l0, l1].flatten = l0 ++ l1 by simp, addAll_append, addAll_nil n0]
  rw [e] at h
  exact h
set_option maxRecDepth 100000 in
set_option maxHeartbeats 8000000 in
theorem both_any {k n : Int} {s : ByteArray} {a : Nat → T} (hk : k ≠ 1) (o0 : (a 0).ok) (o1 : (a 1).ok) (C0 : WhenC (a 0)) (C1 : WhenC (a 1)) {va vb : Value} {w : World} {S S' : Nat → Prop} (ha : TP w S (a 0) va) (hb : TP w S' (a 1) vb) :
    Calls Try.prog 46 #[.string s, va, vb] w fun e w' => WhenP (whenT (.mk k n s 2 a)) w e w' := by
  obtain ⟨k0, n0, s0, A0, m0, c0, rfl⟩ := ha.agg
  obtain ⟨k1, n1, s1, A1, m1, c1, rfl⟩ := hb.agg
  have K := Lib.hid hk
  have O0 := Lib.hid o0
  have O1 := Lib.hid o1
  have HC0 := Lib.hid C0
  have HC1 := Lib.hid C1
  obtain ⟨W, hW⟩ : ∃ W, W = (w.alloc (Obj.cells #[.int .i64 k0, .int .i64 n0, .string s0, .slice A0 m0 c0] 34)).alloc (Obj.cells #[.int .i64 k1, .int .i64 n1, .string s1, .slice A1 m1 c1] 34) := ⟨_, rfl⟩
  have HW := Lib.hid hW
  have BW := Lib.hid (show Below w.heap.size w W by rw [hW]; exact belA (belA (Below.refl _ _) _) _)
  have X := Lib.hid (show W.heap[w.heap.size]? = some (.cells #[.int .i64 k0, .int .i64 n0, .string s0, .slice A0 m0 c0] 34 (0, 0)) by rw [hW]; exact (Below.heap_alloc _ _ _ (by simp)).trans (heap_alloc_new _ _))
  have Y := Lib.hid (show W.heap[w.heap.size + 1]? = some (.cells #[.int .i64 k1, .int .i64 n1, .string s1, .slice A1 m1 c1] 34 (0, 0)) by rw [hW]; exact (congrArg _ (by simp)).trans (heap_alloc_new _ _))
  have TA := Lib.hid ((ha.below BW.out).more (S' := fun _ => True) fun _ _ => trivial)
  have TB := Lib.hid ((hb.below BW.out).more (S' := fun _ => True) fun _ _ => trivial)
  obtain ⟨x0, x1, x2, x3⟩ := box4 X.out
  obtain ⟨y0, y1, y2, y3⟩ := box4 Y.out
  have hgx := heap_lt X.out
  have hgy := heap_lt Y.out
  clear hk o0 o1 C0 C1 ha hb hW
  cases q1 : (s.toList == [63, 61]) with
  | true =>
    have E := Lib.hid (when_dif (n := n) (a := a) K.out (by simpa using q1))
    obtain ⟨r, hr⟩ : ∃ r, uniF 2000 [] [(a 0, a 1)] = r := ⟨_, rfl⟩
    have CD := Lib.hid (pdif_own TA.out TB.out O0.out O1.out hr)
    rw [hr] at E
    clear hr
    go_enter Try.func46, Try.ntmps46
    go_upto_region 1 with fail
    rw [← HW.out]
    go_wp2_with fail
    refine CD.out.mono ?_
    rintro e w3 ⟨⟨RA, rc, rfl, hro⟩, h3⟩
    have B3 := Lib.hid (BW.out.trans (h3.mono BW.out.size))
    have R3 := Lib.hid (show ORow w3 w.heap.size (.slice RA (difL r).length rc) (difL r) from ownsRow_more hro BW.out.size)
    clear hro h3 x0 x1 x2 x3 y0 y1 y2 y3
    cases hm : (difN r == -1) with
    | true =>
      have HM := Lib.hid (show difN r = -1 by simpa using hm)
      go_wp2_with fail
      go_ret2
      rw [E.out, if_pos HM.out]
      have hl : difL r = [] := by
        have h := HM.out
        cases r with
        | unlike => rfl
        | many => rfl
        | ok L f =>
          cases L with
          | nil => rfl
          | cons p M => exact absurd h (by simp [difN])
      have hR := R3.out
      rw [hl] at hR ⊢
      exact ⟨⟨RA, rc, rfl, hR⟩, B3.out⟩
    | false =>
      have HM := Lib.hid (show ¬ difN r = -1 by simpa using hm)
      go_wp2_with fail
      go_ret2
      rw [E.out, if_neg HM.out]
      exact ⟨⟨RA, rc, rfl, R3.out⟩, B3.out⟩
  | false =>
    have Q1 := Lib.hid (show ¬ s.toList = [63, 61] by simpa using q1)
    cases q2 : (s.toList == [44]) with
    | true =>
      have q2' : (s.toList != [44]) = false := by simpa using q2
      have E := Lib.hid (when_and (n := n) (a := a) K.out (by simpa using q2))
      go_enter Try.func46, Try.ntmps46
      go_upto_region 1 with fail
      rw [← HW.out]
      go_wp2_with fail
      have CW := Lib.hid (HC0.out _ _ _ TA.out)
      refine CW.out.mono ?_
      intro e w3 h3
      obtain ⟨⟨RA, rc, rfl, hro⟩, h3b⟩ := h3.up BW.out
      have R3 := Lib.hid hro
      have B3 := Lib.hid h3b
      have BB := h3.2
      have Y3 := Lib.hid ((BB.block _ hgy).trans Y.out)
      have TB3 := Lib.hid (TB.out.below BB)
      have hgy3 := heap_lt Y3.out
      clear h3 hro h3b BB x0 x1 x2 x3 y0 y1 y2 y3 CW
      obtain ⟨y0, y1, y2, y3⟩ := box4 Y3.out
      obtain ⟨p, hp⟩ : ∃ p, whenT (a 0) = p := ⟨_, rfl⟩
      rw [hp] at E R3 ⊢
      clear hp
      obtain ⟨pn, pl⟩ := p
      cases hp1 : (pn == 1) with
      | false =>
        have hp1' : (pn != 1) = true := by simpa using hp1
        have E2 := Lib.hid (show whenT (.mk k n s 2 a) = (pn, pl) by rw [E.out, if_neg (by simpa using hp1)])
        go_wp2_with fail
        go_ret2
        rw [E2.out]
        exact ⟨⟨RA, rc, rfl, R3.out⟩, B3.out⟩
      | true =>
        have hp1' : (pn != 1) = false := by simpa using hp1
        have E2 := Lib.hid (show whenT (.mk k n s 2 a) = whenT (a 1) by rw [E.out, if_pos (by simpa using hp1)])
        have CW := Lib.hid (HC1.out _ _ _ TB3.out)
        go_wp2_with fail
        refine CW.out.mono ?_
        intro e w4 h4
        obtain ⟨⟨RB, rd, rfl, hro⟩, h4b⟩ := h4.up B3.out
        have R4 := Lib.hid hro
        have B4 := Lib.hid h4b
        clear h4 hro h4b CW y0 y1 y2 y3
        go_wp2_with fail
        go_ret2
        rw [E2.out]
        exact ⟨⟨RB, rd, rfl, R4.out⟩, B4.out⟩
    | false =>
      have Q2 := Lib.hid (show ¬ s.toList = [44] by simpa using q2)
      have q2' : (s.toList != [44]) = true := by simpa using q2
      cases q3 : (s.toList == [59]) with
      | true =>
        have q3' : (s.toList != [59]) = false := by simpa using q3
        have E := Lib.hid (when_or (n := n) (a := a) K.out (by simpa using q3))
        go_enter Try.func46, Try.ntmps46
        go_upto_region 1 with fail
        rw [← HW.out]
        go_wp2_with fail
        have CW := Lib.hid (HC0.out _ _ _ TA.out)
        refine CW.out.mono ?_
        intro e w3 h3
        obtain ⟨⟨RA, rc, rfl, hro⟩, h3b⟩ := h3.up BW.out
        have R3 := Lib.hid hro
        have B3 := Lib.hid h3b
        have BB := h3.2
        have Y3 := Lib.hid ((BB.block _ hgy).trans Y.out)
        have TB3 := Lib.hid (TB.out.below BB)
        have hgy3 := heap_lt Y3.out
        clear h3 hro h3b BB x0 x1 x2 x3 y0 y1 y2 y3 CW
        obtain ⟨y0, y1, y2, y3⟩ := box4 Y3.out
        obtain ⟨p, hp⟩ : ∃ p, whenT (a 0) = p := ⟨_, rfl⟩
        have OW := Lib.hid (whenT_own O0.out)
        rw [hp] at E R3 OW ⊢
        clear hp
        obtain ⟨pn, pl⟩ := p
        have CW := Lib.hid (HC1.out _ _ _ TB3.out)
        go_wp2_with fail
        refine CW.out.mono ?_
        intro e w4 h4
        obtain ⟨⟨RB, rd, rfl, hro⟩, h4b⟩ := h4.up B3.out
        have R4 := Lib.hid hro
        have B4 := Lib.hid h4b
        have R5 := Lib.hid (R3.out.below h4.2)
        clear h4 hro h4b CW y0 y1 y2 y3 R3
        obtain ⟨q, hq⟩ : ∃ q, whenT (a 1) = q := ⟨_, rfl⟩
        have OX := Lib.hid (whenT_own O1.out)
        rw [hq] at E R4 OX ⊢
        clear hq
        obtain ⟨qn, ql⟩ := q
        cases hp1 : (pn == 1) with
        | true =>
          have E2 := Lib.hid (show whenT (.mk k n s 2 a) = (1, []) by rw [E.out, if_pos (.inl (by simpa using hp1))])
          go_wp2_with fail
          go_ret2
          rw [E2.out]
          exact WhenP.nil B4.out
        | false =>
          cases hq1 : (qn == 1) with
          | true =>
            have E2 := Lib.hid (show whenT (.mk k n s 2 a) = (1, []) by rw [E.out, if_pos (.inr (by simpa using hq1))])
            go_wp2_with fail
            go_ret2
            rw [E2.out]
            exact WhenP.nil B4.out
          | false =>
            have E1 := Lib.hid (E.out.trans (if_neg (show ¬ ((pn, pl).1 = 1 ∨ (qn, ql).1 = 1) from fun h => h.elim (by simpa using hp1) (by simpa using hq1))))
            by_cases hpn : pn < 0
            · have E2 := Lib.hid (show whenT (.mk k n s 2 a) = (pn, []) by rw [E1.out, if_pos hpn])
              go_wp2_with fail
              go_ret2
              rw [E2.out]
              exact WhenP.nil B4.out
            · by_cases hqn : qn < 0
              · have E2 := Lib.hid (show whenT (.mk k n s 2 a) = (qn, []) by rw [E1.out, if_neg hpn, if_pos hqn])
                go_wp2_with fail
                go_ret2
                rw [E2.out]
                exact WhenP.nil B4.out
              · have E2 := Lib.hid (show whenT (.mk k n s 2 a) = (0, addAll pl ql) by rw [E1.out, if_neg hpn, if_neg hqn])
                have bA := belA (Below.refl w4.heap.size w4) (Obj.cells #[.slice RA pl.length rc, .slice RB ql.length rd] 28)
                have CU := Lib.hid (union2_any (heap_alloc_new w4 (Obj.cells #[.slice RA pl.length rc, .slice RB ql.length rd] 28)) (R5.out.irow.below bA) (R4.out.irow.below bA) OW.out.1 OX.out.1 OW.out.2 OX.out.2)
                have BA := Lib.hid bA
                have hs4 := B4.out.size
                clear bA
                go_wp2_with fail
                refine CU.out.mono ?_
                rintro e w5 ⟨⟨UA, uc, rfl, hu⟩, h5⟩
                have U5 := Lib.hid (show ORow w5 w.heap.size (.slice UA (addAll pl ql).length uc) (addAll pl ql) from ownsRow_more hu (by simp; omega))
                have B5 := Lib.hid (B4.out.trans ((BA.out.mono hs4).trans (h5.mono (by simp; omega))))
                clear hu h5 CU
                go_wp2_with fail
                go_ret2
                rw [E2.out]
                exact ⟨⟨UA, uc, rfl, U5.out⟩, B5.out⟩
      | false =>
        have q3' : (s.toList != [59]) = true := by simpa using q3
        have E := Lib.hid (when_none (n := n) (m := 2) (a := a) K.out (fun h => absurd h.1 (by decide)) (fun h => absurd h.1 (by decide)) (fun h => Q1.out h.2) (fun h => Q2.out h.2) (fun h => by rw [h.2] at q3; exact absurd q3 (by decide)))
        go_enter Try.func46, Try.ntmps46
        go_upto_region 1 with fail
        rw [← HW.out]
        go_wp2_with fail
        go_ret2
        rw [E.out]
        exact WhenP.nil BW.out
end Go.Proofs.Ytjjkigphfijnbaa
namespace Go.Proofs.Ytjjkigphfijnbaa
open Go.RowKit
attribute [local go_sem ↓] Go.wp_at_zero Go.wp_at_succ

theorem ORow.first {w : World} {B : Nat} {A : Option Addr} {c : Nat} {x : Int} {l : List Int} (h : ORow w B (.slice A (x :: l).length c) (x :: l)) : 1 ≤ c ∧ ORow w B (.slice A 1 c) [x] := by
  obtain ⟨_, h⟩ := h
  rcases h with ⟨_, h⟩ | ⟨g, cap, cur, hv, hg, hh, hn, hm, hs, ht⟩
  · exact absurd h (by simp)
  · injection hv with e1 _ e2
    subst e1; subst e2
    have h1 : 1 ≤ c := by simp at hn; omega
    refine ⟨h1, ⟨rfl, .inr ⟨g, c, cur, rfl, hg, hh, h1, hm, hs, ?_⟩⟩⟩
    have h2 := congrArg (List.take 1) ht
    rw [List.take_take] at h2
    simpa using h2
theorem var_vars {t : T} {x : Int} (h : t.var? = some x) : varsT t = [x] := by
  cases t with
  | nil => simp [T.var?] at h
  | mk k n s m a =>
    by_cases hk : k = 1
    · simp [T.var?, hk] at h
      subst h
      unfold varsT
      rw [if_pos hk]
    · simp [T.var?, hk] at h
set_option maxRecDepth 100000 in
set_option maxHeartbeats 16000000 in
theorem when_any : ∀ (t : T), t.ok → WhenC t := by
  intro t
  induction t with
  | nil => exact fun h => h.1.elim
  | mk k n s m a ih =>
    intro hok v w S hv
    obtain ⟨A, c, rfl, hmc, hA, hx⟩ := hv
    have OK := Lib.hid hok
    have IH := Lib.hid ih
    obtain ⟨W, hW⟩ : ∃ W, W = w.alloc (Obj.cells #[.int .i64 k, .int .i64 n, .string s, .slice A m c] 34) := ⟨_, rfl⟩
    have HW := Lib.hid hW
    have BW := Lib.hid (show Below w.heap.size w W by rw [hW]; exact belA (Below.refl _ _) _)
    have X := Lib.hid (show W.heap[w.heap.size]? = some (.cells #[.int .i64 k, .int .i64 n, .string s, .slice A m c] 34 (0, 0)) by rw [hW]; exact heap_alloc_new _ _)
    have TT := Lib.hid (((show TP w S (.mk k n s m a) (.agg #[.int .i64 k, .int .i64 n, .string s, .slice A m c]) from ⟨A, c, rfl, hmc, hA, hx⟩).more (S' := fun _ => True) fun _ _ => trivial).below BW.out)
    have hm : m ≤ 1000 := Nat.le_of_lt hok.few
    obtain ⟨x0, x1, x2, x3⟩ := box4 X.out
    have hgx := heap_lt X.out
    clear hx hok ih hA hW
    cases hk1 : (k == 1) with
    | true =>
      have E := Lib.hid (show whenT (.mk k n s m a) = (-2, []) by rw [show k = 1 by simpa using hk1]; exact when_var)
      go_enter Try.func31, Try.ntmps31
      go_upto_region 1 with fail
      rw [← HW.out]
      go_wp2_with fail
      go_ret2
      rw [E.out]
      exact WhenP.nil BW.out
    | false =>
      have K1 := Lib.hid (show k ≠ 1 by simpa using hk1)
      by_cases h1 : m = 1
      · subst h1
        obtain ⟨_, _, _, _, _, _, hargs⟩ := TT.out.args
        obtain ⟨b, u0, u1, u2, U0, um, uc, rfl, _, hbl, a0, a1, a2, a3, ta⟩ := hargs 0 (by omega)
        simp only [Nat.zero_mul, Nat.zero_add] at a0 a1 a2 a3
        have TA := Lib.hid ta
        have OA := Lib.hid (OK.out.arg (i := 0) (by omega))
        have CV := Lib.hid (tvars_any OA.out TA.out)
        have A0 := Lib.hid a0
        clear hargs ta
        go_enter Try.func31, Try.ntmps31
        go_upto_region 1 with fail
        rw [← HW.out]
        go_wp2_with fail
        refine CV.out.mono ?_
        rintro e w3 ⟨⟨LA, lc, rfl, hl3⟩, h3⟩
        have X3 := Lib.hid ((h3.block _ hgx).trans X.out)
        have B3 := Lib.hid (BW.out.trans (h3.mono BW.out.size))
        have L3 := Lib.hid (show ORow w3 w.heap.size _ _ from ownsRow_more hl3 BW.out.size)
        have d0 := (h3.cell (p := ⟨b, 0, none⟩) hbl).trans A0.out
        have hbl3 : b < w3.heap.size := Nat.lt_of_lt_of_le hbl h3.size
        have hfew := varsT_few OA.out
        have hgx3 := heap_lt X3.out
        clear h3 hl3 x0 x1 x2 x3 a0 a1 a2 a3 CV
        obtain ⟨x0, x1, x2, x3⟩ := box4 X3.out
        cases q1 : (s.toList == [110, 111, 110, 118, 97, 114]) with
        | true =>
          have HS := Lib.hid (show s.toList = nNonvar by simpa [nNonvar] using q1)
          have q2 : (s.toList == [103, 114, 111, 117, 110, 100]) = false := by rw [HS.out]; decide
          cases hu : (u0 == 1) with
          | true =>
            obtain ⟨hv1, _, _⟩ := TA.out.kind OA.out (by simpa using hu)
            have E := Lib.hid (show whenT (.mk k n s 1 a) = (0, [u1]) by rw [when_nonvar K1.out HS.out, hv1])
            have hvv := var_vars hv1
            rw [hvv] at L3 hfew ⊢
            obtain ⟨hc1, hf1⟩ := ORow.first L3.out
            have F := Lib.hid hf1
            clear hf1 hv1 hvv L3
            go_wp2_with fail
            go_quiet (fail)
            go_wp2_with fail
            go_ret2
            rw [E.out]
            exact ⟨⟨LA, lc, rfl, F.out.below (bel_drewN (Below.refl _ _) _)⟩, bel_drewN B3.out _⟩
          | false =>
            have hv1 := TA.out.novar (by simpa using hu)
            have E := Lib.hid (show whenT (.mk k n s 1 a) = (1, []) by rw [when_nonvar K1.out HS.out, hv1])
            clear hv1
            go_wp2_with fail
            go_ret2
            rw [E.out]
            exact WhenP.nil B3.out
        | false =>
          have Q1 := Lib.hid (show ¬ s.toList = nNonvar by simpa [nNonvar] using q1)
          cases q2 : (s.toList == [103, 114, 111, 117, 110, 100]) with
          | true =>
            have HS := Lib.hid (show s.toList = nGround by simpa [nGround] using q2)
            obtain ⟨l, hl⟩ : ∃ l, varsT (a 0) = l := ⟨_, rfl⟩
            have HL := Lib.hid hl
            rw [hl] at L3 hfew ⊢
            clear hl
            cases l with
            | nil =>
              have E := Lib.hid (show whenT (.mk k n s 1 a) = (1, []) by rw [when_ground K1.out HS.out, HL.out])
              go_wp2_with fail
              go_ret2
              rw [E.out]
              exact WhenP.nil B3.out
            | cons x l =>
              have E := Lib.hid (show whenT (.mk k n s 1 a) = (0, [x]) by rw [when_ground K1.out HS.out, HL.out])
              obtain ⟨hc1, hf1⟩ := ORow.first L3.out
              have F := Lib.hid hf1
              have hlen : ((x :: l).length : Int) > 0 := by simp <;> omega
              obtain ⟨ll, hll⟩ : ∃ ll, (x :: l).length = ll := ⟨_, rfl⟩
              rw [hll] at hlen hfew ⊢
              clear hf1 hll L3
              go_wp2_with fail
              go_quiet (fail)
              go_wp2_with fail
              go_ret2
              rw [E.out]
              exact ⟨⟨LA, lc, rfl, F.out.below (bel_drewN (Below.refl _ _) _)⟩, bel_drewN B3.out _⟩
          | false =>
            have Q2 := Lib.hid (show ¬ s.toList = nGround by simpa [nGround] using q2)
            have E := Lib.hid (when_none (n := n) (m := 1) (a := a) K1.out (fun h => Q1.out h.2) (fun h => Q2.out h.2) (fun h => absurd h.1 (by decide)) (fun h => absurd h.1 (by decide)) (fun h => absurd h.1 (by decide)))
            go_wp2_with fail
            go_ret2
            rw [E.out]
            exact WhenP.nil B3.out
      · by_cases h2 : m = 2
        · subst h2
          obtain ⟨_, _, _, _, _, _, hargs⟩ := TT.out.args
          obtain ⟨b, u0, u1, u2, U0, um, uc, rfl, _, hbl, a0, a1, a2, a3, ta⟩ := hargs 0 (by omega)
          obtain ⟨b', v0, v1, v2, V0, vm, vc, e9, _, _, d0, d1, d2, d3, tb⟩ := hargs 1 (by omega)
          injection e9 with e9
          injection e9 with e9 _ _
          subst e9
          simp only [Nat.zero_mul, Nat.zero_add, Nat.one_mul] at a0 a1 a2 a3 d0 d1 d2 d3
          have q0 := (Below.refl W.heap.size W).drew
          have CB := Lib.hid (both_any (n := n) (s := s) K1.out (OK.out.arg (i := 0) (by omega)) (OK.out.arg (i := 1) (by omega)) (IH.out 0 (OK.out.arg (i := 0) (by omega))) (IH.out 1 (OK.out.arg (i := 1) (by omega))) (ta.below q0) (tb.below q0))
          have KP := Lib.hid (show ∀ w', Below W.heap.size W w' → w'.cell? ⟨w.heap.size, 2, none⟩ = some (.string s) ∧ w'.cell? ⟨w.heap.size, 3, none⟩ = some (.slice (some ⟨b, 0, none⟩) 2 c) ∧ w'.cell? ⟨b, 0, none⟩ = some (.int .i64 u0) ∧ w'.cell? ⟨b, 1, none⟩ = some (.int .i64 u1) ∧ w'.cell? ⟨b, 2, none⟩ = some (.string u2) ∧ w'.cell? ⟨b, 3, none⟩ = some (.slice U0 um uc) ∧ w'.cell? ⟨b, 4, none⟩ = some (.int .i64 v0) ∧ w'.cell? ⟨b, 5, none⟩ = some (.int .i64 v1) ∧ w'.cell? ⟨b, 6, none⟩ = some (.string v2) ∧ w'.cell? ⟨b, 7, none⟩ = some (.slice V0 vm vc) from fun w' hw => by
            have r := fun (j : Nat) => hw.cell (p := ⟨b, j, none⟩) hbl
            have rx := fun (j : Nat) => hw.cell (p := ⟨w.heap.size, j, none⟩) hgx
            exact ⟨(rx 2).trans x2, (rx 3).trans x3, (r 0).trans a0, (r 1).trans a1, (r 2).trans a2, (r 3).trans a3, (r 4).trans d0, (r 5).trans d1, (r 6).trans d2, (r 7).trans d3⟩)
          clear hargs ta tb a0 a1 a2 a3 d0 d1 d2 d3
          go_enter Try.func31, Try.ntmps31
          go_upto_region 1 with fail
          rw [← HW.out]
          go_wp2_with fail
          go_region_held3 (fun w' => w'.cell? ⟨w.heap.size, 2, none⟩ = some (.string s) ∧ w'.cell? ⟨w.heap.size, 3, none⟩ = some (.slice (some ⟨b, 0, none⟩) 2 c) ∧ w'.cell? ⟨b, 0, none⟩ = some (.int .i64 u0) ∧ w'.cell? ⟨b, 1, none⟩ = some (.int .i64 u1) ∧ w'.cell? ⟨b, 2, none⟩ = some (.string u2) ∧ w'.cell? ⟨b, 3, none⟩ = some (.slice U0 um uc) ∧ w'.cell? ⟨b, 4, none⟩ = some (.int .i64 v0) ∧ w'.cell? ⟨b, 5, none⟩ = some (.int .i64 v1) ∧ w'.cell? ⟨b, 6, none⟩ = some (.string v2) ∧ w'.cell? ⟨b, 7, none⟩ = some (.slice V0 vm vc))
            (first | (with_reducible exact KP.out _ q0) | (with_reducible exact KP.out _ q5))
            (((with_reducible refine CB.out.mono ?_); rintro e w6 ⟨⟨DA, dc, rfl, hd6⟩, h6⟩; have q5 := q0.trans h6))
          have D6 := Lib.hid (show ORow w6 w.heap.size _ _ from ownsRow_more hd6 BW.out.size)
          have B6 := Lib.hid (BW.out.trans (q5.mono BW.out.size))
          clear hd6 h6 q0 q5 x0 x1 x2 x3
          go_wp2_with fail
          go_ret2
          exact ⟨⟨DA, dc, rfl, D6.out⟩, B6.out⟩
        · have E := Lib.hid (when_none (n := n) (s := s) (m := m) (a := a) K1.out (fun h => h1 h.1) (fun h => h1 h.1) (fun h => h2 h.1) (fun h => h2 h.1) (fun h => h2 h.1))
          have hm1 : ((m : Int) == 1) = false := by rw [beq_eq_false_iff_ne]; omega
          have hm2 : ((m : Int) == 2) = false := by rw [beq_eq_false_iff_ne]; omega
          go_enter Try.func31, Try.ntmps31
          go_upto_region 1 with fail
          rw [← HW.out]
          go_wp2_with fail
          go_ret2
          rw [E.out]
          exact WhenP.nil BW.out
end Go.Proofs.Ytjjkigphfijnbaa
namespace Go.Proofs.Ytjjkigphfijnbaa
open Go.RowKit

set_option maxRecDepth 100000 in
set_option maxHeartbeats 8000000 in
theorem wakeWhens_any (s : ByteArray) (w : World) : Calls Try.prog 9 #[.string s] w fun e w' => e = .returned (.bool true) ∧ Below w.heap.size w w' := by
  go_enter Try.func9, Try.ntmps9
  go_wp2_with fail
  refine (wone_tp s _).mono ?_
  rintro e w1 ⟨⟨k, n, tx, A, m, c, t, rfl, ht, hgd, hnd⟩, h1⟩
  have OK := Lib.hid (show t.ok from ⟨hgd, hnd⟩)
  obtain ⟨W, hW⟩ : ∃ W, W = w1.alloc (Obj.cells #[.int .i64 k, .int .i64 n, .string tx, .slice A m c] 34) := ⟨_, rfl⟩
  have BA : Below w1.heap.size w1 W := by rw [hW]; exact belA (Below.refl _ _) _
  have BW := Lib.hid (h1.trans (BA.mono h1.size))
  have X := Lib.hid (show W.heap[w1.heap.size]? = some (.cells #[.int .i64 k, .int .i64 n, .string tx, .slice A m c] 34 (0, 0)) by rw [hW]; exact heap_alloc_new _ _)
  have TT := Lib.hid ((ht.more (S' := fun _ => True) fun _ _ => trivial).below BA)
  have HW := Lib.hid hW
  obtain ⟨p, hp⟩ : ∃ p, whenT t = p := ⟨_, rfl⟩
  have hfew := whenT_few OK.out
  have C1 := Lib.hid (when_any t OK.out _ _ _ TT.out)
  rw [hp] at C1 hfew
  obtain ⟨x0, x1, x2, x3⟩ := box4 X.out
  have hgx := heap_lt X.out
  clear h1 ht hgd hnd BA hW
  go_upto_region 2 with fail
  rw [← HW.out]
  go_wp2_with fail
  refine C1.out.mono ?_
  rintro e w2 ⟨⟨UA, uc, rfl, hu⟩, h2⟩
  have B2 := Lib.hid (BW.out.trans (h2.mono BW.out.size))
  have U2 := Lib.hid hu.irow
  have X2 := Lib.hid ((h2.block _ hgx).trans X.out)
  have C2 := Lib.hid (rwhen_any t OK.out _ _ _ (TT.out.below h2))
  rw [hp] at C2
  clear hu h2 x0 x1 x2 x3 C1 hp
  obtain ⟨x0, x1, x2, x3⟩ := box4 X2.out
  have hgx2 := heap_lt X2.out
  go_wp2_with fail
  refine C2.out.mono ?_
  rintro e w3 ⟨⟨VA, vc, rfl, hv⟩, h3⟩
  have B3 := Lib.hid (B2.out.trans (h3.mono B2.out.size))
  have C3 := Lib.hid (wsame_any (U2.out.below h3) hv.irow (by omega))
  obtain ⟨pn, pl⟩ := p
  have hzz : (pn == pn) = true := by simp
  clear hv h3 x0 x1 x2 x3 C2
  go_wp2_with fail
  refine C3.out.mono ?_
  rintro e w4 ⟨rfl, h4⟩
  have B4 := Lib.hid (B3.out.trans (h4.mono B3.out.size))
  clear h4
  go_wp2_with fail
  go_ret
  exact ⟨rfl, B4.out⟩
end Go.Proofs.Ytjjkigphfijnbaa
