/- The walk through coneyref07.Subst where one variable alone has a term in its place: an atom. -/
import Derived.Test.YtjjkigphfijnbaaRes1
import Derived.Test.YtjjkigphfijnbaaRu4
import Derived.Deep.RegionLaw
namespace Go.Proofs.Ytjjkigphfijnbaa
open Go.RowKit

/-- An atom in the place of the variable v. -/
def subAt (v : Nat) (nm : ByteArray) : T → T
  | .nil => .nil
  | .mk k n s m a => if k = 1 then (if n = (v : Int) then .mk 3 0 nm 0 fun _ => .nil else .mk k n s m a) else if k = 4 then .mk 4 0 s m fun i => subAt v nm (a i) else .mk k n s m a
theorem subAt_good {v : Nat} {nm : ByteArray} (hn : nm.size ≤ 4096) : ∀ {t : T}, t.good → (subAt v nm t).good ∧ (subAt v nm t).nodes = t.nodes := by
  intro t
  induction t with
  | nil => exact fun h => h.elim
  | mk k n s m a ih =>
    intro h
    unfold subAt
    by_cases h1 : k = 1
    · rw [if_pos h1]
      have hm : m = 0 := by rcases h.1 with h | h | h | h <;> omega
      split
      · subst hm
        exact ⟨⟨.inr (.inr (.inl ⟨rfl, rfl, hn, rfl⟩)), fun i hi => absurd hi (by omega)⟩, by simp [T.nodes, sumTo]⟩
      · exact ⟨h, rfl⟩
    · rw [if_neg h1]
      by_cases h4 : k = 4
      · rw [if_pos h4]
        have hs := h.1
        refine ⟨⟨.inr (.inr (.inr ⟨rfl, rfl, by rcases hs with h | h | h | h <;> first | omega | exact h.2.2.1, by rcases hs with h | h | h | h <;> omega⟩)), fun i hi => (ih i (h.2 i hi)).1⟩, ?_⟩
        simp only [T.nodes]
        congr 1
        have key : ∀ q, q ≤ m → (sumTo q fun i => (subAt v nm (a i)).nodes) = sumTo q fun i => (a i).nodes := by
          intro q
          induction q with
          | zero => exact fun _ => rfl
          | succ q ihq => intro hq; simp only [sumTo]; rw [ihq (by omega), (ih q (h.2 q (by omega))).2]
        exact key m (Nat.le_refl _)
      · rw [if_neg h4]; exact ⟨h, rfl⟩
theorem subAt_ok {v : Nat} {nm : ByteArray} (hn : nm.size ≤ 4096) {t : T} (h : t.ok) : (subAt v nm t).ok := ⟨(subAt_good hn h.1).1, by rw [(subAt_good hn h.1).2]; exact h.2⟩
/-- A row of q terms of which the one at v is an atom, the others are none. -/
structure Sub1 (w : World) (g q v : Nat) (nm : ByteArray) : Prop where
  blk : ∃ cs f, w.heap[g]? = some (.cells cs 34 f) ∧ (∀ i, i < q → i ≠ v → cs[i * 4]? = some (.int .i64 0)) ∧ cs[v * 4]? = some (.int .i64 3) ∧ cs[v * 4 + 1]? = some (.int .i64 0) ∧ cs[v * 4 + 2]? = some (.string nm) ∧ cs[v * 4 + 3]? = some (.slice none 0 0)
  lt : v < q
  few : q ≤ 400
theorem Sub1.below {w w' : World} {g q v : Nat} {nm : ByteArray} (h : Sub1 w g q v nm) (hb : Below w.heap.size w w') : Sub1 w' g q v nm := by
  obtain ⟨⟨cs, f, h1, h2⟩, h3, h4⟩ := h
  exact ⟨⟨cs, f, (hb.block g (heap_lt h1)).trans h1, h2⟩, h3, h4⟩
def SubV (v : Nat) (nm : ByteArray) (t : T) : Prop := ∀ (val : Value) (w0 w : World) (g q c : Nat), TP w0 (fun _ => True) t val → Sub1 w0 g q v nm → Below w0.heap.size w0 w →
  Calls Try.prog 28 #[val, .slice (some ⟨g, 0, none⟩) q c] w fun e w' => (∃ v', e = .returned v' ∧ TP w' (fun b => b < w0.heap.size ∨ w.heap.size ≤ b) (subAt v nm t) v') ∧ Below w.heap.size w w'
set_option maxRecDepth 100000 in
set_option maxHeartbeats 4000000 in
theorem subv_leaf (v : Nat) (nm : ByteArray) (k n : Int) (s : ByteArray) (m : Nat) (a : Nat → T) (hg : (T.mk k n s m a).good) (h4 : (k == 4) = false) : SubV v nm (.mk k n s m a) := by
  intro val w0 w g q c hv h1 hb0
  have HV0 := hv
  obtain ⟨A, cc, rfl, hT⟩ := hv
  have HV := Lib.hid (HV0.old.below hb0)
  have HS := Lib.hid (h1.below hb0)
  have hq := h1.few
  have hvq := h1.lt
  have hs0 := hb0.size
  clear HV0 hT h1 hb0
  have FIN := Lib.hid (fun (B : World) (hB : Below w.heap.size w B) => (HV.out.below hB).more (S' := fun b => b < w0.heap.size ∨ w.heap.size ≤ b) fun b hb => .inl hb.2)
  cases hk1 : (k == 1) with
  | true =>
    have hk := Lib.hid (show k = 1 by simpa using hk1)
    obtain ⟨hn0, hn1⟩ : 0 ≤ n ∧ n < 1000 := by
      have := hk.out
      rcases hg.1 with ⟨_, h0, h1, _⟩ | ⟨h, _⟩ | ⟨h, _⟩ | ⟨h, _⟩
      · exact ⟨h0, h1⟩
      all_goals omega
    obtain ⟨j, rfl⟩ : ∃ j : Nat, n = (j : Int) := ⟨n.toNat, by omega⟩
    obtain ⟨⟨cs, f, hbg, hz, c0, c1, c2, c3⟩, _, _⟩ := HS.out
    have hgl := heap_lt hbg
    have r := fun (i : Nat) => cell_of_row w g i _ _ _ hbg
    by_cases hjq : j < q
    · by_cases hjv : j = v
      · subst hjv
        have hsub : subAt j nm (.mk k (j : Int) s m a) = .mk 3 0 nm 0 fun _ => .nil := by simp only [subAt, hk.out, if_true]
        have HSUB := Lib.hid hsub
        have d0 := (r _).trans c0
        have d1 := (r _).trans c1
        have d2 := (r _).trans c2
        have d3 := (r _).trans c3
        have hjq' : (j : Int) < (q : Int) := by omega
        clear hk hsub r c0 c1 c2 c3 hz hbg
        go_enter Try.func28, Try.ntmps28
        go_wp2_with fail
        refine bodyPost_ret (v := .agg #[.int .i64 3, .int .i64 0, .string nm, .slice none 0 0]) (by simp [results, go_sem]) rfl ?_
        rw [HSUB.out]
        exact ⟨⟨_, rfl, TP.leaf _ _ 3 0 nm⟩, belA (belA (Below.refl _ _) _) _⟩
      · have hsub : subAt v nm (.mk k (j : Int) s m a) = .mk k (j : Int) s m a := by simp only [subAt, hk.out, if_true]; rw [if_neg (by omega)]
        have HSUB := Lib.hid hsub
        have d0 := (r _).trans (hz j hjq hjv)
        have hjq' : (j : Int) < (q : Int) := by omega
        clear hk hsub r c0 c1 c2 c3 hz hbg
        go_enter Try.func28, Try.ntmps28
        go_wp2_with fail
        refine bodyPost_ret (v := .agg #[.int .i64 k, .int .i64 (j : Int), .string s, .slice A m cc]) (by simp [results, go_sem]) rfl ?_
        rw [HSUB.out]
        have B := belA (belA (Below.refl w.heap.size w) (Obj.cells #[.int .i64 k, .int .i64 (j : Int), .string s, .slice A m cc] 34)) (Obj.cells #[.int .i64 k, .int .i64 (j : Int), .string s, .slice A m cc] 34)
        exact ⟨⟨_, rfl, FIN.out _ B⟩, B⟩
    · have hsub : subAt v nm (.mk k (j : Int) s m a) = .mk k (j : Int) s m a := by simp only [subAt, hk.out, if_true]; rw [if_neg (by omega)]
      have HSUB := Lib.hid hsub
      have hjq' : ¬ (j : Int) < (q : Int) := by omega
      clear hk hsub r c0 c1 c2 c3 hz hbg
      go_enter Try.func28, Try.ntmps28
      go_wp2_with fail
      refine bodyPost_ret (v := .agg #[.int .i64 k, .int .i64 (j : Int), .string s, .slice A m cc]) (by simp [results, go_sem]) rfl ?_
      rw [HSUB.out]
      have B := belA (belA (Below.refl w.heap.size w) (Obj.cells #[.int .i64 k, .int .i64 (j : Int), .string s, .slice A m cc] 34)) (Obj.cells #[.int .i64 k, .int .i64 (j : Int), .string s, .slice A m cc] 34)
      exact ⟨⟨_, rfl, FIN.out _ B⟩, B⟩
  | false =>
    have hsub : subAt v nm (.mk k n s m a) = .mk k n s m a := by
      have e1 : ¬ k = 1 := by simpa using hk1
      have e4 : ¬ k = 4 := by simpa using h4
      simp only [subAt, if_neg e1, if_neg e4]
    have HSUB := Lib.hid hsub
    clear hsub
    go_enter Try.func28, Try.ntmps28
    go_wp2_with fail
    refine bodyPost_ret (v := .agg #[.int .i64 k, .int .i64 n, .string s, .slice A m cc]) (by simp [results, go_sem]) rfl ?_
    rw [HSUB.out]
    have B := belA (belA (Below.refl w.heap.size w) (Obj.cells #[.int .i64 k, .int .i64 n, .string s, .slice A m cc] 34)) (Obj.cells #[.int .i64 k, .int .i64 n, .string s, .slice A m cc] 34)
    exact ⟨⟨_, rfl, FIN.out _ B⟩, B⟩
set_option maxRecDepth 100000 in
set_option maxHeartbeats 4000000 in
theorem subv_cmp (v : Nat) (nm : ByteArray) (n : Int) (s : ByteArray) (m : Nat) (a : Nat → T) (hm : m ≤ 1000) (ih : ∀ i, i < m → SubV v nm (a i)) : SubV v nm (.mk 4 n s m a) := by
  intro val w0 w g q c hv h1 hb0
  obtain ⟨A, cc, rfl, hmc, hA, hx⟩ := hv
  have HX := Lib.hid hx
  have H1 := Lib.hid h1
  have HB0 := Lib.hid hb0
  have IH := Lib.hid ih
  have hs0 := hb0.size
  clear hx h1 hb0 ih
  obtain ⟨item, hi1, hi2, hi3, hi4⟩ := elTerm.hi
  have G := Lib.hid (show Geo w0.heap.size w.heap.size w.heap.size (w.heap.size + 1) (w.heap.size + 2) (w.heap.size + 3) from ⟨hs0, Nat.le_refl _, by omega, by omega, by omega, by omega, by omega, by omega, by omega⟩)
  go_enter Try.func28, Try.ntmps28
  go_wp2_with fail
  go_loopw [6] (fun iv wr => ∃ (i : Nat) (o : Value) (xs : List Value), iv = .int .i64 (i : Int) ∧ BldI (fun i => subAt v nm (a i)) w0.heap.size w.heap.size w.heap.size (w.heap.size + 1) (w.heap.size + 2) (w.heap.size + 3) #[.int .i64 4, .int .i64 n, .string s, .slice A m cc] #[.int .i64 0, .int .i64 0, .string ⟨#[]⟩, .slice none 0 0] s m w wr i o xs) (fun iv _ => m - (intOf iv).toNat)
  case atStart =>
    refine ⟨0, .slice none 0 0, [], rfl, ?_, ?_, ?_, World.ownsRow_nil _ _ _ _, fun q hq => absurd hq (by omega), Nat.zero_le _, belA (belA (belA (Below.refl _ _) _) _) _, by simp⟩
    · exact (Below.heap_alloc _ _ _ (by simp; omega)).trans ((Below.heap_alloc _ _ _ (by simp)).trans (heap_alloc_new _ _))
    · exact (Below.heap_alloc _ _ _ (by simp)).trans ((congrArg _ (by simp)).trans (heap_alloc_new _ _))
    · exact (congrArg _ (by simp)).trans (heap_alloc_new _ _)
  case round =>
    obtain ⟨i, o, xs, rfl, hr⟩ := hrel
    obtain ⟨OA, oc, rfl, hoc, hoA, hom, hox⟩ := own_open hr.own
    have R := Lib.hid hr
    have hi := hr.hi
    obtain ⟨y0, y1, y2, y3⟩ := box4 hr.tb
    obtain ⟨z0, z1, z2, z3⟩ := box4 hr.ob
    have hsl := hr.low.size
    have hlw := hr.lw
    have hol := heap_lt hr.ob
    clear hr
    by_cases him : i < m
    · have him' : (i : Int) < (m : Int) := by omega
      obtain ⟨b, cs, fz, rfl, hSb, hbb, hcell⟩ := HX.out (by omega)
      obtain ⟨v0, v1, v2, v3, c0, c1', c2, c3, ht'⟩ := hcell i him
      obtain ⟨k0', k1, k2, A0', m0', cc0, he⟩ := ht'.agg
      injection he with he
      simp only [Array.mk.injEq, List.cons.injEq, and_true] at he
      obtain ⟨rfl, rfl, rfl, rfl⟩ := he
      have BWR := Lib.hid (HB0.out.trans (R.out.low.mono hs0))
      have hbw := (BWR.out.block b (heap_lt hbb)).trans hbb
      have hbl := heap_lt hbw
      have hr := fun (j : Nat) => cell_of_row wr b j _ _ _ hbw
      have d0 := (hr (4 * i)).trans c0
      have d1 := (hr (4 * i + 1)).trans c1'
      have d2 := (hr (4 * i + 2)).trans c2
      have d3 := (hr (4 * i + 3)).trans c3
      rw [Nat.mul_comm 4 i] at d0 d1 d2 d3
      have BD := Lib.hid ((Below.refl wr.heap.size wr).drew)
      have CI := Lib.hid (IH.out i him _ w0 wr.drew g q c ht' H1.out BWR.out.drew)
      clear hr c0 c1' c2 c3 ht' hcell hbb hbw hox
      go_wp2_with fail
      go_region_law (first
        | (refine step_append_lies _ rfl _ _ _ rfl (w.heap.size + 3) 34 item (.agg #[.int .i64 0, .int .i64 0, .string ⟨#[]⟩, .slice none 0 0]) 4 56 Try.underlying32 hi1 hi2 hi3 hi4 rfl (by omega) _ i xs rfl (own_below R.out.own ((BD.out.trans h5).alloc hs5 _)) ⟨w5.heap.size, 0, none⟩ 1 1 [.int .i64 e0, .int .i64 e1, .string e2, .slice B0 n0' d0'] rfl rfl (World.news_of_block (heap_alloc_new _ _)) (by intro u hu; simp only [List.mem_cons, List.not_mem_nil, or_false] at hu; rcases hu with rfl | rfl | rfl | rfl <;> rfl) (by omega) (by unfold maxLen; omega) (by omega) (by simp; omega) _ rfl ?_; intro g9 cap9 w9 hown9 hg9 hat9 hlt9; have hob9 := (hg9.block (w.heap.size + 2) (by simp; omega) (fun e => by have := (R.out.own.lt _ e.symm).1; omega)).trans ((Below.heap_alloc w5 _ _ (by omega)).trans ((h5.block (w.heap.size + 2) hol).trans R.out.ob)); have of9 : ∀ j, w9.frozen? ⟨w.heap.size + 2, j, none⟩ = false := (fun j => by simp [World.frozen?, hob9]); obtain ⟨p0, p1, p2, p3⟩ := box4 hob9)
        | (go_simp; go_at_call 28; refine CI.out.mono ?_; rintro e w5 ⟨⟨v5, rfl, hv5⟩, h5⟩; have hag := hv5.agg; obtain ⟨e0, e1, e2, B0, n0', d0', rfl⟩ := hag; have hs5 : wr.heap.size ≤ w5.heap.size := h5.size; have hl5 : w.heap.size + 1 < w5.heap.size := (by omega); have hl6 : w.heap.size + 2 < w5.heap.size := (by omega); obtain ⟨z0, z1, z2, z3⟩ := box4 ((h5.block (w.heap.size + 2) hol).trans R.out.ob)))
      all_goals
        have SS := Lib.hid (BldI.push G.out R.out ((BD.out.trans h5).alloc hs5 (Obj.cells #[.int .i64 e0, .int .i64 e1, .string e2, .slice B0 n0' d0'] 34)) (hv5.below ((Below.refl _ _).alloc (Nat.le_refl _) _)) hown9 hg9 (hat9.imp id fun e => e.trans (by simp)) him)
        clear h5 hv5 hown9 hg9 hat9 hlt9 hob9
        go_wp2_with fail
        go_roundw
        case rel => exact ⟨i + 1, _, _, by go_num, SS.out⟩
        case measure => simp [intOf]; omega
    · obtain rfl : i = m := by omega
      have hlr := heap_lt R.out.rb
      obtain ⟨x0, x1, x2, x3⟩ := box4 R.out.rb
      have bf : ∀ j, wr.frozen? ⟨w.heap.size + 1, j, none⟩ = false := fun j => by simp [World.frozen?, R.out.rb]
      clear hox
      go_wp2_with fail
      have D := R.out.done G.out rfl
      obtain ⟨p0, p1, p2, p3⟩ := box4 D.1
      refine bodyPost_ret (v := .agg #[.int .i64 4, .int .i64 0, .string s, .slice OA i oc]) (by simp [results, go_sem, p0, p1, p2, p3]) rfl ?_
      have hsub : subAt v nm (.mk 4 n s i a) = .mk 4 0 s i fun q => subAt v nm (a q) := by simp [subAt]
      rw [hsub]
      exact ⟨⟨_, rfl, D.2.1⟩, D.2.2⟩
theorem subv_any (v : Nat) (nm : ByteArray) : ∀ t : T, t.ok → SubV v nm t := by
  intro t
  induction t with
  | nil => exact fun h => h.1.elim
  | mk k n s m a ih =>
    intro h
    cases h4 : (k == 4) with
    | false => exact subv_leaf v nm k n s m a h.1 h4
    | true =>
      obtain rfl : k = 4 := by simpa using h4
      exact subv_cmp v nm n s m a (Nat.le_of_lt h.few) fun i hi => ih i (h.arg hi)
end Go.Proofs.Ytjjkigphfijnbaa
