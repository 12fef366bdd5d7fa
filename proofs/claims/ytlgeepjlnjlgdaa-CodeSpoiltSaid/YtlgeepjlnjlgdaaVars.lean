/- The walks through coneyref07.has, Vars; coneyref10.Name, Is. -/
import Derived.Lib.OwnKind
import Derived.Test.YtlgeepjlnjlgdaaGd
import Derived.Deep.QuietTactic
import Derived.BigQuiet
namespace Go.Proofs.Ytlgeepjlnjlgdaa
open Go.RowKit

set_option maxRecDepth 100000 in
set_option maxHeartbeats 4000000 in
theorem has7_any {ns : List Int} {A : Option Addr} {c : Nat} {w : World} (ha : IRow w (.slice A ns.length c) ns) (hl : ns.length ≤ 1000000) (x : Int) {b : Bool} (hb : b = true ↔ x ∈ ns) :
    Calls Try.prog 20 #[.slice A ns.length c, .int .i64 x] w fun e w' => e = .returned (.bool b) ∧ Below w.heap.size w w' := by
  obtain ⟨_, _, e1, ha1, ha2, hax⟩ := ha.open_
  injection e1 with e1 _ e2
  subst e1; subst e2
  have HA := Lib.hid hax
  have HB := Lib.hid hb
  clear hax ha ha2 hb
  go_enter Try.func20, Try.ntmps20
  go_wp2_with fail
  go_loopw [4, 5] (fun _ iv wr => ∃ i : Nat, iv = .int .i64 (i : Int) ∧ i ≤ ns.length ∧ (∀ q, q < i → ns[q]? ≠ some x) ∧ Below w.heap.size w wr) (fun _ iv _ => ns.length - (intOf iv).toNat)
  case atStart => exact ⟨0, rfl, Nat.zero_le _, fun q hq => absurd hq (by omega), Below.refl _ _⟩
  case round =>
    obtain ⟨i, rfl, hi, hq, hb⟩ := hrel
    have HQ := Lib.hid hq
    have HW := Lib.hid hb
    clear hb hq
    by_cases him : i < ns.length
    · have him' : (i : Int) < (ns.length : Int) := by omega
      obtain ⟨y, hy⟩ : ∃ y, ns[i]? = some y := ⟨_, List.getElem?_eq_getElem him⟩
      obtain ⟨ga, rfl, hgl, ca⟩ := HA.out i y hy
      have da := (HW.out.cell (p := ⟨ga, i, none⟩) hgl).trans ca
      have HY := Lib.hid hy
      clear ca hy
      cases hyx : (y == x) with
      | true =>
        have E := Lib.hid (show b = true from HB.out.mpr (by have h9 : y = x := (by simpa using hyx); rw [← h9]; exact List.mem_of_getElem? HY.out))
        go_wp2_with fail
        go_ret
        exact ⟨by rw [E.out]; rfl, HW.out⟩
      | false =>
        have hne : y ≠ x := by simpa using hyx
        have HN := Lib.hid hne
        clear hne
        go_wp2_with fail
        go_roundw
        case rel => exact ⟨i + 1, by go_num, him, fun q hq h => by
          rcases Nat.lt_or_ge q i with h1 | h1
          · exact HQ.out q h1 h
          · obtain rfl : q = i := by omega
            rw [HY.out] at h
            injection h with h
            exact HN.out h, HW.out⟩
        case measure => simp [intOf]; omega
    · have him' : ¬ (i : Int) < (ns.length : Int) := by omega
      have E := Lib.hid (show b = false from by
        cases b with
        | false => rfl
        | true =>
          obtain ⟨q, hq⟩ := List.getElem?_of_mem (HB.out.mp rfl)
          exact absurd hq (HQ.out q (by
            rcases Nat.lt_or_ge q ns.length with h | h
            · omega
            · rw [List.getElem?_eq_none h] at hq; cases hq)))
      go_wp2_with fail
      go_ret
      exact ⟨by rw [E.out]; rfl, HW.out⟩
theorem grownFar {w1 w2 : World} {B k : Nat} {e : TypeId} {n : Nat} {v : Value} {xs : List Value} (hx : w1.ownsRow B e k v n xs) (hg : w1.grownBy w2 v.ownBlock) {b : Nat} {o : Obj} (hb : w1.heap[b]? = some o) (hne : ∀ cs f, o ≠ .cells cs e f) : w2.heap[b]? = some o := by
  refine (hg.block b (heap_lt hb) fun h => ?_).trans hb
  obtain ⟨c, fz, h2⟩ := Go.Lib.ownsRow_kind hx b h.symm
  rw [hb] at h2
  injection h2 with h2
  exact hne _ _ h2
theorem cellsNe {cs cs' : Array Value} {t t' : TypeId} {m m' : Nat × Nat} (h : t ≠ t') : Obj.cells cs t m ≠ Obj.cells cs' t' m' := fun e => by injection e with _ e; exact h e
/-- A row of integers of one's own (base B). -/
def ORow (w : World) (B : Nat) (v : Value) (ns : List Int) : Prop := w.ownsRow B 3 1 v ns.length (ns.map (Value.int .i64))
theorem ORow.irow {w : World} {B : Nat} {v : Value} {ns : List Int} (h : ORow w B v ns) : IRow w v ns := ownsRow_more h (Nat.zero_le _)
theorem ORow.below {w w' : World} {B : Nat} {v : Value} {ns : List Int} (h : ORow w B v ns) (hb : Below w.heap.size w w') : ORow w' B v ns := own_below h hb
def VarsP (t : T) (w : World) (e : Ending) (w' : World) : Prop := (∃ A c, e = .returned (.slice A (varsT t).length c) ∧ ORow w' w.heap.size (.slice A (varsT t).length c) (varsT t)) ∧ Below w.heap.size w w'
theorem ORow.push {w1 : World} {B : Nat} {v' : Value} {ns : List Int} {x : Int} (hown : w1.ownsRow B 3 1 v' (ns.length + 1) (ns.map (Value.int .i64) ++ [.int .i64 x])) : ORow w1 B v' (ns ++ [x]) := by
  unfold ORow
  rw [List.length_append, List.map_append]
  exact hown
set_option maxRecDepth 100000 in
set_option maxHeartbeats 8000000 in
theorem vars_any : ∀ (t : T), t.ok → ∀ (v : Value) (w : World) (S : Nat → Prop), TP w S t v →
    Calls Try.prog 8 #[v] w fun e w' => VarsP t w e w' := by
  intro t
  induction t with
  | nil => exact fun h => h.1.elim
  | mk k n s m a ih =>
    intro hok v w S hv
    obtain ⟨A, c, rfl, hmc, hA, hx⟩ := hv
    have HX := Lib.hid hx
    have OK := Lib.hid hok
    have IH := Lib.hid ih
    have hm : m ≤ 4000 := Nat.le_of_lt hok.few
    have BX := Lib.hid (belA (belA (Below.refl w.heap.size w) (Obj.cells #[.int .i64 k, .int .i64 n, .string s, .slice A m c] 24)) (Obj.cells #[] 3))
    have OW := Lib.hid (show ORow ((w.alloc (Obj.cells #[.int .i64 k, .int .i64 n, .string s, .slice A m c] 24)).alloc (Obj.cells #[] 3)) w.heap.size (.slice (some ⟨w.heap.size + 1, 0, none⟩) 0 0) [] from ownsRow_more (ownsRow_empty _ _ 1 _ ((congrArg _ (by simp)).trans (heap_alloc_new _ _))) (Nat.le_succ _))
    obtain ⟨item, ii1, ii2, ii3, ii4⟩ := elInt8.hi
    clear hx hok ih
    cases hk1 : (k == 1) with
    | true =>
      have E := Lib.hid (show varsT (.mk k n s m a) = [n] by unfold varsT; rw [if_pos (by simpa using hk1)])
      go_enter Try.func8, Try.ntmps8
      go_wp2_with (at_builtin; go_must (refine wpList_push _ rfl _ _ _ rfl elInt8 w.heap.size _ _ _ rfl (own_below OW.out (belA (Below.refl _ _) _)) _ _ (.int .i64 n) rfl (by simp [go_sem]) rfl (by simp) (by simp [maxLen]) (by simp; omega) ?_); intro v1 w1 hown1 hb1)
      have O1 := Lib.hid (show ORow w1 w.heap.size v1 [n] from hown1)
      have B1 := Lib.hid ((belA BX.out (Obj.cells #[.int .i64 n] 3)).trans hb1)
      obtain ⟨A1, c1, rfl, _⟩ := own_open hown1
      clear hown1 hb1
      go_wp2_with fail
      go_ret
      rw [VarsP, E.out]
      exact ⟨⟨A1, c1, rfl, O1.out⟩, B1.out⟩
    | false =>
      have hk1n : ¬ k = 1 := by simpa using hk1
      cases hk4 : (k == 4) with
      | false =>
        have E := Lib.hid (show varsT (.mk k n s m a) = [] by unfold varsT; rw [if_neg hk1n, if_neg (by simpa using hk4)])
        clear hk1n
        go_enter Try.func8, Try.ntmps8
        go_wp2_with fail
        go_loopw [3, 4] (fun ov iv wr => ov = .slice (some ⟨w.heap.size + 1, 0, none⟩) 0 0 ∧ iv = .int .i64 0 ∧ wr = (w.alloc (Obj.cells #[.int .i64 k, .int .i64 n, .string s, .slice A m c] 24)).alloc (Obj.cells #[] 3)) (fun _ _ _ => 0)
        case atStart => exact ⟨rfl, rfl, rfl⟩
        case round =>
          obtain ⟨rfl, rfl, rfl⟩ := hrel
          go_wp2_with fail
          go_ret
          rw [VarsP, E.out]
          exact ⟨⟨some ⟨w.heap.size + 1, 0, none⟩, 0, rfl, OW.out⟩, BX.out⟩
      | true =>
        have E := Lib.hid (show varsT (.mk k n s m a) = foldN m (fun i => varsT (a i)) [] by rw [show k = 4 by simpa using hk4]; exact varsT_cmp n s m a)
        clear hk1n
        obtain ⟨ff, hff⟩ : ∃ ff : Nat → List Int, (fun i => varsT (a i)) = ff := ⟨_, rfl⟩
        have FI := Lib.hid (show ∀ i, varsT (a i) = ff i from fun i => by rw [← hff])
        have HFF := Lib.hid hff
        rw [hff] at E
        clear hff
        go_enter Try.func8, Try.ntmps8
        go_wp2_with fail
        go_loopw [3, 4, 5, 6] (fun ov iv _ _ wr => ∃ i : Nat, iv = .int .i64 (i : Int) ∧ i ≤ m ∧ ORow wr w.heap.size ov (foldN i ff []) ∧ Below w.heap.size w wr ∧ wr.heap[w.heap.size]? = some (.cells #[.int .i64 k, .int .i64 n, .string s, .slice A m c] 24 (0, 0))) (fun _ iv _ _ _ => m - (intOf iv).toNat)
        case atStart => exact ⟨0, rfl, Nat.zero_le _, OW.out, BX.out, (Below.heap_alloc _ _ _ (by simp)).trans (heap_alloc_new _ _)⟩
        case round =>
          clear OW BX
          obtain ⟨i, rfl, hi, ho, hb, hbox⟩ := hrel
          obtain ⟨OA, oc, rfl, _, _, _, _⟩ := own_open ho
          have O := Lib.hid ho
          have HB := Lib.hid hb
          have X := Lib.hid hbox
          obtain ⟨x0, x1, x2, x3⟩ := box4 hbox
          have hgl := heap_lt hbox
          clear ho hb hbox
          by_cases him : i < m
          · have him' : (i : Int) < (m : Int) := by omega
            obtain ⟨b, cs, fz, rfl, hSb, hbb, hcell⟩ := HX.out (by omega)
            obtain ⟨v0, v1, v2, v3, c0, c1', c2, c3, ht'⟩ := hcell i him
            obtain ⟨k0', k1, k2, A0', m0', cc0, he⟩ := ht'.agg
            injection he with he
            simp only [Array.mk.injEq, List.cons.injEq, and_true] at he
            obtain ⟨rfl, rfl, rfl, rfl⟩ := he
            have hbw := (HB.out.block b (heap_lt hbb)).trans hbb
            have hbl := heap_lt hbw
            have hrc := fun (j : Nat) => cell_of_row wr b j _ _ _ hbw
            have d0 := (hrc (4 * i)).trans c0
            have d1 := (hrc (4 * i + 1)).trans c1'
            have d2 := (hrc (4 * i + 2)).trans c2
            have d3 := (hrc (4 * i + 3)).trans c3
            rw [Nat.mul_comm 4 i] at d0 d1 d2 d3
            have CI := Lib.hid (IH.out i (OK.out.arg him) _ wr S (ht'.below HB.out))
            clear hrc c0 c1' c2 c3 ht' hcell hbb hbw
            go_wp2_with fail
            refine CI.out.mono ?_
            rintro e w5 ⟨⟨LA, lc, rfl, hl5⟩, h5⟩
            rw [FI.out i] at hl5 ⊢
            obtain ⟨l, hl⟩ : ∃ l, ff i = l := ⟨_, rfl⟩
            have HL := Lib.hid hl
            rw [hl] at hl5 ⊢
            have hlf : l.length ≤ 1000 := by rw [← hl, ← FI.out i]; exact varsT_few (OK.out.arg him)
            have hlr : ∀ x ∈ l, 0 ≤ x ∧ x < 1000 := fun x hx => by rw [← hl, ← FI.out i] at hx; exact (OK.out.arg him).has_rng (varsT_has hx)
            have LR := Lib.hid hlr
            have L5 := Lib.hid hl5
            have O5 := Lib.hid (O.out.below h5)
            have B5 := Lib.hid (HB.out.trans (h5.mono HB.out.size))
            have X5 := Lib.hid ((h5.block _ hgl).trans X.out)
            have hs5 := h5.size
            obtain ⟨L0, hL0⟩ : ∃ L0, wr.heap.size = L0 := ⟨_, rfl⟩
            rw [hL0] at L5
            have HL0 := Lib.hid hL0
            have NE0 := Lib.hid (show ∀ g, (Value.slice OA (foldN i ff []).length oc).ownBlock = some g → g < wr.heap.size from fun g hg => (O.out.lt g hg).2)
            have hown := O.out
            clear hl5 h5 hlr hl d0 d1 d2 d3 CI hL0
            go_wp2_with fail
            go_loopw [3, 6] (fun ov kv w8 => ∃ q : Nat, kv = .int .i64 (q : Int) ∧ q ≤ l.length ∧ ORow w8 w.heap.size ov (addAll (foldN i ff []) (l.take q)) ∧ ORow w8 L0 (.slice LA l.length lc) l ∧ (∀ g, ov.ownBlock = some g → (Value.slice LA l.length lc).ownBlock ≠ some g) ∧ Below w.heap.size w w8 ∧ w8.heap[w.heap.size]? = some (.cells #[.int .i64 k, .int .i64 n, .string s, .slice (some ⟨b, 0, none⟩) m c] 24 (0, 0))) (fun _ kv _ => l.length - (intOf kv).toNat)
            case atStart => exact ⟨0, rfl, Nat.zero_le _, by simpa [addAll] using O5.out, L5.out, fun g hg hg2 => by
              have h1 := NE0.out g hg
              have h2 := (L5.out.lt g hg2).1
              have h3 := HL0.out
              omega, B5.out, X5.out⟩
            case round =>
              clear O5 L5 X5 B5 NE0
              obtain ⟨q, rfl, hq, ho, hl8, hne, hb, hbox⟩ := hrel
              obtain ⟨PA, pc, rfl, _, _, _, _⟩ := own_open ho
              have O8 := Lib.hid ho
              have L8 := Lib.hid hl8
              have NE := Lib.hid hne
              have B8 := Lib.hid hb
              have X8 := Lib.hid hbox
              obtain ⟨x0, x1, x2, x3⟩ := box4 hbox
              have hgl8 := heap_lt hbox
              have hb8 := hb.size
              have hfew := foldN_few (k := k) (n := n) (s := s) OK.out (i := i) hi (l.take q) fun x hx => LR.out x (List.mem_of_mem_take hx)
              rw [HFF.out] at hfew
              obtain ⟨acc, hacc⟩ : ∃ acc, addAll (foldN i ff []) (l.take q) = acc := ⟨_, rfl⟩
              have HA := Lib.hid hacc
              rw [hacc] at hfew O8 NE ⊢
              clear ho hl8 hne hb hbox hacc
              by_cases hql : q < l.length
              · have hql' : (q : Int) < (l.length : Int) := by omega
                obtain ⟨x, hx⟩ : ∃ x, l[q]? = some x := ⟨_, List.getElem?_eq_getElem hql⟩
                obtain ⟨_, _, e1, _, _, hlx⟩ := L8.out.irow.open_
                injection e1 with e1 _ e2
                subst e1; subst e2
                obtain ⟨gl, rfl, hgll, cl⟩ := hlx q x hx
                obtain ⟨bb, hbb⟩ : ∃ bb : Bool, bb = true ↔ x ∈ acc := ⟨decide (x ∈ acc), by simp⟩
                have HB9 := Lib.hid hbb
                have TK := Lib.hid (show l.take (q + 1) = l.take q ++ [x] by rw [List.take_add_one, hx]; rfl)
                have CH := Lib.hid (has7_any O8.out.irow (by omega) x hbb)
                clear hlx hx hbb
                go_wp2_with fail
                refine CH.out.mono ?_
                rintro e w9 ⟨rfl, h9⟩
                have O9 := Lib.hid (O8.out.below h9)
                have L9 := Lib.hid (L8.out.below h9)
                have B9 := Lib.hid (B8.out.trans (h9.mono hb8))
                have X9 := Lib.hid ((h9.block _ hgl8).trans X8.out)
                have hs9 := h9.size
                have cl9 := (h9.cell (p := ⟨gl, q, none⟩) hgll).trans cl
                have hgl9 := heap_lt X9.out
                clear h9 cl x0 x1 x2 x3
                cases bb with
                | true =>
                  have EA := Lib.hid (show addAll (foldN i ff []) (l.take (q + 1)) = acc by rw [TK.out, addAll_append, HA.out]; exact if_pos (HB9.out.mp rfl))
                  go_wp2_with fail
                  go_roundw
                  case rel => exact ⟨q + 1, by go_num, hql, by rw [EA.out]; exact O9.out, L9.out, NE.out, B9.out, X9.out⟩
                  case measure => simp [intOf]; omega
                | false =>
                  have EA := Lib.hid (show addAll (foldN i ff []) (l.take (q + 1)) = acc ++ [x] by rw [TK.out, addAll_append, HA.out]; exact if_neg fun h => by have := HB9.out.mpr h; cases this)
                  go_wp2_with (at_builtin; go_must (refine wpList_append_lies _ rfl _ _ _ rfl w.heap.size 3 item (.int .i64 0) 1 8 Try.underlying29 ii1 ii2 ii3 ii4 rfl (by omega) _ acc.length _ rfl (own_below O9.out (belA (Below.refl _ _) _)) ⟨w9.heap.size, 0, none⟩ 1 1 [.int .i64 x] rfl rfl (World.news_of_block (heap_alloc_new _ _)) ?_ (by omega) (by unfold maxLen; omega) (by omega) (by simp; omega) _ rfl ?_))
                  · intro u hu
                    simp only [List.mem_cons, List.not_mem_nil, or_false] at hu
                    rcases hu with rfl
                    rfl
                  intro g1 cap1 wA hownA hgA hatA _
                  have HXO := own_below O9.out (belA (Below.refl w9.heap.size w9) (Obj.cells #[.int .i64 x] 3))
                  have OA9 := Lib.hid (show ORow wA w.heap.size (.slice (some ⟨g1, 0, none⟩) (acc.length + 1) cap1) (acc ++ [x]) from ORow.push hownA)
                  have BA9 := Lib.hid ((B9.out.trans ((belA (Below.refl _ _) (Obj.cells #[.int .i64 x] 3)).mono B9.out.size)).grown hgA (by simp; omega) fun k hk => (O9.out.lt k hk).1)
                  have XA := Lib.hid (grownFar HXO hgA ((Below.heap_alloc _ (Obj.cells #[.int .i64 x] 3) _ hgl9).trans X9.out) fun _ _ => cellsNe (by decide))
                  have LA9 := Lib.hid (show ORow wA L0 (.slice (some ⟨gl, 0, none⟩) l.length lc) l from own_keep (own_below L9.out (belA (Below.refl _ _) (Obj.cells #[.int .i64 x] 3))) fun g hg => hgA.block g (by simp; have := (L9.out.lt g hg).2; omega) fun e => NE.out g e.symm hg)
                  have NA := Lib.hid (show ∀ g, (Value.slice (some ⟨g1, 0, none⟩) (acc.length + 1) cap1).ownBlock = some g → (Value.slice (some ⟨gl, 0, none⟩) l.length lc).ownBlock ≠ some g from fun g hg hg2 => by
                    simp [Value.ownBlock] at hg
                    subst hg
                    rcases hatA with h | h
                    · exact NE.out _ h hg2
                    · have := (L9.out.lt _ hg2).2
                      first | omega | (simp at h; omega))
                  clear hownA hgA hatA HXO cl9
                  go_wp2_with fail
                  go_roundw
                  case rel => exact ⟨q + 1, by go_num, hql, by rw [EA.out]; exact OA9.out, LA9.out, NA.out, BA9.out, XA.out⟩
                  case measure => simp [intOf]; omega
              · obtain rfl : q = l.length := by omega
                have hql' : ¬ (l.length : Int) < (l.length : Int) := by omega
                have EN := Lib.hid (show foldN (i + 1) ff [] = acc by simp only [foldN]; rw [HL.out, ← HA.out, List.take_length])
                go_wp2_with fail
                go_roundw
                case rel => exact ⟨i + 1, by go_num, him, by rw [EN.out]; exact O8.out, B8.out, X8.out⟩
                case measure => simp [intOf]; omega
          · obtain rfl : i = m := by omega
            go_wp2_with fail
            go_ret
            rw [VarsP, E.out]
            exact ⟨⟨OA, oc, rfl, O.out⟩, HB.out⟩
/-- What Name hands back. -/
def NameP (t : T) (w : World) (e : Ending) (w' : World) : Prop := (∃ (s : ByteArray) (m : Nat) (b : Bool), e = .returned (.tuple #[.string s, .int .i64 (m : Int), .bool b]) ∧ (b = true → ∃ k n a, t = .mk k n s m a ∧ (k = 3 ∨ k = 4)) ∧ (b = false → ∀ k n s m a, t = .mk k n s m a → k ≠ 3 ∧ k ≠ 4)) ∧ Below w.heap.size w w'
set_option maxRecDepth 100000 in
theorem name_any {t : T} (hok : t.ok) {v : Value} {w : World} {S : Nat → Prop} (hv : TP w S t v) :
    Calls Try.prog 35 #[v] w fun e w' => NameP t w e w' := by
  obtain ⟨k, n, s, m, a, rfl⟩ : ∃ k n s m a, t = .mk k n s m a := by
    cases t with
    | nil => exact hv.elim
    | mk k n s m a => exact ⟨k, n, s, m, a, rfl⟩
  obtain ⟨A, c, rfl, hmc, hA, hx⟩ := hv
  have HK := Lib.hid hok.1.1
  clear hx hA hok
  cases h3 : (k == 3) with
  | true =>
    have E := Lib.hid (show k = 3 by simpa using h3)
    have hm0 : m = 0 := by have := HK.out; have := E.out; omega
    subst hm0
    go_enter Try.func35, Try.ntmps35
    go_wp2_with fail
    go_ret3
    exact ⟨⟨s, 0, true, rfl, fun _ => ⟨k, n, a, rfl, .inl E.out⟩, fun h => by cases h⟩, (Below.refl _ _).alloc (Nat.le_refl _) _⟩
  | false =>
    have E := Lib.hid (show k ≠ 3 by simpa using h3)
    cases h4 : (k == 4) with
    | true =>
      have E4 := Lib.hid (show k = 4 by simpa using h4)
      go_enter Try.func35, Try.ntmps35
      go_wp2_with fail
      go_quiet (fail)
      go_wp2_with fail
      go_ret3
      exact ⟨⟨s, m, true, rfl, fun _ => ⟨k, n, a, rfl, .inr E4.out⟩, fun h => by cases h⟩, bel_drewN ((Below.refl _ _).alloc (Nat.le_refl _) _) _⟩
    | false =>
      have E4 := Lib.hid (show k ≠ 4 by simpa using h4)
      go_enter Try.func35, Try.ntmps35
      go_wp2_with fail
      go_ret3
      exact ⟨⟨⟨#[]⟩, 0, false, rfl, (fun h => by cases h), fun _ k' n' s' m' a' e => by injection e with e; subst e; exact ⟨E.out, E4.out⟩⟩, (Below.refl _ _).alloc (Nat.le_refl _) _⟩
/-- Is it one of a name and so many arguments? -/
def isT (t : T) (nm : List UInt8) (q : Nat) : Prop := ∃ k n s a, t = .mk k n s q a ∧ (k = 3 ∨ k = 4) ∧ s.toList = nm
set_option maxRecDepth 100000 in
theorem is_any {t : T} (hok : t.ok) {v : Value} {w : World} {S : Nat → Prop} (hv : TP w S t v) (nm : ByteArray) (q : Nat) {b : Bool} (hb : b = true ↔ isT t nm.toList q) :
    Calls Try.prog 34 #[v, .string nm, .int .i64 (q : Int)] w fun e w' => e = .returned (.bool b) ∧ Below w.heap.size w w' := by
  obtain ⟨k0, n0, s0, A0, m0, c0, rfl⟩ := hv.agg
  have BX := Lib.hid (belA (Below.refl w.heap.size w) (Obj.cells #[.int .i64 k0, .int .i64 n0, .string s0, .slice A0 m0 c0] 24))
  have CN := Lib.hid (name_any hok (hv.below BX.out))
  have HB := Lib.hid hb
  clear hv hb
  go_enter Try.func34, Try.ntmps34
  go_wp2_with fail
  refine CN.out.mono ?_
  rintro e w5 ⟨⟨s, m, b2, rfl, h1, h2⟩, h5⟩
  have H5 := Lib.hid (BX.out.trans (h5.mono BX.out.size))
  have H1 := Lib.hid h1
  have H2 := Lib.hid h2
  clear h1 h2 h5 CN
  cases b2 with
  | false =>
    have E := Lib.hid (show b = false from by
      cases b with
      | false => rfl
      | true =>
        obtain ⟨k, n, s', a, e, hk, _⟩ := HB.out.mp rfl
        have := H2.out rfl k n s' q a e
        omega)
    go_wp2_with fail
    go_ret
    exact ⟨by rw [E.out]; rfl, H5.out⟩
  | true =>
    obtain ⟨k, n, a, e, hk⟩ := H1.out rfl
    have HE := Lib.hid e
    clear e
    cases hs : (s.toList == nm.toList) with
    | false =>
      have E := Lib.hid (show b = false from by
        cases b with
        | false => rfl
        | true =>
          obtain ⟨k', n', s', a', e, _, hs'⟩ := HB.out.mp rfl
          rw [HE.out] at e
          injection e with _ _ e3 _ _
          subst e3
          have : s.toList ≠ nm.toList := by simpa using hs
          exact absurd hs' this)
      go_wp2_with fail
      go_ret
      exact ⟨by rw [E.out]; rfl, H5.out⟩
    | true =>
      cases hm : ((m : Int) == (q : Int)) with
      | false =>
        have E := Lib.hid (show b = false from by
          cases b with
          | false => rfl
          | true =>
            obtain ⟨k', n', s', a', e, _, _⟩ := HB.out.mp rfl
            rw [HE.out] at e
            injection e with _ _ _ e4 _
            subst e4
            simp at hm)
        go_wp2_with fail
        go_ret
        exact ⟨by rw [E.out]; rfl, H5.out⟩
      | true =>
        have E := Lib.hid (show b = true from HB.out.mpr ⟨k, n, s, a, by rw [HE.out, show q = m by have h9 : (m : Int) = (q : Int) := (by simpa using hm); omega], hk, by simpa using hs⟩)
        go_wp2_with fail
        go_ret
        exact ⟨by rw [E.out]; rfl, H5.out⟩
end Go.Proofs.Ytlgeepjlnjlgdaa
