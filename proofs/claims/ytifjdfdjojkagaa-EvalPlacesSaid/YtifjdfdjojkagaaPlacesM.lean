/- The reference's parser: Read. The reference's parser: One. The walk through the law EvalTerms. A term with another one in its first variables' places: the plain law: what it comes to. The walk through coneyref07.Size. The walk through coneyref07.Subst: its contract (SubC), the terms without arguments (the compound ones: not done yet). The walk through coneyref07.Subst: a compound term. 'one' of the laws: the term that it hands back, by blocks of terms. An expression in a variable's place: the plain lemmas of the law's walk; the two rows of eight terms. The walk through the law EvalPlaces. -/
import Derived.Test.YtifjdfdjojkagaaRd12
import Derived.Test.YtifjdfdjojkagaaLex4
import Derived.Deep.RegionHeld3
import Derived.Deep.RegionLaw
import Derived.Test.YtifjdfdjojkagaaEvalRR
import Derived.Test.YtifjdfdjojkagaaRd6
import Derived.Test.YtifjdfdjojkagaaRd9
namespace Go.Proofs.Ytifjdfdjojkagaa
open Go.RowKit

theorem term_any (c : Rdc) : ∀ k D : Nat, D + k = 65 → TermC c (D : Int) := by
  intro k
  induction k with
  | zero => intro D h; exact term_deep c D (by omega) (by omega)
  | succ k ih =>
    intro D h
    refine term_step c D ?_ (by omega)
    have := ih (D + 1) (by omega)
    simpa using this
/-- Sentences: five cells each, the first four a term. -/
def S5 (w : World) (lo : Nat) (xs : List Value) (n : Nat) (ts : Nat → T) : Prop :=
  ∀ k, k < n → ∃ v0 v1 v2 v3 A m c, xs[5 * k]? = some v0 ∧ xs[5 * k + 1]? = some v1 ∧ xs[5 * k + 2]? = some v2 ∧ xs[5 * k + 3]? = some v3 ∧ xs[5 * k + 4]? = some (.slice A m c) ∧
    TP w (fun b => lo ≤ b) (ts k) (.agg #[v0, v1, v2, v3]) ∧ (ts k).good ∧ (ts k).nodes ≤ 1000
theorem S5.keep {w w' : World} {lo : Nat} {xs : List Value} {n : Nat} {ts : Nat → T} (h : S5 w lo xs n ts) (hk : ∀ (b : Nat) (cs : Array Value) (f : Nat × Nat), w.heap[b]? = some (.cells cs 29 f) → w'.heap[b]? = some (.cells cs 29 f)) : S5 w' lo xs n ts := by
  intro k hk'
  obtain ⟨v0, v1, v2, v3, A, m, c, h0, h1, h2, h3, h4, ht, hg⟩ := h k hk'
  exact ⟨v0, v1, v2, v3, A, m, c, h0, h1, h2, h3, h4, ht.keep fun b cs f hS hb => ⟨hk b cs f hb, hS⟩, hg⟩
theorem Rd.nil {w : World} {c : Rdc} {i : Nat} {er : Int} (h : Rd w c i er) : Rd (w.setCell ⟨c.R, 3, none⟩ (.slice none 0 0)) c i er := by
  obtain ⟨ht, nv, nn, names, place, hr⟩ := h
  exact ⟨ht.setR hr _ _, .slice none 0 0, 0, [], place, by simpa using blk_set hr.blk 3 (.slice none 0 0), World.ownsRow_nil _ _ _ _, hr.up, Nat.zero_le _⟩
/-- What the loop of 'Read' has gathered. -/
structure ReadI (c : Rdc) (w : World) (wr : World) (j : Nat) (o : Value) (n : Nat) (xs : List Value) (ts : Nat → T) : Prop where
  rd : Rd wr c j 0
  low : Below w.heap.size w wr
  own : wr.ownsRow w.heap.size 50 5 o n xs
  s5 : S5 wr w.heap.size xs n ts
  few : n ≤ j
theorem ReadI.stand {c : Rdc} {w wr w1 : World} {j j1 n : Nat} {o : Value} {xs : List Value} {ts : Nat → T} (h : ReadI c w wr j o n xs ts) (hf : Fr c wr w1) (hlo : w.heap.size ≤ c.B) (hr : Rd w1 c j1 0) (hj : j ≤ j1) : ReadI c w w1 j1 o n xs ts :=
  ⟨hr, h.low.trans (hf.low.mono hlo), own_keep h.own fun g hg => by
    rcases h.own.2 with ⟨hv, _⟩ | ⟨g', cap, cur, hv, _, hh, _⟩
    · rw [hv] at hg; simp [Value.ownBlock] at hg
    · rw [hv] at hg
      simp [Value.ownBlock] at hg
      subst hg
      rw [hh]
      exact hf.box h.rd hh (by decide) (by decide), h.s5.keep fun b cs f hb => hf.box h.rd hb (by decide) (by decide), by have := h.few; omega⟩
theorem Try.info_sen : (Try.prog.info? 50).map (fun i => (i.zero, i.size, i.bytes)) = some (some (.agg #[.int .i64 0, .int .i64 0, .string ⟨#[]⟩, .slice none 0 0, .slice none 0 0]), 5, 80) := by kernel_rfl
theorem fld_tok0 (b d : Value) (n m : Int) (W : World) : (Instr.field 60 (.agg #[.int .i64 n, b, .int .i64 m, d]) 0).run Try.prog W = .ok (.int .i64 n) W := by kernel_rfl
theorem Rd.cells6 {w : World} {c : Rdc} {i : Nat} {er : Int} (h : Rd w c i er) : ∃ A n m place, w.cell? ⟨c.R, 2, none⟩ = some (.int .i64 (i : Int)) ∧ w.cell? ⟨c.R, 3, none⟩ = some (.slice A n m) ∧ w.cell? ⟨c.R, 4, none⟩ = some (.int .i64 place) ∧ w.cell? ⟨c.R, 5, none⟩ = some (.int .i64 er) ∧ ∀ j, w.frozen? ⟨c.R, j, none⟩ = false := by
  obtain ⟨_, nv, nn, names, place, hr⟩ := h
  obtain ⟨A, m, rfl, _⟩ := own_open hr.own
  exact ⟨A, nn, m, place, hr.cells.2.2.1, hr.cells.2.2.2.1, hr.cells.2.2.2.2.1, hr.cells.2.2.2.2.2, hr.thaw⟩
theorem own_ne5 {w : World} {B : Nat} {e : TypeId} {size : Nat} {v : Value} {n : Nat} {xs : List Value} (h : w.ownsRow B e size v n xs) {b : Nat} {cs : Array Value} {t : TypeId} {m : Nat × Nat} (hb : w.heap[b]? = some (.cells cs t m)) (ht : t ≠ e) : some b ≠ v.ownBlock := by
  intro he
  rcases h.2 with ⟨hv, _⟩ | ⟨g, cap, cur, hv, _, hh, _⟩
  · rw [hv] at he; simp [Value.ownBlock] at he
  · rw [hv] at he
    simp [Value.ownBlock] at he
    subst he
    rw [hb] at hh
    injection hh with hh
    injection hh with _ hh
    exact ht hh
theorem ReadI.push {c : Rdc} {w w7 w8 w9 : World} {j m : Nat} {o o' : Value} {xs : List Value} {ts : Nat → T} {t : T} {a0 a1 a2 a3 : Value} {NA : Option Addr} {nn nm : Nat} (h : ReadI c w w7 j o m xs ts) (hb : Below w7.heap.size w7 w8)
    (hown : w9.ownsRow w.heap.size 50 5 o' (m + 1) (xs ++ [a0, a1, a2, a3, .slice NA nn nm])) (hg : w8.grownBy w9 o.ownBlock) (ht : TP w7 (fun b => w.heap.size ≤ b) t (.agg #[a0, a1, a2, a3])) (hgood : t.good) (hnod : t.nodes ≤ 1000) (hm : m + 1 ≤ j) :
    ReadI c w w9 j o' (m + 1) (xs ++ [a0, a1, a2, a3, .slice NA nn nm]) (snocT m ts t) := by
  have ho8 := own_below h.own hb
  have keep : ∀ (b : Nat) (cs : Array Value) (t : TypeId) (f : Nat × Nat), w7.heap[b]? = some (.cells cs t f) → t ≠ 50 → w9.heap[b]? = some (.cells cs t f) := fun b cs t f hh hne => by
    have h8 := (hb.block b (heap_lt hh)).trans hh
    exact (hg.block b (heap_lt h8) (own_ne5 ho8 h8 hne)).trans h8
  have hl : xs.length = 5 * m := by have := own_len h.own; omega
  refine ⟨?_, (h.low.trans (hb.mono h.low.size)).grown hg (Nat.le_trans h.low.size hb.size) fun k hk => (h.own.lt k hk).1, hown, fun k hk => ?_, hm⟩
  · obtain ⟨htk, nv, nn, names, place, hr⟩ := h.rd
    refine ⟨htk.keep fun b cs hh => (keep b cs _ _ hh (by decide)).trans hh.symm, nv, nn, names, place, keep _ _ _ _ hr.blk (by decide), own_keep hr.own fun g hg' => ?_, hr.up, hr.few⟩
    rcases hr.own.2 with ⟨hv, _⟩ | ⟨g', cap, cur, hv, _, hh, _⟩
    · rw [hv] at hg'; simp [Value.ownBlock] at hg'
    · rw [hv] at hg'
      simp [Value.ownBlock] at hg'
      subst hg'
      exact (keep _ _ _ _ hh (by decide)).trans hh.symm
  · by_cases hkm : k = m
    · subst hkm
      have hs : snocT k ts t k = t := by simp [snocT]
      rw [hs]
      have key : ∀ q, (xs ++ [a0, a1, a2, a3, .slice NA nn nm])[5 * k + q]? = [a0, a1, a2, a3, Value.slice NA nn nm][q]? := fun q => by
        rw [List.getElem?_append_right (by omega), hl]
        congr 1
        omega
      exact ⟨a0, a1, a2, a3, NA, nn, nm, by simpa using key 0, by simpa using key 1, by simpa using key 2, by simpa using key 3, by simpa using key 4, ht.keep fun b cs f hS hh => ⟨keep b cs _ f hh (by decide), hS⟩, hgood, hnod⟩
    · have hs : snocT m ts t k = ts k := by simp [snocT, hkm]
      rw [hs]
      obtain ⟨v0, v1, v2, v3, A, q, cc, h0, h1, h2, h3, h4, ht', hgd⟩ := h.s5 k (by omega)
      have key : ∀ q, q < 5 → (xs ++ [a0, a1, a2, a3, .slice NA nn nm])[5 * k + q]? = xs[5 * k + q]? := fun q hq => List.getElem?_append_left (by omega)
      exact ⟨v0, v1, v2, v3, A, q, cc, (key 0 (by omega)).trans h0, (key 1 (by omega)).trans h1, (key 2 (by omega)).trans h2, (key 3 (by omega)).trans h3, (key 4 (by omega)).trans h4, ht'.keep fun b cs f hS hh => ⟨keep b cs _ f hh (by decide), hS⟩, hgd⟩
set_option maxRecDepth 100000 in
set_option maxHeartbeats 8000000 in
theorem read_any (s : ByteArray) (w : World) : Calls Try.prog 42 #[.string s] w fun e w' =>
    (∃ (v : Value) (p er : Int), e = .returned (.tuple #[v, .int .i64 p, .int .i64 er]) ∧ (er ≠ 0 → v = .slice none 0 0) ∧
      (er = 0 → ∃ n xs ts, w'.ownsRow w.heap.size 50 5 v n xs ∧ S5 w' w.heap.size xs n ts ∧ n ≤ 1000)) ∧ Below w.heap.size w w' := by
  obtain ⟨sen, hi1, hi2, hi3, hi4⟩ := info_parts Try.info_sen
  have fl := fld_tok0
  go_enter Try.func42, Try.ntmps42
  go_wp2_with fail
  refine (tokens_any s _).mono ?_
  rintro e w1 ⟨⟨v, p, er, rfl, hok⟩, h1⟩
  by_cases he : er = 0
  · subst he
    obtain ⟨n, l, hown, hl, hn, hsz, htk⟩ := hok rfl
    obtain ⟨A, tc, rfl, hc, hA, hcm, hx⟩ := own_open hown
    have hb1 := h1.size
    have B2 := Lib.hid (((Below.refl w1.heap.size w1).alloc (Nat.le_refl _) (Obj.cells #[.string s, .slice A n tc, .int .i64 0, .slice none 0 0, .int .i64 0, .int .i64 0] 86)).alloc (by simp) (Obj.cells #[] 50))
    obtain ⟨c, hcc⟩ : ∃ c : Rdc, c = ⟨w1.heap.size, w1.heap.size, s, A, n, tc, l⟩ := ⟨_, rfl⟩
    have RI : ReadI c w ((w1.alloc (Obj.cells #[.string s, .slice A n tc, .int .i64 0, .slice none 0 0, .int .i64 0, .int .i64 0] 86)).alloc (Obj.cells #[] 50)) 0 (.slice (some ⟨w1.heap.size + 1, 0, none⟩) 0 0) 0 [] (fun _ => .nil) := by
      subst hcc
      refine ⟨⟨⟨hl, hn, hsz, htk, hc, hA, Nat.le_refl _, fun h0 => ?_⟩, .slice none 0 0, 0, [], 0, (Below.heap_alloc _ _ _ (by simp)).trans (heap_alloc_new _ _), World.ownsRow_nil _ _ _ _, Nat.zero_le _, Nat.le_refl _⟩, h1.trans (B2.out.mono hb1), ownsRow_more (ownsRow_empty _ _ _ (w1.heap.size + 1) ((congrArg _ (by simp)).trans (heap_alloc_new _ _))) (by omega), fun k hk => absurd hk (by omega), Nat.le_refl _⟩
      obtain ⟨g, cur, hg, _, hh, hcur⟩ := hx h0
      exact ⟨g, cur, hg, (B2.out.block g (heap_lt hh)).trans hh, fun j hj => hcur j hj⟩
    have hR : w1.heap.size = c.R := by rw [hcc]
    have hlo : w.heap.size ≤ c.B := by rw [hcc]; exact hb1
    have hBR : c.B ≤ c.R := by rw [hcc]; exact Nat.le_refl _
    have hcn : c.tn = n := by rw [hcc]
    have hb0 := Lib.hid h1
    have RR := Lib.hid RI
    clear RI hcc hx hown htk hok h1 B2
    go_wp2_with fail
    generalize ((w1.alloc (Obj.cells #[.string s, .slice A n tc, .int .i64 0, .slice none 0 0, .int .i64 0, .int .i64 0] 86)).alloc (Obj.cells #[] 50)) = w2 at *
    rw [hR] at *
    go_loopw [9] (fun o wr => ∃ j m xs ts, ReadI c w wr j o m xs ts) (fun _ wr => c.tn - atOf c wr)
    case atStart => exact ⟨_, _, _, _, RR.out⟩
    case round =>
      clear RR
      obtain ⟨j, m, xs, ts, hi⟩ := hrel
      have I := Lib.hid hi
      clear hi
      obtain ⟨NA, nn, nm, pl, r2, r3, r4, r5, rf⟩ := I.out.rd.cells6
      obtain ⟨hup, htn⟩ := I.out.rd.up
      have hsl := I.out.low.size
      by_cases hj : j < n
      · have hj' : (j : Int) < (n : Int) := by omega
        have I3 := Lib.hid (I.out.stand (Fr.setR hBR 3 (.slice none 0 0)) hlo I.out.rd.nil (Nat.le_refl _))
        have TC : TermC c 0 := by simpa using term_any c 65 0 rfl
        go_wp2_with fail
        refine (TC 1200 _ _ _ I3.out.rd).mono ?_
        rintro e w4 ⟨v4, rfl, j4, er4, t, h4, f4, hj4, ht4, hok4⟩
        have hag := ht4.agg
        obtain ⟨k0, k1, k2, A0, m0, c0, rfl⟩ := hag
        have BX := Lib.hid ((Below.refl w4.heap.size w4).alloc (Nat.le_refl _) (Obj.cells #[.int .i64 k0, .int .i64 k1, .string k2, .slice A0 m0 c0] 29))
        have H5 := Lib.hid (h4.below BX.out)
        have hX5 := Lib.hid (heap_alloc_new w4 (Obj.cells #[.int .i64 k0, .int .i64 k1, .string k2, .slice A0 m0 c0] 29))
        have hw4 := Lib.hid ((I3.out.low.trans (f4.low.mono hlo)).trans (BX.out.mono (Nat.le_trans (Nat.le_trans I3.out.low.size f4.size) (Nat.le_refl _))))
        clear r2 r3 r4 r5 rf
        obtain ⟨NA, nn, nm, pl, r2, r3, r4, r5, rf⟩ := h4.cells6
        have hRl := h4.lt
        by_cases he4 : er4 = 0
        · subst he4
          obtain ⟨_, hgood, hnod⟩ := hok4 rfl
          have I5 := Lib.hid ((I3.out.stand f4 hlo h4 hj4).stand (Fr.of_below BX.out h4.base) hlo (h4.below BX.out) (Nat.le_refl _))
          have HT := Lib.hid ((ht4.below BX.out).more (S' := fun b => w.heap.size ≤ b) fun b hb => Nat.le_trans I3.out.low.size hb)
          clear h4 f4 ht4 hok4
          go_wp2_with fail
          refine (next_any _ H5.out).mono ?_
          rintro e w6 ⟨rfl, h6⟩
          have I6 := Lib.hid (I5.out.stand (Fr.of_below h6 H5.out.base) hlo (H5.out.below h6) (Nat.le_refl _))
          have HT6 := Lib.hid (HT.out.below h6)
          have hX6 := Lib.hid ((h6.block _ (heap_lt hX5.out)).trans hX5.out)
          have hl6 := fun hk => nx_lt I6.out.rd (c := c) (at_ := j4) hk
          clear h6 r2 r3 r4 r5 rf
          obtain ⟨NA, nn, nm, pl, r2, r3, r4, r5, rf⟩ := I6.out.rd.cells6
          obtain ⟨hup4, _⟩ := I6.out.rd.up
          cases hk6 : ((nx c j4).k != 6) with
          | false =>
            have hlt := hl6 (by simp at hk6; omega)
            clear hl6
            have I7 := Lib.hid (I6.out.stand (Fr.setR hBR 2 (.int .i64 ((j4 : Int) + 1))) hlo (I6.out.rd.next hlt) (by omega))
            have HT7 := Lib.hid (HT6.out.fr (Fr.setR (c := c) hBR 2 (.int .i64 ((j4 : Int) + 1))) I6.out.rd)
            have hX7 := Lib.hid ((Fr.setR (c := c) (w := w6) hBR 2 (.int .i64 ((j4 : Int) + 1))).box I6.out.rd hX6.out (by decide) (by decide))
            have hm1 : m + 1 ≤ j4 + 1 := by have := I6.out.few; omega
            have hm2 : m + 1 ≤ 1001 := by omega
            have hs7 := I7.out.low.size
            go_wp2_with fail
            generalize w6.setCell ⟨c.R, 2, none⟩ (.int .i64 ((j4 : Int) + 1)) = w7 at *
            clear r2 r3 r4 r5 rf I6 hX6 HT6 I5 HT hX5 H5 BX hw4 I3 TC
            obtain ⟨NA, nn, nm, pl, r2, r3, r4, r5, rf⟩ := I7.out.rd.cells6
            obtain ⟨y0, y1, y2, y3⟩ := box4t hX7.out
            go_region_law (refine step_append_lies _ rfl _ _ _ rfl w.heap.size 50 sen (.agg #[.int .i64 0, .int .i64 0, .string ⟨#[]⟩, .slice none 0 0, .slice none 0 0]) 5 80 Try.underlying61 hi1 hi2 hi3 hi4 rfl (by omega) _ m xs rfl (own_below I7.out.own (by first | exact ((Below.refl _ _).drew).alloc (Nat.le_refl _) _ | exact (Below.refl _ _).alloc (Nat.le_refl _) _)) ⟨w7.heap.size, 0, none⟩ 1 1 [.int .i64 k0, .int .i64 k1, .string k2, .slice A0 m0 c0, .slice NA nn nm] rfl rfl (World.news_of_block (heap_alloc_new _ _)) (by intro u hu; simp only [List.mem_cons, List.not_mem_nil, or_false] at hu; rcases hu with rfl | rfl | rfl | rfl | rfl <;> rfl) (by omega) (by unfold maxLen; omega) (by omega) (by simp; omega) _ rfl ?_; intro g9 cap9 w9 hown9 hg9 hat9 hlt9)
            all_goals
              have SS := Lib.hid (ReadI.push I7.out (by first | exact ((Below.refl _ _).drew).alloc (Nat.le_refl _) _ | exact (Below.refl _ _).alloc (Nat.le_refl _) _) hown9 hg9 HT7.out hgood (by omega) hm1)
              clear hown9 hg9 hat9 hlt9
              go_wp2_with fail
              go_roundw
              case rel => exact ⟨_, _, _, _, _, _, _, _, _, _, _, _, _, _, _, _, _, _, _, _, _, _, _, _, _, _, _, _, _, _, _, _, _, _, _, _, _, _, _, _, _, _, _, _, _, _, _, _, _, _, _, _, _, _, _, _, _, _, _, ⟨_, _, _, _, SS.out⟩, rfl⟩
              case measure => rw [SS.out.rd.at_eq, I.out.rd.at_eq]; omega
          | true =>
            clear hl6
            go_wp2_with fail
            refine (wrong_any _ I6.out.rd).mono ?_
            rintro e w7 ⟨rfl, ⟨er7, h7, hn7⟩, f7⟩
            have hw7 := Lib.hid (I6.out.low.trans (f7.low.mono hlo))
            clear r2 r3 r4 r5 rf
            obtain ⟨NA, nn, nm, pl, r2, r3, r4, r5, rf⟩ := h7.cells6
            have hne : (er7 != 0) = true := by simpa using hn7
            clear h7 f7
            go_wp2_with fail
            go_region
            all_goals
              go_wp2_with fail
              go_ret3
              exact ⟨⟨_, _, er7, rfl, fun _ => rfl, fun e => absurd e hn7⟩, hw7.out.drew⟩
        · have he5 : (er4 == 0) = false := by simpa using he4
          have he6 : (er4 != 0) = true := by simpa using he4
          clear h4 f4 ht4 hok4
          go_wp2_with fail
          go_region
          all_goals
            go_wp2_with fail
            go_ret3
            exact ⟨⟨_, _, er4, rfl, fun _ => rfl, fun e => absurd e he4⟩, hw4.out.drew⟩
      · have hj' : ¬ (j : Int) < (n : Int) := by omega
        go_wp2_with fail
        go_ret3
        exact ⟨⟨_, 0, 0, rfl, fun h => absurd rfl h, fun _ => by have h9 := I.out.few; first | exact ⟨m, xs, ts, I.out.own, I.out.s5, by omega⟩ | exact ⟨m, xs, I.out.own, ⟨ts, I.out.s5⟩, by omega⟩⟩, I.out.low⟩
  · have he' : (er != 0) = true := by simpa using he
    go_wp2_with fail
    go_ret3
    exact ⟨⟨_, _, er, rfl, fun _ => rfl, fun e => absurd e he⟩, h1⟩
end Go.Proofs.Ytifjdfdjojkagaa
namespace Go.Proofs.Ytifjdfdjojkagaa
open Go.RowKit

theorem box5 {w : World} {g : Nat} {t : TypeId} {f : Nat × Nat} {a b c d e : Value} (h : w.heap[g]? = some (.cells #[a, b, c, d, e] t f)) :
    w.cell? ⟨g, 0, none⟩ = some a ∧ w.cell? ⟨g, 1, none⟩ = some b ∧ w.cell? ⟨g, 2, none⟩ = some c ∧ w.cell? ⟨g, 3, none⟩ = some d ∧ w.cell? ⟨g, 4, none⟩ = some e :=
  ⟨cell_of_row w g 0 _ _ _ h, cell_of_row w g 1 _ _ _ h, cell_of_row w g 2 _ _ _ h, cell_of_row w g 3 _ _ _ h, cell_of_row w g 4 _ _ _ h⟩
theorem box_put5 {w : World} {g : Nat} {t : TypeId} {m : Nat × Nat} {u0 u1 u2 u3 u4 : Value} (h : w.heap[g]? = some (.cells #[u0, u1, u2, u3, u4] t m)) (a b c d e : Value) {W : World}
    (hW : ((((w.setCell ⟨g, 0, none⟩ a).setCell ⟨g, 1, none⟩ b).setCell ⟨g, 2, none⟩ c).setCell ⟨g, 3, none⟩ d).setCell ⟨g, 4, none⟩ e = W) :
    W.heap[g]? = some (.cells #[a, b, c, d, e] t m) ∧ (∀ k, k ≠ g → W.heap[k]? = w.heap[k]?) ∧ ∀ B w0, B ≤ g → Below B w0 w → Below B w0 W := by
  subst hW
  refine ⟨by simpa using blk_set (blk_set (blk_set (blk_set (blk_set h 0 a) 1 b) 2 c) 3 d) 4 e, fun k hk => ?_, fun B w0 hB hw => ((((hw.setCell hB a).setCell hB b).setCell hB c).setCell hB d).setCell hB e⟩
  rw [Below.heap_setCell _ _ _ k hk, Below.heap_setCell _ _ _ k hk, Below.heap_setCell _ _ _ k hk, Below.heap_setCell _ _ _ k hk, Below.heap_setCell _ _ _ k hk]
/-- What 'One' hands back. -/
def OneRet (w : World) (e : Ending) (w' : World) : Prop :=
  (∃ (k n : Int) (s : ByteArray) (A : Option Addr) (m c : Nat) (NA : Option Addr) (nn nc : Nat) (p er : Int), e = .returned (.tuple #[.agg #[.int .i64 k, .int .i64 n, .string s, .slice A m c, .slice NA nn nc], .int .i64 p, .int .i64 er]) ∧
    (er = 0 → ∃ t : T, TP w' (fun b => w.heap.size ≤ b) t (.agg #[.int .i64 k, .int .i64 n, .string s, .slice A m c]) ∧ t.good ∧ t.nodes ≤ 1000)) ∧ Below w.heap.size w w'
set_option maxRecDepth 100000 in
set_option maxHeartbeats 8000000 in
theorem one_any (s : ByteArray) (w : World) : Calls Try.prog 23 #[.string s] w fun e w' => OneRet w e w' := by
  go_enter Try.func23, Try.ntmps23
  go_wp2_with fail
  refine (tokens_any s _).mono ?_
  rintro e w1 ⟨⟨v, p, er, rfl, hok⟩, h1⟩
  have hbx1 := Lib.hid ((h1.block w.heap.size (by simp)).trans (heap_alloc_new w (Obj.cells #[.int .i64 0, .int .i64 0, .string ⟨#[]⟩, .slice none 0 0, .slice none 0 0] 50)))
  have B1 := Lib.hid (((Below.refl w.heap.size w).alloc (Nat.le_refl _) (Obj.cells #[.int .i64 0, .int .i64 0, .string ⟨#[]⟩, .slice none 0 0, .slice none 0 0] 50)).trans (h1.mono (by simp)))
  obtain ⟨x0, x1, x2, x3, x4⟩ := box5 hbx1.out
  have xf : ∀ j, w1.frozen? ⟨w.heap.size, j, none⟩ = false := fun j => by simp [World.frozen?, hbx1.out]
  clear h1
  by_cases he : er = 0
  · subst he
    obtain ⟨n, l, hown, hl, hn, hsz, htk⟩ := hok rfl
    obtain ⟨A, tc, rfl, hc, hA, hcm, hx⟩ := own_open hown
    clear hok hown
    have hsum : s.size + 2 ≤ 5000 := by omega
    rcases Nat.eq_zero_or_pos n with h0 | h0
    · subst h0
      go_wp2_with fail
      refine (read_any _ _).mono ?_
      rintro e w2 ⟨⟨v2, q, er2, rfl, hnil, hok2⟩, h2⟩
      have hbx2 := Lib.hid ((h2.block _ (heap_lt hbx1.out)).trans hbx1.out)
      have B2 := Lib.hid (B1.out.trans (h2.mono B1.out.size))
      have hs1 := B1.out.size
      obtain ⟨x0, x1, x2, x3, x4⟩ := box5 hbx2.out
      have xf : ∀ j, w2.frozen? ⟨w.heap.size, j, none⟩ = false := fun j => by simp [World.frozen?, hbx2.out]
      clear h2
      by_cases he2 : er2 = 0
      · subst he2
        obtain ⟨n2, xs, ts, hown2, h5, hn2⟩ := hok2 rfl
        have hl2 := own_len hown2
        obtain ⟨A2, c2, rfl, hc2, hA2, _, hx2⟩ := own_open hown2
        clear hok2 hnil hown2
        by_cases h12 : n2 = 1
        · subst h12
          obtain ⟨g, cur, rfl, _, hh, hcur⟩ := hx2 (by omega)
          obtain ⟨v0, v1, v2, v3, NA, nn, nc, c0, c1, c2', c3, c4, htp, hgd, hnd⟩ := h5 0 (by omega)
          have hag := htp.agg
          obtain ⟨k0, k1, k2, A0, m0, cc0, hag⟩ := hag
          injection hag with hag
          simp only [Array.mk.injEq, List.cons.injEq, and_true] at hag
          obtain ⟨rfl, rfl, rfl, rfl⟩ := hag
          have hr := fun (j : Nat) (hj : j < 1 * 5) => (cell_of_row w2 g j _ _ _ hh).trans (hcur j hj)
          have z0 := (hr 0 (by omega)).trans c0
          have z1 := (hr 1 (by omega)).trans c1
          have z2 := (hr 2 (by omega)).trans c2'
          have z3 := (hr 3 (by omega)).trans c3
          have z4 := (hr 4 (by omega)).trans c4
          have HT := Lib.hid htp
          clear hr hcur hx2 hx htp h5 c0 c1 c2' c3 c4
          go_wp2_with fail
          have P := box_put5 hbx2.out (.int .i64 k0) (.int .i64 k1) (.string k2) (.slice A0 m0 cc0) (.slice NA nn nc) rfl
          obtain ⟨p0, p1, p2, p3, p4⟩ := box5 P.1
          refine bodyPost_ret (v := .tuple #[.agg #[.int .i64 k0, .int .i64 k1, .string k2, .slice A0 m0 cc0, .slice NA nn nc], .int .i64 0, .int .i64 0]) (by simp [results, go_sem, p0, p1, p2, p3, p4]) rfl ?_
          refine ⟨⟨_, _, _, _, _, _, _, _, _, _, _, rfl, fun _ => ⟨ts 0, (HT.out.more fun b hb => Nat.le_trans hs1 hb).keep fun b cs f hS hb => ⟨(P.2.1 b ?_).trans hb, hS⟩, hgd, hnd⟩⟩, P.2.2 _ _ (Nat.le_refl _) B2.out⟩
          rintro rfl
          rw [hbx2.out] at hb
          injection hb with hb
          injection hb with _ hb
          exact absurd hb (by decide)
        · have h12' : ((n2 : Int) != 1) = true := by simp; omega
          clear hx2 h5 hx
          go_wp2_with fail
          obtain ⟨p0, p1, p2, p3, p4⟩ := box5 (box_put5 hbx2.out (.int .i64 0) (.int .i64 0) (.string ⟨#[]⟩) (.slice none 0 0) (.slice none 0 0) rfl).1
          refine bodyPost_ret (v := .tuple #[.agg #[.int .i64 0, .int .i64 0, .string ⟨#[]⟩, .slice none 0 0, .slice none 0 0], .int .i64 _, .int .i64 50]) (by simp [results, go_sem, p0, p1, p2, p3, p4]; first | rfl | done) rfl ?_
          exact ⟨⟨_, _, _, _, _, _, _, _, _, _, 50, rfl, fun e => absurd e (by decide)⟩, (box_put5 hbx2.out _ _ _ _ _ rfl).2.2 _ _ (Nat.le_refl _) B2.out⟩
      · have hne2 : (er2 != 0) = true := by simpa using he2
        obtain rfl := hnil he2
        clear hok2 hx
        go_wp2_with fail
        all_goals
          obtain ⟨p0, p1, p2, p3, p4⟩ := box5 (box_put5 hbx2.out (.int .i64 0) (.int .i64 0) (.string ⟨#[]⟩) (.slice none 0 0) (.slice none 0 0) rfl).1
          refine bodyPost_ret (v := .tuple #[.agg #[.int .i64 0, .int .i64 0, .string ⟨#[]⟩, .slice none 0 0, .slice none 0 0], .int .i64 _, .int .i64 er2]) (by simp [results, go_sem, p0, p1, p2, p3, p4]; first | rfl | done) rfl ?_
          exact ⟨⟨_, _, _, _, _, _, _, _, _, _, er2, rfl, fun e => absurd e he2⟩, (box_put5 hbx2.out _ _ _ _ _ rfl).2.2 _ _ (Nat.le_refl _) B2.out⟩
    · obtain ⟨m, rfl⟩ : ∃ m, n = m + 1 := ⟨n - 1, by omega⟩
      obtain ⟨g, cur, rfl, _, hh, hcur⟩ := hx h0
      have hlm : m < l.length := by omega
      have hc0 : w1.cell? ⟨g, m * 4, none⟩ = some (.int .i64 (l[m]'hlm).k) := by
        rw [Nat.mul_comm m 4, cell_of_row w1 g (4 * m) _ _ _ hh, hcur (4 * m) (by omega)]
        simpa [Tk.cells] using tkCells_at l m hlm 0 (by omega)
      generalize (l[m]'hlm).k = kk at hc0
      clear hcur hh
      cases hk6 : (kk != 6) with
      | true =>
        go_wp2_with fail
        refine (read_any _ _).mono ?_
        rintro e w2 ⟨⟨v2, q, er2, rfl, hnil, hok2⟩, h2⟩
        have hbx2 := Lib.hid ((h2.block _ (heap_lt hbx1.out)).trans hbx1.out)
        have B2 := Lib.hid (B1.out.trans (h2.mono B1.out.size))
        have hs1 := B1.out.size
        obtain ⟨x0, x1, x2, x3, x4⟩ := box5 hbx2.out
        have xf : ∀ j, w2.frozen? ⟨w.heap.size, j, none⟩ = false := fun j => by simp [World.frozen?, hbx2.out]
        clear h2
        by_cases he2 : er2 = 0
        · subst he2
          obtain ⟨n2, xs, ts, hown2, h5, hn2⟩ := hok2 rfl
          have hl2 := own_len hown2
          obtain ⟨A2, c2, rfl, hc2, hA2, _, hx2⟩ := own_open hown2
          clear hok2 hnil hown2
          by_cases h12 : n2 = 1
          · subst h12
            obtain ⟨g, cur, rfl, _, hh, hcur⟩ := hx2 (by omega)
            obtain ⟨v0, v1, v2, v3, NA, nn, nc, c0, c1, c2', c3, c4, htp, hgd, hnd⟩ := h5 0 (by omega)
            have hag := htp.agg
            obtain ⟨k0, k1, k2, A0, m0, cc0, hag⟩ := hag
            injection hag with hag
            simp only [Array.mk.injEq, List.cons.injEq, and_true] at hag
            obtain ⟨rfl, rfl, rfl, rfl⟩ := hag
            have hr := fun (j : Nat) (hj : j < 1 * 5) => (cell_of_row w2 g j _ _ _ hh).trans (hcur j hj)
            have z0 := (hr 0 (by omega)).trans c0
            have z1 := (hr 1 (by omega)).trans c1
            have z2 := (hr 2 (by omega)).trans c2'
            have z3 := (hr 3 (by omega)).trans c3
            have z4 := (hr 4 (by omega)).trans c4
            have HT := Lib.hid htp
            clear hr hcur hx2 hx htp h5 c0 c1 c2' c3 c4
            go_wp2_with fail
            have P := box_put5 hbx2.out (.int .i64 k0) (.int .i64 k1) (.string k2) (.slice A0 m0 cc0) (.slice NA nn nc) rfl
            obtain ⟨p0, p1, p2, p3, p4⟩ := box5 P.1
            refine bodyPost_ret (v := .tuple #[.agg #[.int .i64 k0, .int .i64 k1, .string k2, .slice A0 m0 cc0, .slice NA nn nc], .int .i64 0, .int .i64 0]) (by simp [results, go_sem, p0, p1, p2, p3, p4]) rfl ?_
            refine ⟨⟨_, _, _, _, _, _, _, _, _, _, _, rfl, fun _ => ⟨ts 0, (HT.out.more fun b hb => Nat.le_trans hs1 hb).keep fun b cs f hS hb => ⟨(P.2.1 b ?_).trans hb, hS⟩, hgd, hnd⟩⟩, P.2.2 _ _ (Nat.le_refl _) B2.out⟩
            rintro rfl
            rw [hbx2.out] at hb
            injection hb with hb
            injection hb with _ hb
            exact absurd hb (by decide)
          · have h12' : ((n2 : Int) != 1) = true := by simp; omega
            clear hx2 h5 hx
            go_wp2_with fail
            obtain ⟨p0, p1, p2, p3, p4⟩ := box5 (box_put5 hbx2.out (.int .i64 0) (.int .i64 0) (.string ⟨#[]⟩) (.slice none 0 0) (.slice none 0 0) rfl).1
            refine bodyPost_ret (v := .tuple #[.agg #[.int .i64 0, .int .i64 0, .string ⟨#[]⟩, .slice none 0 0, .slice none 0 0], .int .i64 _, .int .i64 50]) (by simp [results, go_sem, p0, p1, p2, p3, p4]; first | rfl | done) rfl ?_
            exact ⟨⟨_, _, _, _, _, _, _, _, _, _, 50, rfl, fun e => absurd e (by decide)⟩, (box_put5 hbx2.out _ _ _ _ _ rfl).2.2 _ _ (Nat.le_refl _) B2.out⟩
        · have hne2 : (er2 != 0) = true := by simpa using he2
          obtain rfl := hnil he2
          clear hok2 hx
          go_wp2_with fail
          all_goals
            obtain ⟨p0, p1, p2, p3, p4⟩ := box5 (box_put5 hbx2.out (.int .i64 0) (.int .i64 0) (.string ⟨#[]⟩) (.slice none 0 0) (.slice none 0 0) rfl).1
            refine bodyPost_ret (v := .tuple #[.agg #[.int .i64 0, .int .i64 0, .string ⟨#[]⟩, .slice none 0 0, .slice none 0 0], .int .i64 _, .int .i64 er2]) (by simp [results, go_sem, p0, p1, p2, p3, p4]; first | rfl | done) rfl ?_
            exact ⟨⟨_, _, _, _, _, _, _, _, _, _, er2, rfl, fun e => absurd e he2⟩, (box_put5 hbx2.out _ _ _ _ _ rfl).2.2 _ _ (Nat.le_refl _) B2.out⟩
      | false =>
        go_wp2_with fail
        refine (read_any _ _).mono ?_
        rintro e w2 ⟨⟨v2, q, er2, rfl, hnil, hok2⟩, h2⟩
        have hbx2 := Lib.hid ((h2.block _ (heap_lt hbx1.out)).trans hbx1.out)
        have B2 := Lib.hid (B1.out.trans (h2.mono B1.out.size))
        have hs1 := B1.out.size
        obtain ⟨x0, x1, x2, x3, x4⟩ := box5 hbx2.out
        have xf : ∀ j, w2.frozen? ⟨w.heap.size, j, none⟩ = false := fun j => by simp [World.frozen?, hbx2.out]
        clear h2
        by_cases he2 : er2 = 0
        · subst he2
          obtain ⟨n2, xs, ts, hown2, h5, hn2⟩ := hok2 rfl
          have hl2 := own_len hown2
          obtain ⟨A2, c2, rfl, hc2, hA2, _, hx2⟩ := own_open hown2
          clear hok2 hnil hown2
          by_cases h12 : n2 = 1
          · subst h12
            obtain ⟨g, cur, rfl, _, hh, hcur⟩ := hx2 (by omega)
            obtain ⟨v0, v1, v2, v3, NA, nn, nc, c0, c1, c2', c3, c4, htp, hgd, hnd⟩ := h5 0 (by omega)
            have hag := htp.agg
            obtain ⟨k0, k1, k2, A0, m0, cc0, hag⟩ := hag
            injection hag with hag
            simp only [Array.mk.injEq, List.cons.injEq, and_true] at hag
            obtain ⟨rfl, rfl, rfl, rfl⟩ := hag
            have hr := fun (j : Nat) (hj : j < 1 * 5) => (cell_of_row w2 g j _ _ _ hh).trans (hcur j hj)
            have z0 := (hr 0 (by omega)).trans c0
            have z1 := (hr 1 (by omega)).trans c1
            have z2 := (hr 2 (by omega)).trans c2'
            have z3 := (hr 3 (by omega)).trans c3
            have z4 := (hr 4 (by omega)).trans c4
            have HT := Lib.hid htp
            clear hr hcur hx2 hx htp h5 c0 c1 c2' c3 c4
            go_wp2_with fail
            have P := box_put5 hbx2.out (.int .i64 k0) (.int .i64 k1) (.string k2) (.slice A0 m0 cc0) (.slice NA nn nc) rfl
            obtain ⟨p0, p1, p2, p3, p4⟩ := box5 P.1
            refine bodyPost_ret (v := .tuple #[.agg #[.int .i64 k0, .int .i64 k1, .string k2, .slice A0 m0 cc0, .slice NA nn nc], .int .i64 0, .int .i64 0]) (by simp [results, go_sem, p0, p1, p2, p3, p4]) rfl ?_
            refine ⟨⟨_, _, _, _, _, _, _, _, _, _, _, rfl, fun _ => ⟨ts 0, (HT.out.more fun b hb => Nat.le_trans hs1 hb).keep fun b cs f hS hb => ⟨(P.2.1 b ?_).trans hb, hS⟩, hgd, hnd⟩⟩, P.2.2 _ _ (Nat.le_refl _) B2.out⟩
            rintro rfl
            rw [hbx2.out] at hb
            injection hb with hb
            injection hb with _ hb
            exact absurd hb (by decide)
          · have h12' : ((n2 : Int) != 1) = true := by simp; omega
            clear hx2 h5 hx
            go_wp2_with fail
            obtain ⟨p0, p1, p2, p3, p4⟩ := box5 (box_put5 hbx2.out (.int .i64 0) (.int .i64 0) (.string ⟨#[]⟩) (.slice none 0 0) (.slice none 0 0) rfl).1
            refine bodyPost_ret (v := .tuple #[.agg #[.int .i64 0, .int .i64 0, .string ⟨#[]⟩, .slice none 0 0, .slice none 0 0], .int .i64 _, .int .i64 50]) (by simp [results, go_sem, p0, p1, p2, p3, p4]; first | rfl | done) rfl ?_
            exact ⟨⟨_, _, _, _, _, _, _, _, _, _, 50, rfl, fun e => absurd e (by decide)⟩, (box_put5 hbx2.out _ _ _ _ _ rfl).2.2 _ _ (Nat.le_refl _) B2.out⟩
        · have hne2 : (er2 != 0) = true := by simpa using he2
          obtain rfl := hnil he2
          clear hok2 hx
          go_wp2_with fail
          all_goals
            obtain ⟨p0, p1, p2, p3, p4⟩ := box5 (box_put5 hbx2.out (.int .i64 0) (.int .i64 0) (.string ⟨#[]⟩) (.slice none 0 0) (.slice none 0 0) rfl).1
            refine bodyPost_ret (v := .tuple #[.agg #[.int .i64 0, .int .i64 0, .string ⟨#[]⟩, .slice none 0 0, .slice none 0 0], .int .i64 _, .int .i64 er2]) (by simp [results, go_sem, p0, p1, p2, p3, p4]; first | rfl | done) rfl ?_
            exact ⟨⟨_, _, _, _, _, _, _, _, _, _, er2, rfl, fun e => absurd e he2⟩, (box_put5 hbx2.out _ _ _ _ _ rfl).2.2 _ _ (Nat.le_refl _) B2.out⟩
  · have hne : (er != 0) = true := by simpa using he
    clear hok
    go_wp2_with fail
    obtain ⟨p0, p1, p2, p3, p4⟩ := box5 (box_put5 hbx1.out (.int .i64 0) (.int .i64 0) (.string ⟨#[]⟩) (.slice none 0 0) (.slice none 0 0) rfl).1
    refine bodyPost_ret (v := .tuple #[.agg #[.int .i64 0, .int .i64 0, .string ⟨#[]⟩, .slice none 0 0, .slice none 0 0], .int .i64 _, .int .i64 er]) (by simp [results, go_sem, p0, p1, p2, p3, p4]; first | rfl | done) rfl ?_
    exact ⟨⟨_, _, _, _, _, _, _, _, _, _, er, rfl, fun e => absurd e he⟩, (box_put5 hbx1.out _ _ _ _ _ rfl).2.2 _ _ (Nat.le_refl _) B1.out⟩
end Go.Proofs.Ytifjdfdjojkagaa
namespace Go.Proofs.Ytifjdfdjojkagaa
open Go.RowKit

theorem heap_lt5 {w : World} {g : Nat} {o : Obj} (h : w.heap[g]? = some o) : g < w.heap.size := heap_lt h
theorem good_inR : ∀ t : T, t.good → t.inR ∧ t.atoms := by
  intro t
  induction t with
  | nil => exact fun h => h.elim
  | mk k n s m a ih =>
    rintro ⟨h, hs⟩
    refine ⟨⟨?_, fun i hi => (ih i (hs i hi)).1⟩, ⟨fun h3 => ?_, fun i hi => (ih i (hs i hi)).2⟩⟩
    · rcases h with ⟨_, h1, h2, _⟩ | ⟨_, h1, _⟩ | ⟨_, rfl, _⟩ | ⟨_, rfl, _⟩
      · exact ⟨by omega, by omega⟩
      · exact h1
      · exact ⟨by omega, by omega⟩
      · exact ⟨by omega, by omega⟩
    · rcases h with ⟨h1, _⟩ | ⟨h1, _⟩ | ⟨_, _, _, h1⟩ | ⟨h1, _⟩
      · omega
      · omega
      · exact h1
      · omega
/-- What 'one' of the laws hands back: a term. -/
def LOne (w : World) (e : Ending) (w' : World) : Prop :=
  (∃ (k n : Int) (s : ByteArray) (A : Option Addr) (m c : Nat) (t : T), e = .returned (.agg #[.int .i64 k, .int .i64 n, .string s, .slice A m c]) ∧ TIn w' w'.heap.size t (.agg #[.int .i64 k, .int .i64 n, .string s, .slice A m c]) ∧ t.inR ∧ t.atoms) ∧ Below w.heap.size w w'
theorem lone_leaf {w W : World} (hW : Below w.heap.size w W) : LOne w (.returned (.agg #[.int .i64 2, .int .i64 1, .string ⟨#[]⟩, .slice none 0 0])) W :=
  ⟨⟨2, 1, ⟨#[]⟩, none, 0, 0, .mk 2 1 ⟨#[]⟩ 0 fun _ => .nil, rfl, (TP.leaf W (fun _ => True) 2 1 ⟨#[]⟩).tin, ⟨⟨by decide, by decide⟩, fun i h => absurd h (by omega)⟩, ⟨fun h => absurd h (by decide), fun i h => absurd h (by omega)⟩⟩, hW⟩
set_option maxRecDepth 100000 in
set_option maxHeartbeats 4000000 in
theorem lone_any (s : ByteArray) (w : World) : Calls Try.prog 12 #[.string s] w fun e w' => LOne w e w' := by
  by_cases hs : (s.size : Int) ≤ 1024
  · go_enter Try.func12, Try.ntmps12
    go_wp2_with fail
    refine (one_any s _).mono ?_
    rintro e w1 ⟨⟨k, n, tx, A, m, c, NA, nn, nc, p, er, rfl, hok⟩, h1⟩
    have hE1 := Lib.hid ((h1.block w.heap.size (by simp)).trans (heap_alloc_new w (Obj.cells #[.int .i64 0, .int .i64 0, .string ⟨#[]⟩, .slice none 0 0] 29)))
    have B1 := Lib.hid (((Below.refl w.heap.size w).alloc (Nat.le_refl _) (Obj.cells #[.int .i64 0, .int .i64 0, .string ⟨#[]⟩, .slice none 0 0] 29)).trans (h1.mono (by simp)))
    have hlt : w.heap.size < w1.heap.size := heap_lt hE1.out
    have xf : ∀ j, w1.frozen? ⟨w.heap.size, j, none⟩ = false := fun j => by simp [World.frozen?, hE1.out]
    obtain ⟨x0, x1, x2, x3⟩ := box4t hE1.out
    clear h1
    by_cases he : er = 0
    · subst he
      obtain ⟨t, ht, hgd, _⟩ := hok rfl
      have HT := Lib.hid ht
      clear ht hok
      go_wp2_with fail
      have P := box_put4 hE1.out (.int .i64 k) (.int .i64 n) (.string tx) (.slice A m c) rfl
      obtain ⟨p0, p1, p2, p3⟩ := box4t P.1
      refine bodyPost_ret (v := .agg #[.int .i64 k, .int .i64 n, .string tx, .slice A m c]) (by simp [results, go_sem, p0, p1, p2, p3, hlt]) rfl ?_
      have B2 := P.2.2.2 _ _ (Nat.le_refl _) B1.out
      refine ⟨⟨_, _, _, _, _, _, t, rfl, ((tp_put hE1.out _ _ _ _ HT.out fun b hb => ?_).below ((Below.refl _ _).alloc (Nat.le_refl _) _)).tin, (good_inR t hgd).1, (good_inR t hgd).2⟩, B2.alloc B2.size _⟩
      have hb2 : (w.alloc (Obj.cells #[.int .i64 0, .int .i64 0, .string ⟨#[]⟩, .slice none 0 0] 29)).heap.size ≤ b := hb
      simp at hb2
      omega
    · have hne : (er == 0) = false := by simpa using he
      clear hok
      go_wp2_with fail
      have P := box_put4 hE1.out (.int .i64 2) (.int .i64 1) (.string ⟨#[]⟩) (.slice none 0 0) rfl
      obtain ⟨p0, p1, p2, p3⟩ := box4t P.1
      refine bodyPost_ret (v := .agg #[.int .i64 2, .int .i64 1, .string ⟨#[]⟩, .slice none 0 0]) (by simp [results, go_sem, p0, p1, p2, p3, hlt]) rfl ?_
      have B2 := P.2.2.2 _ _ (Nat.le_refl _) B1.out
      exact lone_leaf (B2.alloc B2.size _)
  · have hs' : ¬ (s.size : Int) ≤ 1024 := hs
    go_enter Try.func12, Try.ntmps12
    go_wp2_with fail
    refine bodyPost_ret (v := .agg #[.int .i64 2, .int .i64 1, .string ⟨#[]⟩, .slice none 0 0]) (by simp [results, go_sem]) rfl ?_
    exact lone_leaf ((Below.refl _ _).alloc (Nat.le_refl _) _)
set_option maxRecDepth 100000 in
set_option maxHeartbeats 4000000 in
theorem terms_any (s : ByteArray) (w : World) : Calls Try.prog 5 #[.string s] w fun e w' => e = .returned (.bool true) ∧ Below w.heap.size w w' := by
  go_enter Try.func5, Try.ntmps5
  go_wp2_with fail
  refine (lone_any s _).mono ?_
  rintro e w1 ⟨⟨k, n, tx, A, m, c, t, rfl, ht, hr, hat⟩, h1⟩
  obtain ⟨x, fk, fn, fs, he⟩ : ∃ (x fk fn : Int) (fs : ByteArray), evPair (evT t) = .returned (.tuple #[.int .i64 x, .agg #[.int .i64 fk, .string fs, .int .i64 fn]]) := by
    cases evT t with
    | val x => exact ⟨_, _, _, _, rfl⟩
    | flt k s n => exact ⟨_, _, _, _, rfl⟩
  have B1 := Lib.hid (h1.alloc h1.size (Obj.cells #[.int .i64 k, .int .i64 n, .string tx, .slice A m c] 29))
  have hT1 := Lib.hid (heap_alloc_new w1 (Obj.cells #[.int .i64 k, .int .i64 n, .string tx, .slice A m c] 29))
  have t1 := Lib.hid (show TIn (w1.alloc (Obj.cells #[.int .i64 k, .int .i64 n, .string tx, .slice A m c] 29)) (w1.alloc (Obj.cells #[.int .i64 k, .int .i64 n, .string tx, .slice A m c] 29)).heap.size t (.agg #[.int .i64 k, .int .i64 n, .string tx, .slice A m c]) from (ht.below ((Below.refl _ _).alloc (Nat.le_refl _) _)).more (by simp))
  clear h1 ht
  go_wp2_with fail
  refine (eval_any t _ _ t1.out hr).mono ?_
  rintro e w5 ⟨rfl, h5⟩
  rw [he]
  have hT5 := Lib.hid ((h5.block w1.heap.size (by simp)).trans hT1.out)
  have B5 := Lib.hid (B1.out.trans (h5.mono B1.out.size))
  have t5 := Lib.hid (show TIn w5 w5.heap.size t (.agg #[.int .i64 k, .int .i64 n, .string tx, .slice A m c]) from (t1.out.below h5).more h5.size)
  have hg5 : w1.heap.size < w5.heap.size := heap_lt5 hT5.out
  obtain ⟨q0, q1, q2, q3⟩ := box4 hT5.out
  clear h5
  go_wp2_with fail
  refine (refEval_any t hr hat _ _ ((t5.out.below (B := w5.heap.size) ((Below.refl _ _).alloc (Nat.le_refl _) _)).more (by simp))).mono ?_
  rintro e w6 ⟨rfl, h6⟩
  rw [he]
  have c6 := Lib.hid ((h6.block w5.heap.size (by simp)).trans (heap_alloc_new w5 (Obj.cells #[.int .i64 fk, .string fs, .int .i64 fn] 31)))
  have B6 := Lib.hid ((B5.out.alloc B5.out.size (Obj.cells #[.int .i64 fk, .string fs, .int .i64 fn] 31)).trans (h6.mono (by have := B5.out.size; simp; omega)))
  have l6 : w5.heap.size < w6.heap.size := heap_lt5 c6.out
  clear h6 q0 q1 q2 q3
  obtain ⟨z0, z1, z2⟩ := box3 c6.out
  go_wp2_with fail
  go_ret
  exact ⟨rfl, B6.out.alloc B6.out.size _⟩
end Go.Proofs.Ytifjdfdjojkagaa
namespace Go.Proofs.Ytifjdfdjojkagaa
open Go.RowKit

/-- The integer x, as a term. -/
def intT (x : Int) : T := .mk 2 x ⟨#[]⟩ 0 fun _ => .nil
/-- u in the place of each variable below 8. -/
def substT (u : T) : T → T
  | .nil => .nil
  | .mk k n s m a => if k = 1 then (if n < 8 then u else .mk k n s m a) else if k = 4 then .mk 4 0 s m fun i => substT u (a i) else .mk k n s m a
theorem evT_subst (u : T) (x : Int) (hu : evT u = .val x) : ∀ t : T, evT (substT u t) = evT (substT (intT x) t) := by
  intro t
  induction t with
  | nil => rfl
  | mk k n s m a ih =>
    have hx : evT (intT x) = .val x := by simp [intT, evT]
    unfold substT
    by_cases h1 : k = 1
    · subst h1
      by_cases h8 : n < 8
      · simp [h8, hu, hx]
      · simp [h8]
    · by_cases h4 : k = 4
      · subst h4
        simp only [h1, if_false, if_true]
        unfold evT
        rw [ih 0, ih 1]
      · simp [h1, h4]
theorem sumTo_ge (n : Nat) (f : Nat → Nat) (i : Nat) (hi : i < n) : f i ≤ sumTo n f := by
  induction n with
  | zero => omega
  | succ n ih =>
    simp only [sumTo]
    rcases Nat.lt_or_ge i n with h | h
    · have := ih h; omega
    · obtain rfl : i = n := by omega
      omega
theorem sumTo_mono (f : Nat → Nat) {i m : Nat} (h : i ≤ m) : sumTo i f ≤ sumTo m f := by
  induction m with
  | zero => obtain rfl : i = 0 := by omega
            exact Nat.le_refl _
  | succ m ih =>
    rcases Nat.lt_or_ge m i with h1 | h1
    · obtain rfl : i = m + 1 := by omega
      exact Nat.le_refl _
    · simp only [sumTo]
      have := ih h1
      omega
theorem nodes_child {k n : Int} {s : ByteArray} {m : Nat} {a : Nat → T} {i : Nat} (hi : i < m) : (a i).nodes < (T.mk k n s m a).nodes := by
  have := sumTo_ge m (fun i => (a i).nodes) i hi
  simp only [T.nodes]
  omega
theorem nodes_pos : ∀ t : T, t.good → 0 < t.nodes
  | .nil, h => h.elim
  | .mk _ _ _ m a, _ => by simp only [T.nodes]; omega
theorem sumTo_ones (n : Nat) (f : Nat → Nat) (h : ∀ i, i < n → 0 < f i) : n ≤ sumTo n f := by
  induction n with
  | zero => omega
  | succ n ih =>
    have := ih fun i hi => h i (by omega)
    have := h n (by omega)
    simp only [sumTo]
    omega
/-- A well-formed term has fewer arguments than terms in it. -/
theorem args_few {k n : Int} {s : ByteArray} {m : Nat} {a : Nat → T} (h : (T.mk k n s m a).good) : m < (T.mk k n s m a).nodes := by
  have := sumTo_ones m (fun i => (a i).nodes) fun i hi => nodes_pos _ (h.2 i hi)
  simp only [T.nodes]
  omega
theorem subst_inR (u : T) (hu : u.inR ∧ u.atoms) : ∀ t : T, t.inR → t.atoms → (substT u t).inR ∧ (substT u t).atoms := by
  intro t
  induction t with
  | nil => exact fun h h' => ⟨h, h'⟩
  | mk k n s m a ih =>
    intro h h'
    unfold substT
    by_cases h1 : k = 1
    · subst h1
      by_cases h8 : n < 8
      · simpa [h8] using hu
      · simpa [h8] using ⟨h, h'⟩
    · by_cases h4 : k = 4
      · subst h4
        simp only [h1, if_false, if_true]
        exact ⟨⟨⟨by decide, by decide⟩, fun i hi => (ih i (h.2 i hi) (h'.2 i hi)).1⟩, ⟨fun h3 => absurd h3 (by decide), fun i hi => (ih i (h.2 i hi) (h'.2 i hi)).2⟩⟩
      · simpa [h1, h4] using ⟨h, h'⟩
end Go.Proofs.Ytifjdfdjojkagaa
namespace Go.Proofs.Ytifjdfdjojkagaa
open Go.RowKit

theorem TIn.pos {w : World} {B : Nat} {t : T} {v : Value} (h : TIn w B t v) : 0 < t.nodes := by
  cases t with
  | nil => exact h.elim
  | mk k n s m a => simp only [T.nodes]; omega
theorem TAt.few {w : World} {B : Nat} {k n : Int} {s : ByteArray} {m : Nat} {a : Nat → T} {A : Option Addr} {c : Nat} (h : TAt w B k n s m a A c) : m ≤ sumTo m fun i => (a i).nodes := by
  rcases Nat.eq_zero_or_pos m with h0 | h0
  · omega
  · obtain ⟨b, off, _, _, hc⟩ := h.cells h0
    exact sumTo_ones _ _ fun i hi => by
      obtain ⟨_, _, _, _, _, _, _, _, ht⟩ := hc i hi
      exact ht.pos
set_option maxRecDepth 100000 in
set_option maxHeartbeats 2000000 in
theorem tsize_any : ∀ t : T, t.nodes ≤ 2000000 → ∀ (v : Value) (w : World), TIn w w.heap.size t v →
    Calls Try.prog 14 #[v] w fun e w' => (∃ z : Nat, e = .returned (.int .i64 (z : Int)) ∧ z ≤ t.nodes) ∧ Below w.heap.size w w' := by
  intro t
  induction t with
  | nil => intro _ v w hv; exact hv.elim
  | mk k n s m a ih =>
    intro hn v w hv
    obtain ⟨A, c, rfl, hT⟩ := hv.open_
    have HT := Lib.hid hT
    have hnod : 1 + (sumTo m fun i => (a i).nodes) ≤ 2000000 := hn
    have hm2 : m ≤ 2000000 := by have := hT.few; omega
    clear hv hT
    go_enter Try.func14, Try.ntmps14
    go_wp2_with fail
    go_loopw [3, 4] (fun nv iv wr => ∃ z i : Nat, nv = .int .i64 (z : Int) ∧ iv = .int .i64 (i : Int) ∧ i ≤ m ∧ z ≤ 1 + (sumTo i fun i => (a i).nodes) ∧ Below w.heap.size w wr ∧
      wr.heap[w.heap.size]? = some (.cells #[.int .i64 k, .int .i64 n, .string s, .slice A m c] 29 (0, 0))) (fun _ iv _ => m - (intOf iv).toNat)
    case atStart => exact ⟨1, 0, rfl, rfl, by omega, by omega, (Below.refl _ _).alloc (Nat.le_refl _) _, heap_alloc_new _ _⟩
    case round =>
      obtain ⟨z, i, rfl, rfl, hi, hz, hb, hbox⟩ := hrel
      have HB := Lib.hid hb
      have HX := Lib.hid hbox
      obtain ⟨y0, y1, y2, y3⟩ := box4 hbox
      clear hb hbox
      have hmono : (sumTo i fun i => (a i).nodes) ≤ (sumTo m fun i => (a i).nodes) := sumTo_mono _ hi
      cases hk' : (k == 4) with
      | true =>
        by_cases him : i < m
        · have him' : (i : Int) < (m : Int) := by omega
          obtain ⟨b, off, rfl, hbw, hcell⟩ := HT.out.cells (by omega)
          obtain ⟨v0, v1, v2, v3, c0, c1, c2, c3, ht⟩ := hcell i him
          have hbl : b < w.heap.size := hbw
          have d0 := (HB.out.cell (p := ⟨b, off + 4 * i, none⟩) hbl).trans c0
          have d1 := (HB.out.cell (p := ⟨b, off + 4 * i + 1, none⟩) hbl).trans c1
          have d2 := (HB.out.cell (p := ⟨b, off + 4 * i + 2, none⟩) hbl).trans c2
          have d3 := (HB.out.cell (p := ⟨b, off + 4 * i + 3, none⟩) hbl).trans c3
          rw [Nat.mul_comm 4 i] at d0 d1 d2 d3
          have HC := Lib.hid ((ht.below HB.out).more HB.out.size)
          have hci : (a i).nodes ≤ 2000000 := by have := sumTo_ge m (fun i => (a i).nodes) i him; omega
          have hnext : (sumTo (i + 1) fun i => (a i).nodes) ≤ (sumTo m fun i => (a i).nodes) := sumTo_mono _ him
          simp only [sumTo] at hnext
          clear hcell c0 c1 c2 c3 ht
          have hz2 : z ≤ 2000000 := by omega
          go_wp2_with fail
          refine (ih i hci _ _ HC.out).mono ?_
          rintro e w5 ⟨⟨zc, rfl, hzc⟩, h5⟩
          have hzc2 : zc ≤ 2000000 := by omega
          have B5 := Lib.hid (HB.out.trans (h5.mono HB.out.size))
          have X5 := Lib.hid ((h5.block _ (heap_lt HX.out)).trans HX.out)
          clear h5
          go_wp2_with fail
          go_roundw
          case rel => exact ⟨z + zc, i + 1, by go_num, by go_num, him, by have e9 : (sumTo (i + 1) fun i => (a i).nodes) = (sumTo i fun i => (a i).nodes) + (a i).nodes := rfl; omega, B5.out, X5.out⟩
          case measure => simp [intOf]; omega
        · obtain rfl : i = m := by omega
          go_wp2_with fail
          go_ret
          exact ⟨⟨z, rfl, by simp only [T.nodes]; omega⟩, HB.out⟩
      | false =>
        go_wp2_with fail
        go_ret
        exact ⟨⟨z, rfl, by simp only [T.nodes]; omega⟩, HB.out⟩
end Go.Proofs.Ytifjdfdjojkagaa
namespace Go.Proofs.Ytifjdfdjojkagaa
open Go.RowKit

/-- A row of eight equal terms. -/
structure Eight (w : World) (S : Nat → Prop) (g : Nat) (u : T) : Prop where
  lt : g < w.heap.size
  cells : ∀ i, i < 8 → ∃ (ku nu : Int) (su : ByteArray) (Au : Option Addr) (mu cu : Nat), w.cell? ⟨g, i * 4, none⟩ = some (.int .i64 ku) ∧ w.cell? ⟨g, i * 4 + 1, none⟩ = some (.int .i64 nu) ∧ w.cell? ⟨g, i * 4 + 2, none⟩ = some (.string su) ∧
    w.cell? ⟨g, i * 4 + 3, none⟩ = some (.slice Au mu cu) ∧ TP w S u (.agg #[.int .i64 ku, .int .i64 nu, .string su, .slice Au mu cu]) ∧ ku ≠ 0
theorem Eight.below {w w' : World} {S : Nat → Prop} {g : Nat} {u : T} (h : Eight w S g u) (hb : Below w.heap.size w w') : Eight w' S g u :=
  ⟨Nat.lt_of_lt_of_le h.lt hb.size, fun i hi => by
    obtain ⟨ku, nu, su, Au, mu, cu, h0, h1, h2, h3, ht, hk⟩ := h.cells i hi
    have key := fun (j : Nat) => hb.cell (p := ⟨g, j, none⟩) h.lt
    exact ⟨ku, nu, su, Au, mu, cu, (key _).trans h0, (key _).trans h1, (key _).trans h2, (key _).trans h3, ht.below hb, hk⟩⟩
/-- The contract of Subst at a term. -/
def SubC (u : T) (t : T) : Prop := ∀ (v : Value) (w : World) (S : Nat → Prop) (g c : Nat), TP w S t v → Eight w S g u →
  Calls Try.prog 13 #[v, .slice (some ⟨g, 0, none⟩) 8 c] w fun e w' => (∃ v', e = .returned v' ∧ TP w' (fun b => S b ∨ w.heap.size ≤ b) (substT u t) v') ∧ Below w.heap.size w w'
set_option maxRecDepth 100000 in
set_option maxHeartbeats 4000000 in
theorem subst_leaf (u : T) (k n : Int) (s : ByteArray) (m : Nat) (a : Nat → T) (hg : (T.mk k n s m a).good) (h4 : (k == 4) = false) : SubC u (.mk k n s m a) := by
  intro v w S g c hv h8
  have HV0 := hv
  obtain ⟨A, cc, rfl, hT⟩ := hv
  have HV := Lib.hid HV0
  have H8 := Lib.hid h8
  have hgl := h8.lt
  clear HV0 hT h8
  cases h1 : (k == 1) with
  | true =>
    have hk := Lib.hid (show k = 1 by simpa using h1)
    obtain ⟨hn0, hn1⟩ : 0 ≤ n ∧ n < 1000 := by
      have := hk.out
      rcases hg.1 with ⟨_, h0, h1, _⟩ | ⟨h, _⟩ | ⟨h, _⟩ | ⟨h, _⟩
      · exact ⟨h0, h1⟩
      all_goals omega
    by_cases h8 : n < 8
    · obtain ⟨j, rfl⟩ : ∃ j : Nat, n = (j : Int) := ⟨n.toNat, by omega⟩
      obtain ⟨ku, nu, su, Au, mu, cu, c0, c1, c2, c3, ht, hku⟩ := H8.out.cells j (by omega)
      have hku' : (ku != 0) = true := by simpa using hku
      have HT := Lib.hid ht
      have hsub : substT u (.mk k (j : Int) s m a) = u := by simp only [substT, hk.out, if_true]; rw [if_pos h8]
      rw [hsub]
      clear ht hku hk hsub
      go_enter Try.func13, Try.ntmps13
      go_wp2_with fail
      refine bodyPost_ret (v := .agg #[.int .i64 ku, .int .i64 nu, .string su, .slice Au mu cu]) (by simp [results, go_sem]) rfl ?_
      have B := ((Below.refl w.heap.size w).alloc (Nat.le_refl _) (Obj.cells #[.int .i64 k, .int .i64 (j : Int), .string s, .slice A m cc] 29)).alloc (by simp) (Obj.cells #[.int .i64 ku, .int .i64 nu, .string su, .slice Au mu cu] 29)
      exact ⟨⟨_, rfl, (HT.out.below B).more fun b hb => .inl hb⟩, B⟩
    · have hsub : substT u (.mk k n s m a) = .mk k n s m a := by simp only [substT, hk.out, if_true]; rw [if_neg h8]
      rw [hsub]
      clear hk hsub
      go_enter Try.func13, Try.ntmps13
      go_wp2_with fail
      refine bodyPost_ret (v := .agg #[.int .i64 k, .int .i64 n, .string s, .slice A m cc]) (by simp [results, go_sem]) rfl ?_
      have B := ((Below.refl w.heap.size w).alloc (Nat.le_refl _) (Obj.cells #[.int .i64 k, .int .i64 n, .string s, .slice A m cc] 29)).alloc (by simp) (Obj.cells #[.int .i64 k, .int .i64 n, .string s, .slice A m cc] 29)
      exact ⟨⟨_, rfl, (HV.out.below B).more fun b hb => .inl hb⟩, B⟩
  | false =>
    have hsub : substT u (.mk k n s m a) = .mk k n s m a := by
      have e1 : ¬ k = 1 := by simpa using h1
      have e4 : ¬ k = 4 := by simpa using h4
      simp only [substT, if_neg e1, if_neg e4]
    rw [hsub]
    clear hsub
    go_enter Try.func13, Try.ntmps13
    go_wp2_with fail
    refine bodyPost_ret (v := .agg #[.int .i64 k, .int .i64 n, .string s, .slice A m cc]) (by simp [results, go_sem]) rfl ?_
    have B := ((Below.refl w.heap.size w).alloc (Nat.le_refl _) (Obj.cells #[.int .i64 k, .int .i64 n, .string s, .slice A m cc] 29)).alloc (by simp) (Obj.cells #[.int .i64 k, .int .i64 n, .string s, .slice A m cc] 29)
    exact ⟨⟨_, rfl, (HV.out.below B).more fun b hb => .inl hb⟩, B⟩
end Go.Proofs.Ytifjdfdjojkagaa
namespace Go.Proofs.Ytifjdfdjojkagaa
open Go.RowKit

/-- What the loop of 'Subst' has gathered. -/
structure SubI (u : T) (w : World) (S : Nat → Prop) (n : Int) (s : ByteArray) (A : Option Addr) (m cc : Nat) (a : Nat → T) (wr : World) (i : Nat) (o : Value) (xs : List Value) : Prop where
  tb : wr.heap[w.heap.size]? = some (.cells #[.int .i64 4, .int .i64 n, .string s, .slice A m cc] 29 (0, 0))
  rb : wr.heap[w.heap.size + 1]? = some (.cells #[.int .i64 0, .int .i64 0, .string ⟨#[]⟩, .slice none 0 0] 29 (0, 0))
  ob : wr.heap[w.heap.size + 2]? = some (.cells #[.int .i64 4, .int .i64 0, .string s, o] 29 (0, 0))
  own : wr.ownsRow (w.heap.size + 3) 29 4 o i xs
  tp : ∀ q, q < i → ∃ v0 v1 v2 v3, xs[4 * q]? = some v0 ∧ xs[4 * q + 1]? = some v1 ∧ xs[4 * q + 2]? = some v2 ∧ xs[4 * q + 3]? = some v3 ∧
    TP wr (fun b => (S b ∧ b < w.heap.size) ∨ (w.heap.size + 3 ≤ b ∧ some b ≠ o.ownBlock)) (substT u (a q)) (.agg #[v0, v1, v2, v3])
  hi : i ≤ m
  low : Below w.heap.size w wr
theorem Eight.old {w : World} {S : Nat → Prop} {g : Nat} {u : T} (h : Eight w S g u) : Eight w (fun b => S b ∧ b < w.heap.size) g u :=
  ⟨h.lt, fun i hi => by
    obtain ⟨ku, nu, su, Au, mu, cu, h0, h1, h2, h3, ht, hk⟩ := h.cells i hi
    exact ⟨ku, nu, su, Au, mu, cu, h0, h1, h2, h3, ht.old, hk⟩⟩
theorem SubI.push {u : T} {w : World} {S : Nat → Prop} {n : Int} {s : ByteArray} {A : Option Addr} {m cc : Nat} {a : Nat → T} {wr w8 w9 : World} {i : Nat} {o : Value} {xs : List Value} {a0 a1 a2 a3 : Value} {g' cap' : Nat} (h : SubI u w S n s A m cc a wr i o xs)
    (hb : Below wr.heap.size wr w8) (ht : TP w8 (fun b => (S b ∧ b < w.heap.size) ∨ wr.heap.size ≤ b) (substT u (a i)) (.agg #[a0, a1, a2, a3])) (hown : w9.ownsRow (w.heap.size + 3) 29 4 (.slice (some ⟨g', 0, none⟩) (i + 1) cap') (i + 1) (xs ++ [a0, a1, a2, a3]))
    (hg : w8.grownBy w9 o.ownBlock) (hat : o.ownBlock = some g' ∨ g' = w8.heap.size) (him : i < m) :
    SubI u w S n s A m cc a (w9.setCell ⟨w.heap.size + 2, 3, none⟩ (.slice (some ⟨g', 0, none⟩) (i + 1) cap')) (i + 1) (.slice (some ⟨g', 0, none⟩) (i + 1) cap') (xs ++ [a0, a1, a2, a3]) := by
  have hol := h.own.lt
  have hg3 : w.heap.size + 3 ≤ g' := (hown.lt g' rfl).1
  have ho2 := heap_lt h.ob
  have hs8 := hb.size
  have hl : xs.length = 4 * i := by have := own_len h.own; omega
  have keep : ∀ (b : Nat) (o' : Obj), wr.heap[b]? = some o' → some b ≠ o.ownBlock → b ≠ w.heap.size + 2 → (w9.setCell ⟨w.heap.size + 2, 3, none⟩ (.slice (some ⟨g', 0, none⟩) (i + 1) cap')).heap[b]? = some o' := fun b o' hh hne h2 => by
    have hl := heap_lt hh
    rw [Below.heap_setCell _ _ _ b h2, hg.block b (by omega) hne, hb.block b hl, hh]
  have far : ∀ b, b < w.heap.size + 3 → some b ≠ o.ownBlock := fun b hb' e => by have := (hol b e.symm).1; omega
  have hob9 : w9.heap[w.heap.size + 2]? = some (.cells #[.int .i64 4, .int .i64 0, .string s, o] 29 (0, 0)) := by
    rw [hg.block _ (by omega) (far _ (by omega)), hb.block _ ho2, h.ob]
  refine ⟨keep _ _ h.tb (far _ (by omega)) (by omega), keep _ _ h.rb (far _ (by omega)) (by omega), by simpa using blk_set hob9 3 (.slice (some ⟨g', 0, none⟩) (i + 1) cap'), own_keep hown fun g hg' => Below.heap_setCell _ _ _ _ ?_, fun q hq => ?_, him, ?_⟩
  · simp [Value.ownBlock] at hg'
    show g ≠ w.heap.size + 2
    omega
  · by_cases hqi : q = i
    · subst hqi
      have key : ∀ j, (xs ++ [a0, a1, a2, a3])[4 * q + j]? = [a0, a1, a2, a3][j]? := fun j => by
        rw [List.getElem?_append_right (by omega), hl]
        congr 1
        omega
      refine ⟨a0, a1, a2, a3, by simpa using key 0, by simpa using key 1, by simpa using key 2, by simpa using key 3, ht.keep fun b cs f hS hh => ?_⟩
      have hl8 := heap_lt hh
      have hne : some b ≠ o.ownBlock := fun e => by
        have := hol b e.symm
        rcases hS with hS | hS <;> omega
      have hb2 : b ≠ w.heap.size + 2 := by rcases hS with hS | hS <;> omega
      refine ⟨by rw [Below.heap_setCell _ _ _ b hb2, hg.block b hl8 hne, hh], ?_⟩
      rcases hS with hS | hS
      · exact .inl hS
      · refine .inr ⟨by omega, ?_⟩
        rcases hat with e | e
        · rw [e] at hne; simpa [Value.ownBlock] using hne
        · simp [Value.ownBlock]; omega
    · obtain ⟨v0, v1, v2, v3, c0, c1, c2, c3, ht'⟩ := h.tp q (by omega)
      have key : ∀ j, j < 4 → (xs ++ [a0, a1, a2, a3])[4 * q + j]? = xs[4 * q + j]? := fun j hj => List.getElem?_append_left (by omega)
      refine ⟨v0, v1, v2, v3, (key 0 (by omega)).trans c0, (key 1 (by omega)).trans c1, (key 2 (by omega)).trans c2, (key 3 (by omega)).trans c3, ht'.keep fun b cs f hS hh => ?_⟩
      have hlr := heap_lt hh
      have hne : some b ≠ o.ownBlock := by
        rcases hS with hS | hS
        · exact far b (by omega)
        · exact hS.2
      refine ⟨keep b _ hh hne (by rcases hS with hS | hS <;> omega), ?_⟩
      rcases hS with hS | hS
      · exact .inl hS
      · refine .inr ⟨hS.1, ?_⟩
        rcases hat with e | e
        · rw [e] at hne; simpa [Value.ownBlock] using hne
        · simp [Value.ownBlock]; omega
  · exact ((h.low.trans (hb.mono h.low.size)).grown hg (Nat.le_trans h.low.size hb.size) fun k hk => by have := (hol k hk).1; omega).setCell (p := ⟨w.heap.size + 2, 3, none⟩) (by show w.heap.size ≤ w.heap.size + 2; omega) _
set_option maxRecDepth 100000 in
set_option maxHeartbeats 4000000 in
theorem subst_cmp (u : T) (n : Int) (s : ByteArray) (m : Nat) (a : Nat → T) (hm : m ≤ 1000) (ih : ∀ i, i < m → SubC u (a i)) : SubC u (.mk 4 n s m a) := by
  intro v w S g c hv h8
  obtain ⟨A, cc, rfl, hmc, hA, hx⟩ := hv
  have HX := Lib.hid hx
  have H8 := Lib.hid h8
  have hgl := h8.lt
  clear hx h8
  obtain ⟨item, hi1, hi2, hi3, hi4⟩ := elTerm.hi
  go_enter Try.func13, Try.ntmps13
  go_wp2_with fail
  go_loopw [6] (fun iv wr => ∃ (i : Nat) (o : Value) (xs : List Value), iv = .int .i64 (i : Int) ∧ SubI u w S n s A m cc a wr i o xs) (fun iv _ => m - (intOf iv).toNat)
  case atStart =>
    refine ⟨0, .slice none 0 0, [], rfl, ?_, ?_, ?_, World.ownsRow_nil _ _ _ _, fun q hq => absurd hq (by omega), Nat.zero_le _, (((Below.refl _ _).alloc (Nat.le_refl _) _).alloc (by simp) _).alloc (by simp; omega) _⟩
    · exact (Below.heap_alloc _ _ _ (by simp; omega)).trans ((Below.heap_alloc _ _ _ (by simp)).trans (heap_alloc_new _ _))
    · exact (Below.heap_alloc _ _ _ (by simp)).trans ((congrArg _ (by simp)).trans (heap_alloc_new _ _))
    · exact (congrArg _ (by simp)).trans (heap_alloc_new _ _)
  case round =>
    obtain ⟨i, o, xs, rfl, hr⟩ := hrel
    obtain ⟨OA, oc, rfl, hoc, hoA, hom, hox⟩ := own_open hr.own
    have R := Lib.hid hr
    have hi := hr.hi
    obtain ⟨y0, y1, y2, y3⟩ := box4 hr.tb
    obtain ⟨z0, z1, z2, z3⟩ := box4 hr.ob
    have hsl := hr.low.size
    have hol := heap_lt hr.ob
    clear hr
    by_cases him : i < m
    · have him' : (i : Int) < (m : Int) := by omega
      obtain ⟨b, cs, f, rfl, hSb, hbb, hcell⟩ := HX.out (by omega)
      obtain ⟨v0, v1, v2, v3, c0, c1, c2, c3, ht⟩ := hcell i him
      obtain ⟨k0, k1, k2, A0, m0, cc0, he⟩ := ht.agg
      injection he with he
      simp only [Array.mk.injEq, List.cons.injEq, and_true] at he
      obtain ⟨rfl, rfl, rfl, rfl⟩ := he
      have hbw := (R.out.low.block b (heap_lt hbb)).trans hbb
      have hbl := heap_lt hbw
      have hr := fun (j : Nat) => cell_of_row wr b j _ _ _ hbw
      have d0 := (hr (4 * i)).trans c0
      have d1 := (hr (4 * i + 1)).trans c1
      have d2 := (hr (4 * i + 2)).trans c2
      have d3 := (hr (4 * i + 3)).trans c3
      rw [Nat.mul_comm 4 i] at d0 d1 d2 d3
      have BD := Lib.hid ((Below.refl wr.heap.size wr).drew)
      have HC := Lib.hid ((ht.old.below R.out.low).below BD.out)
      have E8 := Lib.hid ((H8.out.old.below R.out.low).below BD.out)
      have hi9 : i ≤ 1000 := by omega
      clear hr c0 c1 c2 c3 ht hcell hbb hbw hox
      go_wp2_with fail
      go_region_law (first
        | (refine step_append_lies _ rfl _ _ _ rfl (w.heap.size + 3) 29 item (.agg #[.int .i64 0, .int .i64 0, .string ⟨#[]⟩, .slice none 0 0]) 4 56 Try.underlying27 hi1 hi2 hi3 hi4 rfl (by omega) _ i xs rfl (own_below R.out.own ((BD.out.trans h5).alloc hs5 _)) ⟨w5.heap.size, 0, none⟩ 1 1 [.int .i64 e0, .int .i64 e1, .string e2, .slice B0 n0 d0'] rfl rfl (World.news_of_block (heap_alloc_new _ _)) (by intro u hu; simp only [List.mem_cons, List.not_mem_nil, or_false] at hu; rcases hu with rfl | rfl | rfl | rfl <;> rfl) (by omega) (by unfold maxLen; omega) (by omega) (by simp; omega) _ rfl ?_; intro g9 cap9 w9 hown9 hg9 hat9 hlt9; have hob9 := (hg9.block (w.heap.size + 2) (by simp; omega) (fun e => by have := (R.out.own.lt _ e.symm).1; omega)).trans ((Below.heap_alloc w5 _ _ (by omega)).trans ((h5.block (w.heap.size + 2) hol).trans R.out.ob)); have of9 : ∀ j, w9.frozen? ⟨w.heap.size + 2, j, none⟩ = false := (fun j => by simp [World.frozen?, hob9]); obtain ⟨p0, p1, p2, p3⟩ := box4 hob9)
        | (go_simp; go_at_call 13; refine (ih i him _ _ _ g c HC.out E8.out).mono ?_; rintro e w5 ⟨⟨v5, rfl, hv5⟩, h5⟩; have hag := hv5.agg; obtain ⟨e0, e1, e2, B0, n0, d0', rfl⟩ := hag; have hs5 : wr.heap.size ≤ w5.heap.size := h5.size; have hl5 : w.heap.size + 1 + 1 < w5.heap.size := (by omega); obtain ⟨z0, z1, z2, z3⟩ := box4 ((h5.block (w.heap.size + 2) hol).trans R.out.ob)))
      all_goals
        have SS := Lib.hid (SubI.push R.out ((BD.out.trans h5).alloc hs5 (Obj.cells #[.int .i64 e0, .int .i64 e1, .string e2, .slice B0 n0 d0'] 29)) (hv5.below ((Below.refl _ _).alloc (Nat.le_refl _) _)) hown9 hg9 (hat9.imp id fun e => e.trans (by simp)) him)
        clear h5 hv5 hown9 hg9 hat9 hlt9 hob9
        go_wp2_with fail
        go_roundw
        case rel => exact ⟨i + 1, _, _, by go_num, SS.out⟩
        case measure => simp [intOf]; omega
    · obtain rfl : i = m := by omega
      obtain ⟨x0, x1, x2, x3⟩ := box4 R.out.rb
      have bf : ∀ j, wr.frozen? ⟨w.heap.size + 1, j, none⟩ = false := fun j => by simp [World.frozen?, R.out.rb]
      go_wp2_with fail
      have P := box_put4 R.out.rb (.int .i64 4) (.int .i64 0) (.string s) (.slice OA i oc) rfl
      obtain ⟨p0, p1, p2, p3⟩ := box4 P.1
      refine bodyPost_ret (v := .agg #[.int .i64 4, .int .i64 0, .string s, .slice OA i oc]) (by simp [results, go_sem, p0, p1, p2, p3]) rfl ?_
      have hsub : substT u (.mk 4 n s i a) = .mk 4 0 s i fun q => substT u (a q) := by simp [substT]
      rw [hsub]
      refine ⟨⟨_, rfl, OA, oc, rfl, hoc, hoA, fun hm0 => ?_⟩, P.2.2.2 _ _ (by omega) R.out.low⟩
      obtain ⟨g0, cur, rfl, hg3, hh, hcur⟩ := hox hm0
      refine ⟨g0, cur, (0, 0), rfl, .inr (by omega), (P.2.2.1 g0 (by omega)).trans hh, fun q hq => ?_⟩
      obtain ⟨v0, v1, v2, v3, c0, c1, c2, c3, ht⟩ := R.out.tp q hq
      exact ⟨v0, v1, v2, v3, (hcur _ (by omega)).trans c0, (hcur _ (by omega)).trans c1, (hcur _ (by omega)).trans c2, (hcur _ (by omega)).trans c3, (tp_put R.out.rb _ _ _ _ ht fun b hb => by rcases hb with hb | hb <;> omega).more fun b hb => by
        rcases hb with hb | hb
        · exact .inl hb.1
        · exact .inr (by omega)⟩
theorem subst_any (u : T) : ∀ t : T, t.good → t.nodes ≤ 1000 → SubC u t := by
  intro t
  induction t with
  | nil => exact fun h _ => h.elim
  | mk k n s m a ih =>
    intro hg hn
    cases h4 : (k == 4) with
    | false => exact subst_leaf u k n s m a hg h4
    | true =>
      obtain rfl : k = 4 := by simpa using h4
      have hf := args_few hg
      exact subst_cmp u n s m a (by omega) fun i hi => ih i (hg.2 i hi) (by have := nodes_child (k := 4) (n := n) (s := s) (a := a) hi; omega)
end Go.Proofs.Ytifjdfdjojkagaa
namespace Go.Proofs.Ytifjdfdjojkagaa
open Go.RowKit

def LTP (w : World) (e : Ending) (w' : World) : Prop :=
  (∃ (k n : Int) (s : ByteArray) (A : Option Addr) (m c : Nat) (t : T), e = .returned (.agg #[.int .i64 k, .int .i64 n, .string s, .slice A m c]) ∧ TP w' (fun b => w.heap.size ≤ b) t (.agg #[.int .i64 k, .int .i64 n, .string s, .slice A m c]) ∧ t.good ∧ t.nodes ≤ 1000) ∧ Below w.heap.size w w'
theorem ltp_leaf {w W : World} (hW : Below w.heap.size w W) : LTP w (.returned (.agg #[.int .i64 2, .int .i64 1, .string ⟨#[]⟩, .slice none 0 0])) W :=
  ⟨⟨2, 1, ⟨#[]⟩, none, 0, 0, .mk 2 1 ⟨#[]⟩ 0 fun _ => .nil, rfl, TP.leaf W _ 2 1 ⟨#[]⟩, ⟨.inr (.inl ⟨rfl, ⟨by decide, by decide⟩, rfl, rfl⟩), fun i h => absurd h (by omega)⟩, by rw [leaf_nodes]; decide⟩, hW⟩
set_option maxRecDepth 100000 in
set_option maxHeartbeats 4000000 in
theorem lone_tp (s : ByteArray) (w : World) : Calls Try.prog 12 #[.string s] w fun e w' => LTP w e w' := by
  by_cases hs : (s.size : Int) ≤ 1024
  · go_enter Try.func12, Try.ntmps12
    go_wp2_with fail
    refine (one_any s _).mono ?_
    rintro e w1 ⟨⟨k, n, tx, A, m, c, NA, nn, nc, p, er, rfl, hok⟩, h1⟩
    have hE1 := Lib.hid ((h1.block w.heap.size (by simp)).trans (heap_alloc_new w (Obj.cells #[.int .i64 0, .int .i64 0, .string ⟨#[]⟩, .slice none 0 0] 29)))
    have B1 := Lib.hid (((Below.refl w.heap.size w).alloc (Nat.le_refl _) (Obj.cells #[.int .i64 0, .int .i64 0, .string ⟨#[]⟩, .slice none 0 0] 29)).trans (h1.mono (by simp)))
    have hlt : w.heap.size < w1.heap.size := heap_lt hE1.out
    have xf : ∀ j, w1.frozen? ⟨w.heap.size, j, none⟩ = false := fun j => by simp [World.frozen?, hE1.out]
    obtain ⟨x0, x1, x2, x3⟩ := box4t hE1.out
    clear h1
    by_cases he : er = 0
    · subst he
      obtain ⟨t, ht, hgd, hnd⟩ := hok rfl
      have HT := Lib.hid ht
      clear ht hok
      go_wp2_with fail
      have P := box_put4 hE1.out (.int .i64 k) (.int .i64 n) (.string tx) (.slice A m c) rfl
      obtain ⟨p0, p1, p2, p3⟩ := box4t P.1
      refine bodyPost_ret (v := .agg #[.int .i64 k, .int .i64 n, .string tx, .slice A m c]) (by simp [results, go_sem, p0, p1, p2, p3, hlt]) rfl ?_
      have B2 := P.2.2.2 _ _ (Nat.le_refl _) B1.out
      refine ⟨⟨_, _, _, _, _, _, t, rfl, ((tp_put hE1.out _ _ _ _ HT.out fun b hb => ?_).below ((Below.refl _ _).alloc (Nat.le_refl _) _)).more fun b hb => ?_, hgd, hnd⟩, B2.alloc B2.size _⟩
      rotate_left
      · exact Nat.le_trans (by simp) (show (w.alloc (Obj.cells #[.int .i64 0, .int .i64 0, .string ⟨#[]⟩, .slice none 0 0] 29)).heap.size ≤ b from hb)
      have hb2 : (w.alloc (Obj.cells #[.int .i64 0, .int .i64 0, .string ⟨#[]⟩, .slice none 0 0] 29)).heap.size ≤ b := hb
      simp at hb2
      omega
    · have hne : (er == 0) = false := by simpa using he
      clear hok
      go_wp2_with fail
      have P := box_put4 hE1.out (.int .i64 2) (.int .i64 1) (.string ⟨#[]⟩) (.slice none 0 0) rfl
      obtain ⟨p0, p1, p2, p3⟩ := box4t P.1
      refine bodyPost_ret (v := .agg #[.int .i64 2, .int .i64 1, .string ⟨#[]⟩, .slice none 0 0]) (by simp [results, go_sem, p0, p1, p2, p3, hlt]) rfl ?_
      have B2 := P.2.2.2 _ _ (Nat.le_refl _) B1.out
      exact ltp_leaf (B2.alloc B2.size _)
  · have hs' : ¬ (s.size : Int) ≤ 1024 := hs
    go_enter Try.func12, Try.ntmps12
    go_wp2_with fail
    refine bodyPost_ret (v := .agg #[.int .i64 2, .int .i64 1, .string ⟨#[]⟩, .slice none 0 0]) (by simp [results, go_sem]) rfl ?_
    exact ltp_leaf ((Below.refl _ _).alloc (Nat.le_refl _) _)
end Go.Proofs.Ytifjdfdjojkagaa
namespace Go.Proofs.Ytifjdfdjojkagaa
open Go.RowKit

theorem ev_flt (x e : Int) (s : ByteArray) (m : Nat) {k n : Int} {s' : ByteArray} (h : ev x e s m = .flt k s' n) : k ≠ 0 := by
  unfold ev at h
  split at h
  · cases h
  · split at h
    · injection h with h; omega
    · split at h <;> (injection h with h; omega)
/-- A fault's kind is never 0. -/
theorem evT_flt : ∀ t : T, ∀ (k n : Int) (s : ByteArray), evT t = .flt k s n → k ≠ 0 := by
  intro t
  induction t with
  | nil => intro k n s h; cases h
  | mk k' n' s' m a ih =>
    intro k n s h
    unfold evT at h
    split at h
    · cases h
    · split at h
      · injection h with h; omega
      · split at h
        · split at h
          · cases h0 : evT (a 0) with
            | val x => rw [h0] at h; exact ev_flt _ _ _ _ h
            | flt k2 s2 n2 => rw [h0] at h; injection h with h; subst h; exact ih 0 _ _ _ h0
          · injection h with h; omega
        · split at h
          · split at h
            · cases h0 : evT (a 0) with
              | val x =>
                cases h1 : evT (a 1) with
                | val y => rw [h0, h1] at h; exact ev_flt _ _ _ _ h
                | flt k2 s2 n2 => rw [h0, h1] at h; injection h with h; subst h; exact ih 1 _ _ _ h1
              | flt k2 s2 n2 => rw [h0] at h; injection h with h; subst h; exact ih 0 _ _ _ h0
            · injection h with h; omega
          · injection h with h; omega
theorem sumTo_le_mul (n U : Nat) (f g : Nat → Nat) (h : ∀ i, i < n → f i ≤ g i * U) : sumTo n f ≤ sumTo n g * U := by
  induction n with
  | zero => simp [sumTo]
  | succ n ih =>
    simp only [sumTo]
    have := ih fun i hi => h i (by omega)
    have := h n (by omega)
    rw [Nat.add_mul]
    omega
theorem nodes_subst (u : T) (hu : 0 < u.nodes) : ∀ t : T, (substT u t).nodes ≤ t.nodes * u.nodes := by
  intro t
  induction t with
  | nil => simp [substT, T.nodes]
  | mk k n s m a ih =>
    have h1 : ∀ x : Nat, x ≤ x * u.nodes := fun x => Nat.le_mul_of_pos_right x hu
    unfold substT
    split
    · split
      · simp only [T.nodes]
        rw [Nat.add_mul]
        omega
      · exact h1 _
    · split
      · simp only [T.nodes]
        have := sumTo_le_mul m u.nodes (fun i => (substT u (a i)).nodes) (fun i => (a i).nodes) fun i _ => ih i
        rw [Nat.add_mul]
        omega
      · exact h1 _
/-- n times the same cells. -/
def rep (n : Nat) (c : List Value) : List Value := (List.replicate n c).flatten
theorem rep_succ (n : Nat) (c : List Value) : rep (n + 1) c = rep n c ++ c := by
  unfold rep
  rw [List.replicate_succ']
  simp
theorem rep_len (n : Nat) (c : List Value) : (rep n c).length = n * c.length := by
  induction n with
  | zero => simp [rep]
  | succ n ih => rw [rep_succ, List.length_append, ih, Nat.add_mul]; omega
theorem rep_get (n : Nat) (a b c d : Value) (q r : Nat) (hq : q < n) (hr : r < 4) : (rep n [a, b, c, d])[q * 4 + r]? = [a, b, c, d][r]? := by
  induction n with
  | zero => omega
  | succ n ih =>
    rw [rep_succ]
    have hl := rep_len n [a, b, c, d]
    simp at hl
    rcases Nat.lt_or_ge q n with h | h
    · rw [List.getElem?_append_left (by omega)]
      exact ih h
    · obtain rfl : q = n := by omega
      rw [List.getElem?_append_right (by omega), hl]
      congr 1
      omega
/-- Two rows of as many terms, each in blocks of its own. -/
structure TwoRows (W : World) (ua va : List Value) (wr : World) (i : Nat) (o1 o2 : Value) : Prop where
  r1 : wr.ownsRow W.heap.size 29 4 o1 i (rep i ua)
  r2 : wr.ownsRow W.heap.size 29 4 o2 i (rep i va)
  ne : ∀ g, o1.ownBlock = some g → o2.ownBlock ≠ some g
  low : Below W.heap.size W wr
theorem own_grown {w w' : World} {base : Nat} {e : TypeId} {size : Nat} {v : Value} {n : Nat} {xs : List Value} {row : Option Nat} (h : w.ownsRow base e size v n xs) (hg : w.grownBy w' row) (hne : ∀ g, v.ownBlock = some g → row ≠ some g) : w'.ownsRow base e size v n xs :=
  own_keep h fun g hg' => hg.block g (h.lt g hg').2 fun e => hne g hg' e.symm
theorem TwoRows.push1 {W wr w1 w2 : World} {a0 a1 a2 a3 : Value} {va : List Value} {i : Nat} {o1 o2 : Value} {g' cap' : Nat} (h : TwoRows W [a0, a1, a2, a3] va wr i o1 o2) (hb : Below wr.heap.size wr w1)
    (hown : w2.ownsRow W.heap.size 29 4 (.slice (some ⟨g', 0, none⟩) (i + 1) cap') (i + 1) (rep i [a0, a1, a2, a3] ++ [a0, a1, a2, a3])) (hg : w1.grownBy w2 o1.ownBlock) (hat : o1.ownBlock = some g' ∨ g' = w1.heap.size) :
    w2.ownsRow W.heap.size 29 4 (.slice (some ⟨g', 0, none⟩) (i + 1) cap') (i + 1) (rep (i + 1) [a0, a1, a2, a3]) ∧ w2.ownsRow W.heap.size 29 4 o2 i (rep i va) ∧ (∀ g, o2.ownBlock = some g → g ≠ g') ∧ Below W.heap.size W w2 := by
  have h2 := own_below h.r2 hb
  refine ⟨by rw [rep_succ]; exact hown, own_grown h2 hg fun g hg' e => h.ne g e hg', fun g hg' e => ?_, ?_⟩
  · subst e
    rcases hat with e | e
    · exact h.ne _ e hg'
    · have := (h2.lt _ hg').2; omega
  · exact (h.low.trans (hb.mono h.low.size)).grown hg (Nat.le_trans h.low.size hb.size) fun k hk => (h.r1.lt k hk).1
theorem TwoRows.push2 {W w1 w2 w3 : World} {ua : List Value} {b0 b1 b2 b3 : Value} {i : Nat} {o2 : Value} {g' g2 cap2 : Nat} {cap' : Nat} (h : w1.ownsRow W.heap.size 29 4 (.slice (some ⟨g', 0, none⟩) (i + 1) cap') (i + 1) (rep (i + 1) ua) ∧ w1.ownsRow W.heap.size 29 4 o2 i (rep i [b0, b1, b2, b3]) ∧ (∀ g, o2.ownBlock = some g → g ≠ g') ∧ Below W.heap.size W w1) (hb : Below w1.heap.size w1 w2)
    (hown : w3.ownsRow W.heap.size 29 4 (.slice (some ⟨g2, 0, none⟩) (i + 1) cap2) (i + 1) (rep i [b0, b1, b2, b3] ++ [b0, b1, b2, b3])) (hg : w2.grownBy w3 o2.ownBlock) (hat : o2.ownBlock = some g2 ∨ g2 = w2.heap.size) :
    TwoRows W ua [b0, b1, b2, b3] w3 (i + 1) (.slice (some ⟨g', 0, none⟩) (i + 1) cap') (.slice (some ⟨g2, 0, none⟩) (i + 1) cap2) := by
  obtain ⟨r1, r2, hne, low⟩ := h
  have h1 := own_below r1 hb
  have hg' : ∀ g, (Value.slice (some ⟨g', 0, none⟩) (i + 1) cap').ownBlock = some g → g = g' := fun g hg => by simpa [Value.ownBlock] using hg.symm
  refine ⟨own_grown h1 hg fun g hg1 e => ?_, by rw [rep_succ]; exact hown, fun g hg1 e => ?_, ?_⟩
  · exact hne g e (hg' g hg1)
  · have e1 := hg' g hg1
    have e2 : g2 = g := by simpa [Value.ownBlock] using e
    rcases hat with e3 | e3
    · exact hne g2 e3 (by omega)
    · have := (h1.lt g hg1).2
      omega
  · exact (low.trans (hb.mono low.size)).grown hg (Nat.le_trans low.size hb.size) fun k hk => (r2.lt k hk).1
end Go.Proofs.Ytifjdfdjojkagaa
namespace Go.Proofs.Ytifjdfdjojkagaa
open Go.RowKit

/-- Where the walk stands: the boxes of both terms, the terms. -/
structure Sit (w : World) (p q : Nat) (t u : T) (tc uc : Array Value) (W : World) : Prop where
  low : Below w.heap.size w W
  pb : W.heap[p]? = some (.cells tc 29 (0, 0))
  qb : W.heap[q]? = some (.cells uc 29 (0, 0))
  tp : TP W (fun _ => True) t (.agg tc)
  up : TP W (fun _ => True) u (.agg uc)
theorem Sit.below {w W W' : World} {p q : Nat} {t u : T} {tc uc : Array Value} (h : Sit w p q t u tc uc W) (hb : Below W.heap.size W W') : Sit w p q t u tc uc W' :=
  ⟨h.low.trans (hb.mono h.low.size), (hb.block p (heap_lt h.pb)).trans h.pb, (hb.block q (heap_lt h.qb)).trans h.qb, h.tp.below hb, h.up.below hb⟩
theorem Sit.alloc {w W : World} {p q : Nat} {t u : T} {tc uc : Array Value} (h : Sit w p q t u tc uc W) (o : Obj) : Sit w p q t u tc uc (W.alloc o) := h.below ((Below.refl _ _).alloc (Nat.le_refl _) o)
theorem Eight.of {w : World} {W : World} {g cap : Nat} {u : T} {ku nu : Int} {su : ByteArray} {Au : Option Addr} {mu cu : Nat} (h : w.ownsRow W.heap.size 29 4 (.slice (some ⟨g, 0, none⟩) 8 cap) 8 (rep 8 [.int .i64 ku, .int .i64 nu, .string su, .slice Au mu cu]))
    (hu : TP w (fun _ => True) u (.agg #[.int .i64 ku, .int .i64 nu, .string su, .slice Au mu cu])) (hk : ku ≠ 0) : Eight w (fun _ => True) g u := by
  obtain ⟨A, c, e, _, _, _, hx⟩ := own_open h
  obtain ⟨g', cur, e', _, hh, hcur⟩ := hx (by omega)
  injection e with e _ _
  rw [e'] at e
  injection e with e
  injection e with e _ _
  subst e
  have hr := fun (j : Nat) => cell_of_row w g j _ _ _ hh
  refine ⟨heap_lt hh, fun i hi => ⟨ku, nu, su, Au, mu, cu, ?_, ?_, ?_, ?_, hu, hk⟩⟩
  · rw [hr, hcur _ (by omega)]; exact rep_get 8 _ _ _ _ i 0 hi (by omega)
  · rw [hr, hcur _ (by omega)]; exact rep_get 8 _ _ _ _ i 1 hi (by omega)
  · rw [hr, hcur _ (by omega)]; exact rep_get 8 _ _ _ _ i 2 hi (by omega)
  · rw [hr, hcur _ (by omega)]; exact rep_get 8 _ _ _ _ i 3 hi (by omega)
set_option maxRecDepth 100000 in
set_option maxHeartbeats 4000000 in
theorem places_any (s inner : ByteArray) (w : World) : Calls Try.prog 7 #[.string s, .string inner] w fun e w' => e = .returned (.bool true) ∧ Below w.heap.size w w' := by
  go_enter Try.func7, Try.ntmps7
  go_wp2_with fail
  refine (lone_tp s _).mono ?_
  rintro e w1 ⟨⟨k, n, tx, A, m, c, t, rfl, ht, htg, htn⟩, h1⟩
  have H1 := Lib.hid h1
  have T1 := Lib.hid ht
  clear h1 ht
  go_wp2_with fail
  refine (lone_tp inner _).mono ?_
  rintro e w2 ⟨⟨k2, n2, tx2, A2, m2, c2, u, rfl, hu, hug, hun⟩, h2⟩
  have S2 := Lib.hid (show Sit w w1.heap.size w2.heap.size t u #[.int .i64 k, .int .i64 n, .string tx, .slice A m c] #[.int .i64 k2, .int .i64 n2, .string tx2, .slice A2 m2 c2] (w2.alloc (Obj.cells #[.int .i64 k2, .int .i64 n2, .string tx2, .slice A2 m2 c2] 29)) from
    ⟨((H1.out.alloc H1.out.size _).trans (h2.mono (by have := H1.out.size; simp; omega))).alloc (by have := H1.out.size; have := h2.size; simp at this; omega) _,
      (Below.heap_alloc _ _ _ (by have := h2.size; simp at this; omega)).trans ((h2.block w1.heap.size (by simp)).trans (heap_alloc_new w1 (Obj.cells #[.int .i64 k, .int .i64 n, .string tx, .slice A m c] 29))),
      heap_alloc_new _ _, (((T1.out.below ((Below.refl _ _).alloc (Nat.le_refl _) _)).below h2).below ((Below.refl _ _).alloc (Nat.le_refl _) _)).more fun _ _ => trivial,
      (hu.below ((Below.refl _ _).alloc (Nat.le_refl _) _)).more fun _ _ => trivial⟩)
  have hlt1 : w1.heap.size < w2.heap.size := by have := h2.size; simp at this; omega
  clear h2 hu H1 T1
  have hur := (good_inR u hug).1
  have hua := (good_inR u hug).2
  have htr := (good_inR t htg).1
  have hta := (good_inR t htg).2
  obtain ⟨q0, q1, q2, q3⟩ := box4 S2.out.qb
  go_wp2_with fail
  refine (eval_any u _ _ ((S2.out.up).tin) hur).mono ?_
  rintro e w5 ⟨rfl, h5⟩
  have S5 := Lib.hid (S2.out.below h5)
  have hz5 : w2.heap.size < w5.heap.size := by have := h5.size; simp at this; omega
  clear h5 q0 q1 q2 q3
  cases he : evT u with
  | flt fk fs fn =>
    have hfk := evT_flt u _ _ _ he
    have HE := Lib.hid he
    clear he
    have hne : (fk != 0) = true := by simpa using hfk
    clear hfk
    simp only [evPair]
    obtain ⟨q0, q1, q2, q3⟩ := box4 S5.out.qb
    go_wp2_with fail
    refine (refEval_any u hur hua _ _ ((S5.out.alloc _).up.tin)).mono ?_
    rintro e w6 ⟨rfl, h6⟩
    rw [HE.out]
    simp only [evPair]
    have c6 := Lib.hid ((h6.block w5.heap.size (by simp)).trans (heap_alloc_new w5 (Obj.cells #[.int .i64 fk, .string fs, .int .i64 fn] 31)))
    have S6 := Lib.hid ((S5.out.alloc _).below h6)
    have l6 : w5.heap.size < w6.heap.size := heap_lt c6.out
    clear h6 q0 q1 q2 q3
    obtain ⟨z0, z1, z2⟩ := box3 c6.out
    go_wp2_with fail
    go_ret
    exact ⟨rfl, (S6.out.alloc _).low⟩
  | val x =>
    have hx := evT_inR u hur x he
    have HE := Lib.hid he
    clear he
    simp only [evPair]
    obtain ⟨q0, q1, q2, q3⟩ := box4 S5.out.qb
    go_wp2_with fail
    refine (refEval_any u hur hua _ _ ((S5.out.alloc _).up.tin)).mono ?_
    rintro e w6 ⟨rfl, h6⟩
    rw [HE.out]
    simp only [evPair]
    have c6 := Lib.hid ((h6.block w5.heap.size (by simp)).trans (heap_alloc_new w5 (Obj.cells #[.int .i64 0, .string noName, .int .i64 0] 31)))
    have S6 := Lib.hid ((S5.out.alloc _).below h6)
    have l6 : w5.heap.size < w6.heap.size := heap_lt c6.out
    clear h6 q0 q1 q2 q3
    obtain ⟨z0, z1, z2⟩ := box3 c6.out
    go_wp2_with fail
    have S9 := Lib.hid (S6.out.alloc (Obj.cells #[.int .i64 0, .string noName, .int .i64 0] 31))
    have c9 := Lib.hid ((Below.heap_alloc w6 (Obj.cells #[.int .i64 0, .string noName, .int .i64 0] 31) _ l6).trans c6.out)
    have d9 := Lib.hid (heap_alloc_new w6 (Obj.cells #[.int .i64 0, .string noName, .int .i64 0] 31))
    clear z0 z1 z2 c6
    obtain ⟨W9, hW9⟩ : ∃ W9, W9 = w6.alloc (Obj.cells #[.int .i64 0, .string noName, .int .i64 0] 31) := ⟨_, rfl⟩
    have hs9 : W9.heap.size = w6.heap.size + 1 := by rw [hW9]; simp
    rw [← hW9] at S9 c9 d9 ⊢
    have hs9' : w6.heap.size + 1 = W9.heap.size := hs9.symm
    rw [hs9']
    have hku : k2 ≠ 0 := by rcases u with _ | ⟨ku, nu, su, mu, au⟩; exact hug.elim; obtain ⟨_, _, e, _⟩ := S9.out.up; injection e with e; simp only [Array.mk.injEq, List.cons.injEq, and_true] at e; injection e.1 with _ e; subst e; rcases hug.1 with h | h | h | h <;> omega
    have hsz6 : w5.heap.size + 1 < W9.heap.size := by omega
    clear hs9 hs9' hW9 S6 S5 S2
    obtain ⟨item, hi1, hi2, hi3, hi4⟩ := elTerm.hi
    go_loopw [11, 12, 13] (fun o1 o2 iv wr => ∃ i : Nat, iv = .int .i64 (i : Int) ∧ i ≤ 8 ∧ TwoRows W9 [.int .i64 k2, .int .i64 n2, .string tx2, .slice A2 m2 c2] [.int .i64 2, .int .i64 x, .string ⟨#[]⟩, .slice none 0 0] wr i o1 o2) (fun _ _ iv _ => 8 - (intOf iv).toNat)
    case atStart =>
      refine ⟨0, rfl, by omega, ⟨by simp [rep], .inr ⟨_, 0, #[], rfl, Nat.le_refl _, ?_, Nat.le_refl _, Nat.zero_le _, rfl, by simp [rep]⟩⟩, ⟨by simp [rep], .inr ⟨_, 0, #[], rfl, by omega, ?_, Nat.le_refl _, Nat.zero_le _, rfl, by simp [rep]⟩⟩, ?_, ((Below.refl _ _).alloc (Nat.le_refl _) _).alloc (by simp) _⟩
      · exact (Below.heap_alloc _ _ _ (by simp)).trans (heap_alloc_new _ _)
      · exact (congrArg _ (by simp)).trans (heap_alloc_new _ _)
      · intro g hg; simp [Value.ownBlock] at hg ⊢; omega
    case round =>
      obtain ⟨i, rfl, hi, hr⟩ := hrel
      obtain ⟨OA1, oc1, rfl, _, _, _, hox1⟩ := own_open hr.r1
      obtain ⟨OA2, oc2, rfl, _, _, _, hox2⟩ := own_open hr.r2
      have R := Lib.hid hr
      have S := Lib.hid (S9.out.below hr.low)
      have hsl := hr.low.size
      obtain ⟨q0, q1, q2, q3⟩ := box4 S.out.qb
      clear hr
      by_cases hlt : i < 8
      · clear hox1 hox2
        have hlt' : (i : Int) < 8 := by omega
        have UB : ∀ (b : Nat) (l0 l1 l2 l3 : Value) (W : World), W.heap[b]? = some (.cells #[l0, l1, l2, l3] 29 (0, 0)) → ∀ (k : Nat) (u : Value), [l0, l1, l2, l3][k]? = some u → W.cell? ((⟨b, 0, none⟩ : Addr).add k) = some u := fun b l0 l1 l2 l3 W hW k u hu => by
          rw [show (⟨b, 0, none⟩ : Addr).add k = ⟨b, k, none⟩ by unfold Addr.add; split <;> simp_all]
          rw [cell_of_row _ _ k _ _ _ hW]
          simpa using hu
        go_wp2_with (at_builtin; go_must (refine wpList_append_lies _ rfl _ _ _ rfl W9.heap.size 29 item (.agg #[.int .i64 0, .int .i64 0, .string ⟨#[]⟩, .slice none 0 0]) 4 56 Try.underlying27 hi1 hi2 hi3 hi4 rfl (by omega) _ i _ rfl (own_below R.out.r1 ((Below.refl _ _).alloc (Nat.le_refl _) _)) ⟨wr.heap.size, 0, none⟩ 1 1 [.int .i64 k2, .int .i64 n2, .string tx2, .slice A2 m2 c2] rfl rfl (UB _ _ _ _ _ _ (heap_alloc_new _ _)) ?_ (by omega) (by unfold maxLen; omega) (by omega) (by simp; omega) _ rfl ?_))
        · intro u hu
          simp only [List.mem_cons, List.not_mem_nil, or_false] at hu
          rcases hu with rfl | rfl | rfl | rfl <;> rfl
        intro g1 cap1 w10 hown1 hg1 hat1 _
        have P1 := TwoRows.push1 R.out ((Below.refl _ _).alloc (Nat.le_refl _) _) hown1 hg1 (hat1.imp id fun e => e.trans (by simp))
        have P1' := Lib.hid P1
        have S10 := Lib.hid (S9.out.below P1.2.2.2)
        have hs10 := P1.2.2.2.size
        clear hown1 hg1 hat1 P1 S q0 q1 q2 q3
        go_wp2_with (at_builtin; go_must (refine wpList_append_lies _ rfl _ _ _ rfl W9.heap.size 29 item (.agg #[.int .i64 0, .int .i64 0, .string ⟨#[]⟩, .slice none 0 0]) 4 56 Try.underlying27 hi1 hi2 hi3 hi4 rfl (by omega) _ i _ rfl (own_below P1'.out.2.1 ((Below.refl _ _).alloc (Nat.le_refl _) _)) ⟨w10.heap.size, 0, none⟩ 1 1 [.int .i64 2, .int .i64 x, .string ⟨#[]⟩, .slice none 0 0] rfl rfl (UB _ _ _ _ _ _ (heap_alloc_new _ _)) ?_ (by omega) (by unfold maxLen; omega) (by omega) (by simp; omega) _ rfl ?_))
        · intro u hu
          simp only [List.mem_cons, List.not_mem_nil, or_false] at hu
          rcases hu with rfl | rfl | rfl | rfl <;> rfl
        intro g2 cap2 w11 hown2 hg2 hat2 _
        have RR := Lib.hid (TwoRows.push2 P1'.out ((Below.refl _ _).alloc (Nat.le_refl _) _) hown2 hg2 (hat2.imp id fun e => e.trans (by simp)))
        clear hown2 hg2 hat2 P1' S10 R UB
        go_wp2_with fail
        go_roundw
        case rel => exact ⟨i + 1, by go_num, by omega, RR.out⟩
        case measure => simp [intOf]; omega
      · obtain rfl : i = 8 := by omega
        obtain ⟨ga, _, rfl, _⟩ := hox1 (by omega)
        obtain ⟨gb, _, rfl, _⟩ := hox2 (by omega)
        clear hox1 hox2
        have hnc : ¬ (((8 : Nat) : Int) < 8) := by omega
        obtain ⟨p0, p1, p2, p3⟩ := box4 S.out.pb
        have A8 := Lib.hid (Eight.of R.out.r1 S.out.up hku)
        have B8 := Lib.hid (Eight.of R.out.r2 (u := intT x) (TP.leaf _ _ 2 x ⟨#[]⟩) (by decide))
        have hle := nodes_subst u (nodes_pos u hug) t
        have hmul : t.nodes * u.nodes ≤ 1000 * 1000 := Nat.mul_le_mul htn hun
        have hcn : (substT u t).nodes ≤ 2000000 := by omega
        obtain ⟨hcr, hca⟩ := subst_inR u ⟨hur, hua⟩ t htr hta
        obtain ⟨hdr, hda⟩ := subst_inR (intT x) ⟨⟨hx, fun i h => absurd h (by omega)⟩, ⟨fun h => absurd h (by decide), fun i h => absurd h (by omega)⟩⟩ t htr hta
        have EQ := Lib.hid (evT_subst u x HE.out t)
        clear hle hmul
        obtain ⟨x1, fk, fn, fs, hev⟩ : ∃ (x1 fk fn : Int) (fs : ByteArray), evPair (evT (substT u t)) = .returned (.tuple #[.int .i64 x1, .agg #[.int .i64 fk, .string fs, .int .i64 fn]]) := by
          cases evT (substT u t) with
          | val x => exact ⟨_, _, _, _, rfl⟩
          | flt k s n => exact ⟨_, _, _, _, rfl⟩
        have EV := Lib.hid hev
        clear hev
        go_wp2_with fail
        refine (subst_any u t htg (by omega) _ _ (fun _ => True) ga oc1 S.out.tp A8.out).mono ?_
        rintro e w12 ⟨⟨v12, rfl, hv12⟩, h12⟩
        obtain ⟨e0, e1, e2, B0, n0, d0, rfl⟩ := hv12.agg
        have S12 := Lib.hid ((S.out.below h12).alloc (Obj.cells #[.int .i64 e0, .int .i64 e1, .string e2, .slice B0 n0 d0] 29))
        have E12 := Lib.hid ((B8.out.below h12).below ((Below.refl _ _).alloc (Nat.le_refl _) (Obj.cells #[.int .i64 e0, .int .i64 e1, .string e2, .slice B0 n0 d0] 29)))
        have T12 := Lib.hid ((hv12.more (S' := fun _ => True) fun _ _ => trivial).below ((Below.refl _ _).alloc (Nat.le_refl _) (Obj.cells #[.int .i64 e0, .int .i64 e1, .string e2, .slice B0 n0 d0] 29)))
        have X12 := Lib.hid (heap_alloc_new w12 (Obj.cells #[.int .i64 e0, .int .i64 e1, .string e2, .slice B0 n0 d0] 29))
        have hs12 := h12.size
        clear h12 hv12 p0 p1 p2 p3 q0 q1 q2 q3 A8 B8 R S
        go_wp2_with fail
        refine (tsize_any (substT u t) hcn _ _ T12.out.tin).mono ?_
        rintro e w13 ⟨⟨z, rfl, hz⟩, h13⟩
        have S13 := Lib.hid (S12.out.below h13)
        have E13 := Lib.hid (E12.out.below h13)
        have T13 := Lib.hid (T12.out.below h13)
        have X13 := Lib.hid ((h13.block w12.heap.size (by simp)).trans X12.out)
        have hs13 := h13.size
        simp at hs13
        clear h13 S12 E12 T12 X12
        by_cases hz1 : 1000 < (z : Int)
        · go_wp2_with fail
          go_ret
          exact ⟨rfl, S13.out.low⟩
        obtain ⟨c0, c1, c2', c3⟩ := box4 X13.out
        go_wp2_with fail
        refine (eval_any (substT u t) _ _ T13.out.tin hcr).mono ?_
        rintro e w14 ⟨rfl, h14⟩
        rw [EV.out]
        have S14 := Lib.hid ((S13.out.below h14).alloc (Obj.cells #[.int .i64 fk, .string fs, .int .i64 fn] 31))
        have E14 := Lib.hid ((E13.out.below h14).below ((Below.refl _ _).alloc (Nat.le_refl _) (Obj.cells #[.int .i64 fk, .string fs, .int .i64 fn] 31)))
        have X14 := Lib.hid (heap_alloc_new w14 (Obj.cells #[.int .i64 fk, .string fs, .int .i64 fn] 31))
        have hs14 := h14.size
        clear h14 S13 E13 T13 X13 c0 c1 c2' c3
        obtain ⟨p0, p1, p2, p3⟩ := box4 S14.out.pb
        have EV2 := Lib.hid (show evPair (evT (substT (intT x) t)) = _ from EQ.out ▸ EV.out)
        go_wp2_with fail
        refine (subst_any (intT x) t htg (by omega) _ _ (fun _ => True) gb oc2 S14.out.tp E14.out).mono ?_
        rintro e w15 ⟨⟨v15, rfl, hv15⟩, h15⟩
        obtain ⟨e3, e4, e5, B5, n5, d5, rfl⟩ := hv15.agg
        have S15 := Lib.hid (S14.out.below h15)
        have E15 := Lib.hid (E14.out.below h15)
        have X15 := Lib.hid ((h15.block w14.heap.size (by simp)).trans X14.out)
        have T15 := Lib.hid (hv15.more (S' := fun _ => True) fun _ _ => trivial)
        have hs15 := h15.size
        simp at hs15
        clear h15 hv15 S14 E14 X14 p0 p1 p2 p3
        go_wp2_with fail
        refine (eval_any (substT (intT x) t) _ _ T15.out.tin hdr).mono ?_
        rintro e w16 ⟨rfl, h16⟩
        rw [EV2.out]
        have S16 := Lib.hid ((S15.out.below h16).alloc (Obj.cells #[.int .i64 fk, .string fs, .int .i64 fn] 31))
        have E16 := Lib.hid ((E15.out.below h16).below ((Below.refl _ _).alloc (Nat.le_refl _) (Obj.cells #[.int .i64 fk, .string fs, .int .i64 fn] 31)))
        have X16 := Lib.hid ((Below.heap_alloc w16 (Obj.cells #[.int .i64 fk, .string fs, .int .i64 fn] 31) w14.heap.size (by have := h16.size; omega)).trans ((h16.block w14.heap.size (by omega)).trans X15.out))
        have Y16 := Lib.hid (heap_alloc_new w16 (Obj.cells #[.int .i64 fk, .string fs, .int .i64 fn] 31))
        have hs16 := h16.size
        clear h16 S15 E15 X15 T15
        obtain ⟨p0, p1, p2, p3⟩ := box4 S16.out.pb
        go_wp2_with fail
        refine (subst_any (intT x) t htg (by omega) _ _ (fun _ => True) gb oc2 S16.out.tp E16.out).mono ?_
        rintro e w17 ⟨⟨v17, rfl, hv17⟩, h17⟩
        obtain ⟨e6, e7, e8, B8, n8, d8, rfl⟩ := hv17.agg
        have S17 := Lib.hid (S16.out.below h17)
        have X17 := Lib.hid ((h17.block w14.heap.size (by simp; omega)).trans X16.out)
        have Y17 := Lib.hid ((h17.block w16.heap.size (by simp)).trans Y16.out)
        have T17 := Lib.hid (hv17.more (S' := fun _ => True) fun _ _ => trivial)
        have hs17 := h17.size
        simp at hs17
        clear h17 hv17 S16 E16 X16 Y16 p0 p1 p2 p3
        go_wp2_with fail
        refine (refEval_any (substT (intT x) t) hdr hda _ _ T17.out.tin).mono ?_
        rintro e w18 ⟨rfl, h18⟩
        rw [EV2.out]
        have S18 := Lib.hid (S17.out.below h18)
        have X18 := Lib.hid ((h18.block w14.heap.size (by omega)).trans X17.out)
        have Y18 := Lib.hid ((h18.block w16.heap.size (by omega)).trans Y17.out)
        have hs18 := h18.size
        clear h18 S17 X17 Y17 T17
        obtain ⟨z0, z1, z2⟩ := box3 X18.out
        obtain ⟨y0, y1, y2⟩ := box3 Y18.out
        have hl14 : w14.heap.size < w18.heap.size := by omega
        have hl16 : w16.heap.size < w18.heap.size := by omega
        go_wp2_with fail
        go_ret
        exact ⟨rfl, (S18.out.alloc _).low⟩
end Go.Proofs.Ytifjdfdjojkagaa
