/- The walk through the law StoreNested. -/
import Derived.Test.YtgoedlbdnmhppaaStBack
import Derived.SliceStrings
namespace Go.Proofs.Ytgoedlbdnmhppaa
open Go.RowKit
attribute [local go_sem ↓] Go.wp_at_zero Go.wp_at_succ
/-- The program's store alone, with what its marks bring back. -/
structure PS (B : Nat) (w : World) (sb : Nat) (C : List CV) (R : List (CV × Nat)) (Hs : List MK) : Prop where
  sm : SM w B sb C R (Hs.map MK.m)
  tr : ∀ e ∈ R, e.2 < C.length
  hp : ∀ (k : Nat) (h : MK), Hs[k]? = some h → Hp C R h
  hw : ∀ (k : Nat) (h : MK), Hs[k]? = some h → Hw w h
  mono : ∀ (j k : Nat) (h h' : MK), j ≤ k → Hs[j]? = some h → Hs[k]? = some h' → h.r ≤ h'.r ∧ h.v ≤ h'.v
theorem LS.ps {B : Nat} {w : World} {sb rb : Nat} {C : List CV} {R : List (CV × Nat)} {p : PV} {L : Bs} {As : List T} {Hs : List MK} (h : LS B w sb rb C R p L As Hs) : PS B w sb C R Hs := ⟨h.sm, h.tr, h.hp, h.hw, h.mono⟩
theorem PS.below {B : Nat} {w w' : World} {sb : Nat} {C : List CV} {R : List (CV × Nat)} {Hs : List MK} (h : PS B w sb C R Hs) (hb : Below w.heap.size w w') : PS B w' sb C R Hs := ⟨h.sm.below hb, h.tr, h.hp, fun k g hg => (h.hw k g hg).below hb, h.mono⟩
theorem PS.undo {B : Nat} {w w1 : World} {sb k : Nat} {C : List CV} {R : List (CV × Nat)} {Hs : List MK} {g : MK} (h : PS B w sb C R Hs) (hk : Hs[k]? = some g)
    (h1 : SM w1 B sb ((backC C (R.drop g.r)).take g.v) (R.take g.r) ((Hs.map MK.m).take (k + 1))) (f1 : SF B w w1) : PS B w1 sb g.C (R.take g.r) (Hs.take (k + 1)) := by
  have hg := h.hp k g hk
  rw [backC_take, hg.back] at h1
  have hlt := lt_of_at hk
  have key : ∀ (j : Nat) (x : MK), (Hs.take (k + 1))[j]? = some x → Hs[j]? = some x ∧ j ≤ k := fun j x hx => by
    rw [List.getElem?_take] at hx
    split at hx
    · exact ⟨hx, by omega⟩
    · cases hx
  refine ⟨by rw [List.map_take]; exact h1, fun e he => by have := hg.tr e he; have := hg.len; omega, fun j x hx => ?_, fun j x hx => ?_, fun i j x x' hij hi hj => ?_⟩
  · obtain ⟨hx, hjk⟩ := key j x hx
    obtain ⟨h3, h4⟩ := h.mono j k x g hjk hx hk
    exact (h.hp j x hx).undo hg h3 h4
  · exact (h.hw j x (key j x hx).1).sf f1
  · exact h.mono i j x x' hij (key i x hi).1 (key j x' hj).1
theorem PS.size {B : Nat} {w : World} {sb : Nat} {C : List CV} {R : List (CV × Nat)} {Hs : List MK} (h : PS B w sb C R Hs) : B ≤ w.heap.size ∧ sb < w.heap.size := by
  obtain ⟨_, _, _, hl⟩ := h.sm.lenAt
  have := h.sm.ge
  exact ⟨by omega, hl⟩
theorem pundoS {B : Nat} {wr : World} {sb : Nat} {C : List CV} {R : List (CV × Nat)} {Hs : List MK} (F : PS B wr sb C R Hs) (hR : R.length ≤ 1000000) (hC : C.length ≤ 1000000) (hM : Hs.length ≤ 1000000) {k : Nat} {g : MK} (hk : Hs[k]? = some g) :
    Calls Try.prog 18 #[.pointer (some ⟨sb, 0, none⟩), .int .i64 (k : Int)] wr fun e w' => e = .returned (.int .i64 0) ∧ PS B w' sb g.C (R.take g.r) (Hs.take (k + 1)) ∧ Hw w' g ∧ SF B wr w' := by
  have hp := F.hp k g hk
  have hrl : (R.take g.r).length = g.r := by rw [List.length_take, Nat.min_eq_left hp.r]
  refine (sundo_any (R1 := R.take g.r) (R2 := R.drop g.r) (v := g.v) (k := k) (by rw [List.take_append_drop]; exact F.sm) (fun e he => F.tr e (List.mem_of_mem_drop he)) (by rw [List.take_append_drop]; exact hR) hC (by simpa using hM) (by rw [hrl, List.getElem?_map, hk]; rfl) hp.v).mono fun _ _ ⟨h1, h2, h3⟩ => ⟨h1, F.undo hk h2 h3, (F.hw k g hk).sf h3, h3⟩
/-- All blocks but the pointers' stand. -/
def Kp (w w' : World) : Prop := ∀ (k : Nat) (cs : Array Value) (ty : TypeId) (f : Nat × Nat), w.heap[k]? = some (.cells cs ty f) → ty ≠ 25 → w'.heap[k]? = some (.cells cs ty f)
theorem LS.keepT {B : Nat} {w w' : World} {sb rb : Nat} {C : List CV} {R : List (CV × Nat)} {p : PV} {L : Bs} {As : List T} {Hs : List MK} (h : LS B w sb rb C R p L As Hs) (hk : Kp w w') : LS B w' sb rb C R p L As Hs := by
  have ht : ∀ {S : Nat → Prop} {t : T} {v : Value}, TP w S t v → TP w' S t v := fun h => h.keep fun b cs f hS hh => ⟨hk _ _ _ _ hh (by decide), hS⟩
  have hpa : ∀ {q : PV} {L : Bs} {A : List T}, PA w q L A → PA w' q L A := fun h => h.keep fun k cs ty f hh hty => hk k cs ty f hh (by rcases hty with rfl | rfl <;> decide)
  exact ⟨h.sm.keep fun k cs ty f hh hty => hk k cs ty f hh (by rcases hty with rfl | rfl | rfl | rfl <;> decide), h.rm.keep fun k cs ty f hh hty => hk k cs ty f hh (by rcases hty with rfl | rfl <;> decide), hpa h.pa, h.cl.keep ht, h.at_.keep ht, h.tr, h.hp, fun k g hg => (h.hw k g hg).keep ht hpa, h.mono⟩
theorem Kp.grown {w w' : World} {B k n : Nat} {v : Value} {xs : List Value} (hx : w.ownsRow B 25 k v n xs) (hg : w.grownBy w' v.ownBlock) : Kp w w' := fun g cs ty f hh hne => by
  refine (hg.block g (heap_lt hh) fun h => ?_).trans hh
  obtain ⟨cs', f', hh'⟩ := Go.Lib.ownsRow_kind hx g h.symm
  rw [hh] at hh'
  injection hh' with hh'
  injection hh' with _ hh'
  exact hne hh'
theorem Kept.kp {w w' : World} {kb : Nat} {q : PV} (h : Kept w kb q) (hk : Kp w w') : Kept w' kb q := hk _ _ _ _ h (by decide)
def ptrOf (k : Nat) : Value := .pointer (some ⟨k, 0, none⟩)
/-- The row of the states that are kept. -/
structure ST (w : World) (B rb : Nat) (v : Value) (Hs : List MK) : Prop where
  ex : ∃ ks : List Nat, w.ownsRow B 25 1 v Hs.length (ks.map ptrOf) ∧ ks.length = Hs.length ∧ ∀ (j k : Nat) (g : MK), ks[j]? = some k → Hs[j]? = some g → k ≠ rb ∧ Kept w k g.q
theorem ST.kb {w w' : World} {B rb : Nat} {v : Value} {Hs : List MK} (h : ST w B rb v Hs) (hk : Kb rb w w') : ST w' B rb v Hs := by
  obtain ⟨ks, h1, h2, h3⟩ := h.ex
  refine ⟨ks, own_keep h1 fun g hg => ?_, h2, fun j k g hj hg => ⟨(h3 j k g hj hg).1, (h3 j k g hj hg).2.kb hk (h3 j k g hj hg).1⟩⟩
  obtain ⟨cs, f, hh⟩ := Go.Lib.ownsRow_kind h1 g hg
  exact (hk g _ hh (notSt_of (by decide)) (notRf_of (by decide))).trans hh.symm
theorem hs_same {Hs Hs' : List MK} (hl : Hs'.length ≤ Hs.length) (hk : ∀ (m : Nat) (g : MK), Hs[m]? = some g → Hs'[m]? = some g) : Hs' = Hs := by
  apply List.ext_getElem?
  intro i
  cases h : Hs[i]? with
  | some g => exact hk i g h
  | none =>
    have : Hs.length ≤ i := by
      rcases Nat.lt_or_ge i Hs.length with h1 | h1
      · rw [List.getElem?_eq_getElem h1] at h; cases h
      · exact h1
    exact List.getElem?_eq_none (by omega)
/-- One state more: what the append leaves. -/
theorem ST.push {w w' : World} {B rb kb : Nat} {v' : Value} {Hs : List MK} {g : MK} {ks : List Nat} (h3 : ∀ (j k : Nat) (g : MK), ks[j]? = some k → Hs[j]? = some g → k ≠ rb ∧ Kept w k g.q) (h2 : ks.length = Hs.length) (hk : Kp w w') (hn : w'.ownsRow B 25 1 v' (Hs.length + 1) (ks.map ptrOf ++ [.pointer (some ⟨kb, 0, none⟩)])) (hne : kb ≠ rb) (hx : Kept w kb g.q) : ST w' B rb v' (Hs ++ [g]) := by
  refine ⟨ks ++ [kb], by simpa [ptrOf] using hn, by simp [h2], fun j k x hj hg => ?_⟩
  by_cases hlt : j < ks.length
  · rw [List.getElem?_append_left hlt] at hj
    rw [List.getElem?_append_left (by omega)] at hg
    exact ⟨(h3 j k x hj hg).1, (h3 j k x hj hg).2.kp hk⟩
  · rw [List.getElem?_append_right (by omega)] at hj hg
    obtain rfl : j = ks.length := by
      rcases Nat.eq_zero_or_pos (j - ks.length) with h | h
      · omega
      · rw [List.getElem?_eq_none (by simp; omega)] at hj; cases hj
    simp [h2] at hj hg
    subst hj; subst hg
    exact ⟨hne, hx.kp hk⟩
/-- A state read. -/
theorem ST.at_ {w : World} {B rb : Nat} {v : Value} {Hs : List MK} (h : ST w B rb v Hs) {j : Nat} {g : MK} (hj : Hs[j]? = some g) : ∃ (b c kb : Nat), v = .slice (some ⟨b, 0, none⟩) Hs.length c ∧ b < w.heap.size ∧ w.cell? ⟨b, j, none⟩ = some (.pointer (some ⟨kb, 0, none⟩)) ∧ Hs.length ≤ c ∧ kb ≠ rb ∧ Kept w kb g.q := by
  obtain ⟨ks, h1, h2, h3⟩ := h.ex
  have hl := lt_of_at hj
  obtain ⟨k, hk⟩ : ∃ k, ks[j]? = some k := ⟨_, List.getElem?_eq_getElem (by omega)⟩
  rcases h1.2 with ⟨_, h0⟩ | ⟨b, c, cur, rfl, _, hh, hc, _, _, ht⟩
  · omega
  · refine ⟨b, c, k, rfl, heap_lt hh, ?_, hc, (h3 j k g hk hj).1, (h3 j k g hk hj).2⟩
    have h4 : (ks.map ptrOf)[j]? = some (ptrOf k) := by rw [List.getElem?_map, hk]; rfl
    rw [← ht, List.getElem?_take] at h4
    split at h4
    · rw [cell_of_row w b j _ _ _ hh, ← Array.getElem?_toList]
      exact h4
    · cases h4
theorem ST.cell {w : World} {B rb b n c : Nat} {Hs : List MK} (h : ST w B rb (.slice (some ⟨b, 0, none⟩) n c) Hs) {j : Nat} {g : MK} (hj : Hs[j]? = some g) : n = Hs.length ∧ b < w.heap.size ∧ n ≤ c ∧ ∃ kb, w.cell? ⟨b, j, none⟩ = some (.pointer (some ⟨kb, 0, none⟩)) ∧ kb ≠ rb ∧ Kept w kb g.q := by
  obtain ⟨b', c', kb, hv, h1, h2, h3, h4, h5⟩ := h.at_ hj
  injection hv with e1 e2 e3
  injection e1 with e1
  injection e1 with e1
  subst e1; subst e2; subst e3
  exact ⟨rfl, h1, h3, kb, h2, h4, h5⟩
theorem Try.info_pst : (Try.prog.info? 25).map (fun i => (i.zero, i.size, i.bytes)) = some (some (.pointer none), 1, 8) := by kernel_rfl
theorem elPst : El Try.prog 56 25 (.pointer none) 1 8 := by
  obtain ⟨i0, hi, hz0, hz1, hz2⟩ := info_parts Try.info_pst
  exact ⟨Try.underlying56, ⟨i0, hi, hz0, hz1, hz2⟩, rfl, by omega⟩
/-- 'out = append(out, x)', x of one cell: what the append leaves is told by 'grownBy'. -/
theorem wpList_push3 {P : Program} (w : World) {ops : Array Oper} {rest : List Oper} {o : Oper} {a : Act} {Q : Exit → Act → World → Prop} (hgd : o.guard = none) (s x : Operand) (t : TypeId)
    (ho : o.op = .call { callee := .builtin .append, args := #[s, x], argTypes := #[t, t] })
    {e : TypeId} {z : Value} {bytes : Nat} (E : El P t e z 1 bytes) (base : Nat)
    (v : Value) (n : Nat) (xs : List Value) (hs : a.eval s = v) (hown : w.ownsRow base e 1 v n xs)
    (g c : Nat) (u : Value) (hx : a.eval x = .slice (some ⟨g, 0, none⟩) 1 c) (hu : w.cell? ⟨g, 0, none⟩ = some u) (h1 : u.oneCell' = true)
    (hn : (n + 1) * bytes ≤ 140737488355328) (hm : n + 1 ≤ maxLen) (hbase : base ≤ w.heap.size)
    (h : ∀ v' w', w'.ownsRow base e 1 v' (n + 1) (xs ++ [u]) → w.grownBy w' v.ownBlock → wpList P ops Q rest (a.put o.dst v') w') : wpList P ops Q (o :: rest) a w := by
  obtain ⟨i, hi, hz, hsz, hby⟩ := E.hi
  refine wpList_append_own w hgd s x t ho base e i z 1 bytes E.ht hi hz hsz hby E.hzs (by omega) v n xs hs hown ⟨g, 0, none⟩ 1 c [u] hx rfl ?_ ?_ hm hn hbase fun v' w' h2 h3 _ => h v' w' h2 h3
  · intro j u' hj
    match j, hj with
    | 0, hj => simp at hj; subst hj; simpa [Addr.add] using hu
  · intro u' hu'
    simp at hu'
    subst hu'
    exact h1
/-- A row of texts that a law is given. -/
structure Texts (w : World) (A : Option Addr) (m c : Nat) (z : Nat → ByteArray) : Prop where
  cap : m ≤ c
  few : (m : Int) ≤ 9223372036854775807
  at_ : 0 < m → ∃ b off, A = some ⟨b, off, none⟩ ∧ b < w.heap.size ∧ ∀ i, i < m → w.cell? ⟨b, off + i, none⟩ = some (.string (z i))
theorem pair_undone {B : Nat} {w1 : World} {sb : Nat} {C' : List CV} {R : List (CV × Nat)} {Hs : List MK} {g : MK} {kb : Nat} (F : PS B w1 sb C' R Hs) (hw : Hw w1 g) (hc : C' = g.C) (hx : Kept w1 kb g.q) : Twin B 0 w1 sb kb C' R (Hs.map MK.m) g.q [] g.L g.A := by
  subst hc
  exact ⟨F.sm, hx.rm, hw.pa, hw.cl, hw.at_⟩
set_option maxRecDepth 100000 in
set_option maxHeartbeats 16000000 in
theorem stnested_any {w : World} {A : Option Addr} {m c : Nat} {z : Nat → ByteArray} (h : Texts w A m c z) (a : Nat) (ha : a ≤ 255) :
    Calls Try.prog 7 #[.slice A m c, .int .u8 (a : Int)] w fun e w' => e = .returned (.bool true) ∧ Below w.heap.size w w' := by
  have HZ := Lib.hid h
  have hmc := h.cap
  have hfew := h.few
  clear h
  go_enter Try.func7, Try.ntmps7
  go_wp2_with fail
  go_loopw [5, 6] (fun nv iv wr => ∃ (n : Int) (i : Nat), nv = .int .i64 n ∧ iv = .int .i64 (i : Int) ∧ i ≤ m ∧ 0 ≤ n ∧ (n ≤ 1049600 ∨ n ≤ m) ∧ w = wr) (fun _ iv _ => m - (intOf iv).toNat)
  case atStart => exact ⟨m, 0, rfl, rfl, Nat.zero_le _, by omega, .inr (Int.le_refl _), rfl⟩
  case round =>
    obtain ⟨n, i, rfl, rfl, hi, hn0, hn1, rfl⟩ := hrel
    have HN := Lib.hid hn1
    clear hn1
    by_cases him : (i : Int) < (m : Int)
    · by_cases hle : n ≤ 1024
      · obtain ⟨b, off, rfl, hbl, hcz⟩ := HZ.out.at_ (by omega)
        have z2 := hcz i (by omega)
        obtain ⟨s, hs⟩ : ∃ s, s = z i := ⟨_, rfl⟩
        rw [← hs] at z2
        clear hcz hs
        go_wp2_with fail
        obtain ⟨v, hv, hv0, hv1⟩ : ∃ v : Int, v = (if 1048576 < (s.size : Int) then 1048576 else (s.size : Int)) ∧ 0 ≤ v ∧ v ≤ 1048576 := ⟨_, rfl, by split <;> omega, by split <;> omega⟩
        rw [← hv]
        exact ⟨⟨n + v, i + 1, rfl, by go_num, by omega, by omega, .inl (by omega), trivial⟩, by simp only [intOf]; omega⟩
      · have hA : 1024 < n := by omega
        go_wp2_with fail
        go_ret
        exact ⟨rfl, Below.refl _ _⟩
    · by_cases hA : 1024 < n
      · go_wp2_with fail
        go_ret
        exact ⟨rfl, Below.refl _ _⟩
      by_cases hB : (20 : Int) < (m : Int)
      · go_wp2_with fail
        go_ret
        exact ⟨rfl, Below.refl _ _⟩
      cases hC : ((m : Int) == 0)
      case true =>
        go_wp2_with fail
        go_ret
        exact ⟨rfl, Below.refl _ _⟩
      have hm0 : 0 < m := by simp at hC; omega
      have hm20 : m ≤ 20 := by omega
      clear HN hn0 hi
      go_wp2_with fail
      clear him hA hB hC
      refine (snew_any w).mono ?_
      rintro e w1 ⟨rfl, hs1, h1⟩
      have S1 := Lib.hid hs1
      have H1 := Lib.hid h1
      clear hs1 h1
      go_wp2_with fail
      refine (rnew9_any w1).mono ?_
      rintro e w2 ⟨rfl, hr2, h2⟩
      obtain ⟨rb, hrb⟩ : ∃ rb, rb = w1.heap.size := ⟨_, rfl⟩
      have F2 := Lib.hid (show LS w.heap.size w2 w.heap.size rb [] [] PV.zero [] [] [] from LS.start (w1 := w1) S1.out (by rw [hrb]; exact ⟨⟨hr2.ex.choose, hr2.ex.choose_spec.choose, hr2.ex.choose_spec.choose_spec.1, ownsRow_more hr2.ex.choose_spec.choose_spec.2 H1.out.size⟩, Nat.le_trans H1.out.size hr2.ge⟩) (RF.below H1.out.size h2))
      have B2 := Lib.hid (H1.out.trans (h2.mono H1.out.size))
      rw [← hrb]
      clear hr2 h2 S1 H1 hrb
      go_wp2_with fail
      refine (pfresh1 F2.out (by simp) 6 _ (Below.refl _ _)).mono ?_
      rintro e w3 ⟨rfl, hs3, hf3⟩
      have S3 := Lib.hid hs3
      have E3 := Lib.hid hf3
      clear hs3 hf3
      go_wp2_with fail
      refine (pfresh2 F2.out (by simp) 6 S3.out E3.out _ (Below.refl _ _)).mono ?_
      rintro e w4 ⟨rfl, p4, hF4, hb4⟩
      obtain ⟨C0, hC0⟩ : ∃ C0, C0 = ([] ++ List.replicate (fresh 6) CV.zero : List CV) := ⟨_, rfl⟩
      obtain ⟨As0, hAs0⟩ : ∃ As0, As0 = ([] ++ List.replicate (fresh 6) noneT : List T) := ⟨_, rfl⟩
      have hl6 : C0.length = 6 := by rw [hC0, show fresh 6 = 6 by decide]; rfl
      rw [← hC0, ← hAs0] at hF4
      have B4 := Lib.hid (belS (B2.out.trans hb4) (Obj.cells #[] 25))
      have B4a := Lib.hid (belS (Below.refl w4.heap.size w4) (Obj.cells #[] 25))
      have F4 := Lib.hid (hF4.below B4a.out)
      have ST4 := Lib.hid (show ST (w4.alloc (Obj.cells #[] 25)) w.heap.size rb (.slice (some ⟨w4.heap.size, 0, none⟩) 0 0) [] from ⟨[], ownsRow_more (ownsRow_empty _ _ _ _ (heap_alloc_new _ _)) (by have := hF4.size.1; omega), rfl, fun j k g hj => by simp at hj⟩)
      clear hF4 hb4 F2 B2 S3 E3 hC0 hAs0 B4a
      go_wp2_with fail
      go_loopw [9, 10] (fun vv iv wr => ∃ (i : Nat) (C : List CV) (R : List (CV × Nat)) (p : PV) (L : Bs) (As : List T) (Hs : List MK), iv = .int .i64 (i : Int) ∧ i ≤ m ∧ C.length ≤ 6 + 1000 * i ∧ R.length ≤ 4000 * i ∧ Hs.length = i ∧ LS w.heap.size wr w.heap.size rb C R p L As Hs ∧ ST wr w.heap.size rb vv Hs ∧ (i = 0 → C.length = 6) ∧ (∀ g, Hs[0]? = some g → g.C.length = 6) ∧ Below w.heap.size w wr) (fun _ iv _ => m - (intOf iv).toNat)
      case atStart => exact ⟨0, C0, [], p4, [], As0, [], rfl, Nat.zero_le _, by omega, by simp, rfl, F4.out, ST4.out, fun _ => hl6, (fun g h => by simp at h), B4.out⟩
      case round =>
        clear F4 B4 ST4 hl6
        obtain ⟨i, C, R, p, L, As, Hs, rfl, hi, hC, hR, hH, hf, hst, h60, h6, hb⟩ := hrel
        have F := Lib.hid hf
        have HB := Lib.hid hb
        have S := Lib.hid hst
        have H60 := Lib.hid h60
        have H6 := Lib.hid h6
        have HH := Lib.hid hH
        have hHl : Hs.length ≤ 20 := by omega
        clear hf hb hst h60 h6 hH
        by_cases him : (i : Int) < (m : Int)
        · go_wp2_with fail
          refine (pmark1 F.out (by omega) _ (Below.refl _ _)).mono ?_
          rintro e w8 ⟨rfl, hs8, hf8⟩
          have S8 := Lib.hid hs8
          have E8 := Lib.hid hf8
          clear hs8 hf8
          go_wp2_with fail
          refine (pmark2x F.out (by omega) S8.out E8.out _ (Below.refl _ _)).mono ?_
          rintro e w9 ⟨rfl, hF9, hb9, hk9⟩
          obtain ⟨g, hg⟩ : ∃ g : MK, g = ⟨R.length, C.length, p, C, L, As⟩ := ⟨_, rfl⟩
          have hgq : g.q = p := by rw [hg]
          have hgC : g.C = C := by rw [hg]
          rw [← hg] at hF9
          have F9 := Lib.hid hF9
          have B9 := Lib.hid (HB.out.trans hb9)
          have S9 := Lib.hid (S.out.kb hk9)
          have HGQ := Lib.hid hgq
          have HGC := Lib.hid hgC
          obtain ⟨_, _, k0, k1, k2, _, _, kl, _, _⟩ := F9.out.rm.box
          obtain ⟨ks, o1, o2, o3⟩ := S9.out.ex
          have O1 := Lib.hid o1
          have O2 := Lib.hid o2
          have O3 := Lib.hid o3
          clear hF9 hb9 hk9 S8 E8 hg hgq hgC o1 o2 o3 F HB
          have hbs := F9.out.size.1
          go_wp2_with (at_builtin; go_must (refine wpList_push3 _ rfl _ _ _ rfl elPst w.heap.size _ _ _ rfl ((O1.out.alloc _).alloc _) _ _ (.pointer (some ⟨w9.heap.size, 0, none⟩)) rfl (by simp [go_sem]) rfl (by omega) (by unfold maxLen; omega) (by simp; omega) ?_); intro v1 wA hown1 hgr1)
          have BK1 := Lib.hid (belS (belS (Below.refl w9.heap.size w9) (Obj.cells #[.int .i64 (p.n : Int), .slice p.LA p.ln p.lc, .slice p.AA p.am p.ac, .slice none 0 0] 35)) (Obj.cells #[.pointer (some ⟨w9.heap.size, 0, none⟩)] 25))
          have K1 := Lib.hid (Kp.grown ((O1.out.alloc _).alloc _) hgr1)
          have F10 := Lib.hid ((F9.out.below BK1.out).keepT K1.out)
          have X10 := Lib.hid (show Kept ((w9.alloc (Obj.cells #[.int .i64 (p.n : Int), .slice p.LA p.ln p.lc, .slice p.AA p.am p.ac, .slice none 0 0] 35)).alloc (Obj.cells #[.pointer (some ⟨w9.heap.size, 0, none⟩)] 25)) w9.heap.size g.q by rw [HGQ.out]; exact (Below.heap_alloc _ _ _ (by simp)).trans (heap_alloc_new _ _))
          have hne : w9.heap.size ≠ rb := by omega
          have S10 := Lib.hid (ST.push (rb := rb) (fun j k x hj hg => ⟨(O3.out j k x hj hg).1, (O3.out j k x hj hg).2.below BK1.out⟩) O2.out K1.out hown1 hne X10.out)
          have B10 := Lib.hid (B9.out.trans ((BK1.out.mono hbs).trans (below_own ((O1.out.alloc _).alloc _) hgr1 (by simp; omega))))
          obtain ⟨Hn, hHn⟩ : ∃ Hn, Hn = Hs ++ [g] := ⟨_, rfl⟩
          rw [← hHn] at F10 S10
          have hnl : Hn.length = i + 1 := by have := HH.out; rw [hHn]; simp; omega
          have N60 := Lib.hid (show ∀ x, Hn[0]? = some x → x.C.length = 6 from fun x hx => by
            rw [hHn] at hx
            rcases Nat.eq_zero_or_pos i with h0 | h0
            · have hHs : Hs = [] := List.eq_nil_of_length_eq_zero (by have := HH.out; omega)
              rw [hHs] at hx
              simp at hx
              rw [← hx, HGC.out]
              exact H60.out h0
            · rw [List.getElem?_append_left (by have := HH.out; omega)] at hx
              exact H6.out x hx)
          have HNL := Lib.hid hnl
          have hnl' : Hn.length ≤ 21 := by omega
          obtain ⟨b, off, rfl, hbl, hcz⟩ := HZ.out.at_ hm0
          have z2 := hcz i (by omega)
          obtain ⟨s, hs⟩ : ∃ s, s = z i := ⟨_, rfl⟩
          rw [← hs] at z2
          have y2 := (B10.out.cell (p := ⟨b, off + i, none⟩) hbl).trans z2
          have hbl' := Nat.lt_of_lt_of_le hbl B10.out.size
          clear hown1 hgr1 BK1 K1 X10 F9 B9 S9 O1 O2 O3 hHn hnl HGQ HGC k0 k1 k2 kl hne hbs S H60 H6 HH hHl hcz hs
          have HZ2 := Lib.hid z2
          have HBL := Lib.hid hbl
          clear z2 hbl
          have CS1 := Lib.hid (step_any F10.out (by omega) (by omega) (by omega) 1 0 s)
          go_wp2_with fail
          go_simp
          go_wp2_with fail
          refine CS1.out.mono ?_
          rintro e w11 ⟨rfl, C1, R1, p1, L1, As1, Hs1, q1, q2, q3, q4, q5, hF11, hb11, hkb11, q6⟩
          obtain rfl : Hs1 = Hn := hs_same (q6 (by decide)) (fun m x hx => q5 m x (fun e => absurd e (by decide)) hx)
          have F11 := Lib.hid hF11
          have B11 := Lib.hid (B10.out.trans hb11)
          have S11 := Lib.hid (S10.out.kb hkb11)
          have hC1 := q2 (by decide)
          have hR1 := q3
          clear q1 q2 q3 q4 q5 q6 hF11 hb11 hkb11 F10 B10 S10 CS1 y2 hbl'
          have y2 := (B11.out.cell (p := ⟨b, off + i, none⟩) HBL.out).trans HZ2.out
          have hbl' := Nat.lt_of_lt_of_le HBL.out B11.out.size
          have CS2 := Lib.hid (step_any F11.out (by omega) (by omega) (by omega) 2 ((i : Int) % 6) s)
          go_wp2_with fail
          refine CS2.out.mono ?_
          rintro e w12 ⟨rfl, C2, R2, p2, L2, As2, Hs2, q1, q2, q3, q4, q5, hF12, hb12, hkb12, q6⟩
          obtain rfl : Hs2 = Hs1 := hs_same (q6 (by decide)) (fun m x hx => q5 m x (fun e => absurd e (by decide)) hx)
          have F12 := Lib.hid hF12
          have B12 := Lib.hid (B11.out.trans hb12)
          have S12 := Lib.hid (S11.out.kb hkb12)
          have hC2 := q2 (by decide)
          have hR2 := q3
          clear q1 q2 q3 q4 q5 q6 hF12 hb12 hkb12 F11 B11 S11 CS2 y2 hbl'
          obtain ⟨zv, C3, R3, Ms, C4, R4, L4, As4, Hs4, b1, b2, b3, b4, d1, d2⟩ := pair_fresh F12.out (by omega) 1
          obtain rfl : Hs4 = Hs2 := hs_same b3 (fun m x hx => b4 m x trivial hx)
          have D1 := Lib.hid d1
          have D2 := Lib.hid d2
          clear d1 d2 b3 b4
          go_wp2_with fail
          refine (D1.out _ (Below.refl _ _)).mono ?_
          rintro e w13 ⟨rfl, hs13, hf13⟩
          have S13 := Lib.hid hs13
          have E13 := Lib.hid hf13
          clear hs13 hf13
          go_wp2_with fail
          refine (D2.out _ S13.out E13.out _ (Below.refl _ _)).mono ?_
          rintro e w14 ⟨⟨rfl, p4', hF14, hb14⟩, hrf14⟩
          have F14 := Lib.hid hF14
          have B14 := Lib.hid (B12.out.trans hb14)
          have S14 := Lib.hid (S12.out.kb (Kb.trans (SF.kb E13.out) (RF.kb hrf14)))
          clear hF14 hb14 hrf14 S13 E13 F12 B12 S12 D1 D2
          go_wp2_with fail
          refine (lgreat_any F14.out.rm F14.out.pa).mono ?_
          rintro e w15 ⟨⟨b15, rfl⟩, h15⟩
          have F15 := Lib.hid (F14.out.below h15)
          have B15 := Lib.hid (B14.out.trans (h15.mono B14.out.size))
          have S15 := Lib.hid (S14.out.kb (Below.kb h15))
          clear h15 F14 B14 S14
          cases b15
          · go_wp2_with fail
            go_roundw
            case rel => exact ⟨i + 1, C4, R4, p4', L4, As4, _, by go_num, by omega, by omega, by omega, HNL.out, F15.out, S15.out, fun e => by omega, N60.out, B15.out⟩
            case measure => simp only [intOf]; omega
          · go_wp2_with fail
            go_ret
            exact ⟨rfl, B15.out⟩
        · have him' : i = m := by omega
          subst him'
          obtain ⟨k, hk⟩ : ∃ k : Nat, k = a % i := ⟨_, rfl⟩
          have hki : k < i := by rw [hk]; exact Nat.mod_lt _ hm0
          have hkv : (a : Int) % (i : Int) = (k : Int) := by rw [hk]; rfl
          have hHi : Hs.length = i := HH.out
          obtain ⟨g, hg⟩ : ∃ g, Hs[k]? = some g := ⟨_, List.getElem?_eq_getElem (by omega)⟩
          obtain ⟨sbk, scp, _, rfl, hsl, _, hsc, _, _⟩ := S.out.at_ hg
          have G := Lib.hid hg
          have P := Lib.hid F.out.ps
          have hCb : C.length ≤ 30000 := by omega
          have hRb : R.length ≤ 100000 := by omega
          have hkl : k < Hs.length := by omega
          have CU := Lib.hid (pundoS P.out (by omega) (by omega) (by omega) G.out)
          have hgC : g.C.length ≤ 30000 := by have h1 := (P.out.hp k g hg).len; have h2 := (P.out.hp k g hg).v; omega
          have HK := Lib.hid hk
          clear F P hg hC hR hHi hk him H60 HZ
          go_wp2_with fail
          simp only [hkv]
          clear hkv
          refine CU.out.mono ?_
          rintro e w1 ⟨rfl, hp1, hw1, hf1⟩
          have P1 := Lib.hid hp1
          have S1 := Lib.hid (S.out.kb (SF.kb hf1))
          have B1 := Lib.hid (HB.out.trans hf1.low)
          obtain ⟨_, s1, s2, kb, s3, s4, s5⟩ := S1.out.cell G.out
          have CA := Lib.hid (alike_any (pair_undone P1.out hw1 rfl s5))
          clear hp1 hw1 hf1 CU s4 s5 hsl S HB
          go_wp2_with fail
          refine CA.out.mono ?_
          rintro e w2 ⟨rfl, h2⟩
          have P2 := Lib.hid (P1.out.below h2)
          have S2 := Lib.hid (S1.out.kb (Below.kb h2))
          have B2 := Lib.hid (B1.out.trans (h2.mono B1.out.size))
          have hwk : IntKind.i64.wrap ((k : Int) + 1) = (k : Int) + 1 := by rw [IntKind.wrap_i64]; omega
          have CO := Lib.hid (sundo_out (n := (k : Int) + 1) P2.out.sm (.inr (by simp; omega)))
          clear h2 CA s1 s2 s3 P1 S1 B1
          go_wp2_with fail
          refine CO.out.mono ?_
          rintro e w2 ⟨rfl, rfl⟩
          have hgR : (R.take g.r).length ≤ 100000 := by simp; omega
          have hgl : (Hs.take (k + 1)).length = k + 1 := by simp; omega
          clear CO hwk
          go_wp2_with fail
          go_loopw [12] (fun jv wr => ∃ (j : Int) (C : List CV) (R : List (CV × Nat)) (Hk : List MK), jv = .int .i64 j ∧ -1 ≤ j ∧ j ≤ k ∧ j + 1 ≤ Hk.length ∧ Hk.length ≤ 21 ∧ C.length ≤ 30000 ∧ R.length ≤ 100000 ∧ PS w.heap.size wr w.heap.size C R Hk ∧ (∀ (x : Nat) (y : MK), Hk[x]? = some y → Hs[x]? = some y) ∧ ST wr w.heap.size rb (.slice (some ⟨sbk, 0, none⟩) Hs.length scp) Hs ∧ (j = -1 → C.length = 6) ∧ Below w.heap.size w wr) (fun jv _ => (intOf jv + 1).toNat)
          case atStart => exact ⟨k, _, _, _, rfl, by omega, Int.le_refl _, by omega, by omega, hgC, hgR, P2.out, (fun x y h => by rw [List.getElem?_take] at h; split at h <;> first | exact h | cases h), S2.out, fun h => by omega, B2.out⟩
          case round =>
            clear P2 S2 B2 hgC hgR hgl
            obtain ⟨j, C, R, Hk, rfl, hj0, hj1, hj2, hj3, hC, hR, hp, hsub, hst, h6, hb⟩ := hrel
            have P := Lib.hid hp
            have SB := Lib.hid hsub
            have S := Lib.hid hst
            have E6 := Lib.hid h6
            have HB := Lib.hid hb
            clear hp hsub hst h6 hb
            by_cases hjn : 0 ≤ j
            · obtain ⟨x, rfl⟩ : ∃ x : Nat, j = (x : Int) := ⟨j.toNat, by omega⟩
              obtain ⟨y, hy⟩ : ∃ y, Hk[x]? = some y := ⟨_, List.getElem?_eq_getElem (by omega)⟩
              have Y := Lib.hid hy
              have Y0 := Lib.hid (SB.out x y hy)
              have CU := Lib.hid (pundoS P.out (by omega) (by omega) (by omega) hy)
              have hyC : y.C.length ≤ 30000 := by have h1 := (P.out.hp x y hy).len; have h2 := (P.out.hp x y hy).v; omega
              have hyl : (Hk.take (x + 1)).length = x + 1 := by simp; omega
              have hyR : (R.take y.r).length ≤ 100000 := by simp; omega
              clear hy
              go_wp2_with fail
              refine CU.out.mono ?_
              rintro e w1 ⟨rfl, hp1, hw1, hf1⟩
              have P1 := Lib.hid hp1
              have S1 := Lib.hid (S.out.kb (SF.kb hf1))
              have B1 := Lib.hid (HB.out.trans hf1.low)
              obtain ⟨_, s1, s2, kb, s3, s4, s5⟩ := S1.out.cell Y0.out
              have CA := Lib.hid (alike_any (pair_undone P1.out hw1 rfl s5))
              have hxl : x < Hs.length := by omega
              clear hp1 hw1 hf1 CU s4 s5 S HB
              go_wp2_with fail
              refine CA.out.mono ?_
              rintro e w2 ⟨rfl, h2⟩
              have P2 := Lib.hid (P1.out.below h2)
              have S2 := Lib.hid (S1.out.kb (Below.kb h2))
              have B2 := Lib.hid (B1.out.trans (h2.mono B1.out.size))
              have hwx : IntKind.i64.wrap ((x : Int) - 1) = (x : Int) - 1 := by rw [IntKind.wrap_i64]; omega
              clear h2 CA s1 s2 s3 P1 S1 B1
              go_wp2_with fail
              go_roundw
              case rel => exact ⟨(x : Int) - 1, _, _, _, by first | rfl | rw [hwx], by omega, by omega, by omega, by omega, hyC, hyR, P2.out, (fun a b h => SB.out a b (by rw [List.getElem?_take] at h; split at h <;> first | exact h | cases h)), S2.out, (fun h => by
                obtain rfl : x = 0 := by omega
                exact H6.out y Y0.out), B2.out⟩
              case measure => simp only [intOf]; omega
            · have hc6 : (C.length : Int) = 6 := by have := E6.out (by omega); omega
              have CV := Lib.hid (svars_any P.out.sm)
              rw [hc6] at CV
              clear hc6
              go_wp2_with fail
              refine CV.out.mono ?_
              rintro e w2 ⟨rfl, rfl⟩
              go_wp2_with fail
              go_ret
              exact ⟨rfl, HB.out⟩
end Go.Proofs.Ytgoedlbdnmhppaa
