/- The program's store: what a run of bindings leaves; what it leaves alone. -/
import Derived.Test.YtgoedlbdnmhppaaSt9
import Derived.Test.YtgoedlbdnmhppaaStep
namespace Go.Proofs.Ytgoedlbdnmhppaa
open Go.RowKit

theorem backC_append (C : List CV) (X Y : List (CV × Nat)) : backC C (X ++ Y) = backC (backC C Y) X := by
  unfold backC; rw [List.foldr_append]
/-- Cells and trail, grown by bindings. -/
structure Grew (C C' : List CV) (R R' : List (CV × Nat)) (Ns : Bs) : Prop where
  ex : ∃ R2, R' = R ++ R2 ∧ backC C' R2 = C ∧ R2.map (fun e => (e.2 : Int)) = Ns.map Prod.fst ∧ ∀ e ∈ R2, e.2 < C.length
  len : C'.length = C.length
  at_ : ∀ (i : Nat) (c' : CV), C'[i]? = some c' → ∃ c : CV, C[i]? = some c ∧ c'.attr = c.attr
theorem Grew.refl (C : List CV) (R : List (CV × Nat)) : Grew C C R R [] := ⟨⟨[], by simp, rfl, rfl, fun _ h => by cases h⟩, rfl, fun i c h => ⟨c, h, rfl⟩⟩
theorem Grew.trans {C C1 C2 : List CV} {R R1 R2 : List (CV × Nat)} {N1 N2 : Bs} (h : Grew C C1 R R1 N1) (k : Grew C1 C2 R1 R2 N2) : Grew C C2 R R2 (N1 ++ N2) := by
  obtain ⟨X, rfl, hX, hXn, hXi⟩ := h.ex
  obtain ⟨Y, rfl, hY, hYn, hYi⟩ := k.ex
  refine ⟨⟨X ++ Y, by simp, by rw [backC_append, hY, hX], by simp [hXn, hYn], fun e he => ?_⟩, k.len.trans h.len, fun i c hc => ?_⟩
  · rcases List.mem_append.mp he with he | he
    · exact hXi e he
    · have := hYi e he; rw [h.len] at this; exact this
  · obtain ⟨c1, h1, e1⟩ := k.at_ i c hc
    obtain ⟨c2, h2, e2⟩ := h.at_ i c1 h1
    exact ⟨c2, h2, e1.trans e2⟩
theorem Grew.bind {C : List CV} {R : List (CV × Nat)} {n : Nat} {c : CV} (hc : C[n]? = some c) (tv : TV) (t : T) : Grew C (C.set n ⟨true, tv, c.attr⟩) R (R ++ [(c, n)]) [((n : Int), t)] := by
  have hn := lt_of_at hc
  refine ⟨⟨[(c, n)], rfl, ?_, rfl, fun e he => by simp at he; subst he; exact hn⟩, by simp, fun i c' h => ?_⟩
  · show (C.set n _).set n c = C
    rw [List.set_set]
    apply List.ext_getElem?
    intro j
    rw [List.getElem?_set]
    by_cases e : n = j
    · subst e; rw [if_pos rfl, if_pos hn]; exact hc.symm
    · simp [e]
  · rw [List.getElem?_set] at h
    by_cases e : n = i
    · subst e
      simp [hn] at h
      subst h
      exact ⟨c, hc, rfl⟩
    · simp [e] at h
      exact ⟨c', h, rfl⟩
theorem Grew.trail {C C' : List CV} {R R' : List (CV × Nat)} {N : Bs} (h : Grew C C' R R' N) : R'.length = R.length + N.length := by
  obtain ⟨X, rfl, _, hX, _⟩ := h.ex
  have := congrArg List.length hX
  simp at this
  simp [this]
/-- What a call leaves alone that writes one integer's box, and the store. -/
structure SX (B lb : Nat) (w w' : World) : Prop where
  low : Below B w w'
  far : ∀ (k : Nat) (o : Obj), k ≠ lb → w.heap[k]? = some o → NotSt o → w'.heap[k]? = some o
theorem SX.refl (B lb : Nat) (w : World) : SX B lb w w := ⟨Below.refl _ _, fun _ _ _ h _ => h⟩
theorem SX.trans {B lb : Nat} {a b c : World} (h : SX B lb a b) (k : SX B lb b c) : SX B lb a c := ⟨h.low.trans k.low, fun g o h0 h1 h2 => k.far g o h0 (h.far g o h0 h1 h2) h2⟩
theorem SX.sf {B lb : Nat} {w w' : World} (h : SF B w w') : SX B lb w w' := ⟨h.low, fun k o _ h1 h2 => h.far k o h1 h2⟩
theorem SX.but {B lb : Nat} {w w' : World} (h : But lb w w') (hB : B ≤ lb) (hs : B ≤ w.heap.size) : SX B lb w w' := ⟨h.below hB hs, fun k _ h0 h1 _ => (h.block k (heap_lt h1) h0).trans h1⟩
/-- An integer's box. -/
def IBox (w : World) (lb : Nat) (f : Int) : Prop := w.heap[lb]? = some (.cells #[.int .i64 f] 3 (0, 0))
theorem notSt_of {cs : Array Value} {ty : TypeId} {f : Nat × Nat} (h : ty ≠ 62 ∧ ty ≠ 70 ∧ ty ≠ 72 ∧ ty ≠ 64) : NotSt (.cells cs ty f) := fun _ _ _ e => by injection e with _ e; subst e; exact h
theorem But.apart {lb : Nat} {f : Int} {w w' : World} (h : But lb w w') (hb : IBox w lb f) {g : Nat} {cs : Array Value} {ty : TypeId} {m : Nat × Nat} (hg : w.heap[g]? = some (.cells cs ty m)) (hne : ty ≠ 3) : w'.heap[g]? = some (.cells cs ty m) := by
  refine (h.block g (heap_lt hg) ?_).trans hg
  rintro rfl
  rw [show w.heap[_]? = _ from hb] at hg
  injection hg with hg
  injection hg with _ hg
  exact hne hg.symm
theorem SM.butI {lb : Nat} {f : Int} {w w' : World} {B sb : Nat} {C : List CV} {R : List (CV × Nat)} {M : List (Nat × Nat)} (h : SM w B sb C R M) (hb : But lb w w') (hi : IBox w lb f) : SM w' B sb C R M :=
  h.keep fun _ _ _ _ hh hty => hb.apart hi hh (by rcases hty with rfl | rfl | rfl | rfl <;> decide)
theorem TP.butI {lb : Nat} {f : Int} {w w' : World} {S : Nat → Prop} {t : T} {v : Value} (ht : TP w S t v) (hb : But lb w w') (hi : IBox w lb f) : TP w' S t v :=
  ht.keep fun _ _ _ hS hh => ⟨hb.apart hi hh (by decide), hS⟩
theorem CL.butI {lb : Nat} {f : Int} {w w' : World} {C : List CV} {L : Bs} (h : CL w C L) (hb : But lb w w') (hi : IBox w lb f) : CL w' C L := h.keep fun ht => ht.butI hb hi
theorem SX.apart {B lb : Nat} {f : Int} {w w' : World} (h : SX B lb w w') (hb : IBox w lb f) {g : Nat} {cs : Array Value} {ty : TypeId} {m : Nat × Nat} (hg : w.heap[g]? = some (.cells cs ty m)) (hne : ty ≠ 3) (hn : ty ≠ 62 ∧ ty ≠ 70 ∧ ty ≠ 72 ∧ ty ≠ 64) : w'.heap[g]? = some (.cells cs ty m) := by
  refine h.far g _ ?_ hg (notSt_of hn)
  rintro rfl
  rw [show w.heap[_]? = _ from hb] at hg
  injection hg with hg
  injection hg with _ hg
  exact hne hg.symm
theorem TP.sx {B lb : Nat} {f : Int} {w w' : World} {S : Nat → Prop} {t : T} {v : Value} (ht : TP w S t v) (h : SX B lb w w') (hi : IBox w lb f) : TP w' S t v :=
  ht.keep fun _ _ _ hS hh => ⟨h.apart hi hh (by decide) (by decide), hS⟩
/-- Terms that are known. -/
theorem allV_arg {k n : Int} {s : ByteArray} {m : Nat} {a : Nat → T} {N : Int} (h : allV (.mk k n s m a) N) (hk : 0 < m → k = 4) {i : Nat} (hi : i < m) : allV (a i) N := fun u hu => h u (.inr ⟨hk (by omega), i, hi, hu⟩)
theorem CL.step_known {w : World} {C : List CV} {L : Bs} (h : CL w C L) {t : T} (ht : allV t (C.length : Int)) : allV (stepW L t) (C.length : Int) := by
  unfold stepW
  split
  · split
    · rename_i n _ x hx; exact fun u hu => h.kn _ (findB_mem hx) u hu
    · exact ht
  · exact ht
theorem CL.walk_known {w : World} {C : List CV} {L : Bs} (h : CL w C L) {t : T} (ht : allV t (C.length : Int)) : allV (walkN L t) (C.length : Int) := by
  unfold walkN
  have : ∀ j, allV (walkF L j t) (C.length : Int) := by
    intro j
    induction j with
    | zero => exact ht
    | succ j ih => exact h.step_known ih
  exact this _
theorem CL.bindAt {w w' : World} {C : List CV} {L : Bs} (h : CL w C L) (hk : ∀ {t : T} {v : Value}, TP w (fun _ => True) t v → TP w' (fun _ => True) t v) {n : Nat} {c : CV} (hc : C[n]? = some c) {t : T} (hn : findB L (n : Int) = none) (hok : EnvOk (L ++ [((n : Int), t)])) (hkn : allV t (C.length : Int)) {tv : TV} (a : TV)
    (htp : TP w (fun _ => True) t (.agg #[.int .i64 tv.k, .int .i64 tv.n, .string tv.s, .slice tv.A tv.m tv.c])) : CL w' (C.set n ⟨true, tv, a⟩) (L ++ [((n : Int), t)]) := by
  have hnl := lt_of_at hc
  refine ⟨hok, fun p hp => ?_, fun p hp v hv => ?_, fun i c' hi => ?_⟩
  · rw [List.length_set]
    rcases List.mem_append.mp hp with hp | hp
    · exact h.inn p hp
    · simp at hp; subst hp; simp only; omega
  · rw [List.length_set]
    rcases List.mem_append.mp hp with hp | hp
    · exact h.kn p hp v hv
    · simp at hp; subst hp; exact hkn v hv
  · rw [List.getElem?_set] at hi
    rw [findB_append]
    by_cases e : n = i
    · subst e
      simp [hnl] at hi
      subst hi
      rw [hn]
      exact ⟨(fun h => by simp at h), fun t' ht' => by simp at ht'; subst ht'; exact ⟨rfl, hk htp⟩⟩
    · simp only [if_neg e] at hi
      have hne : ¬ ((n : Int) = (i : Int)) := by omega
      have := h.cell i c' hi
      cases hf : findB L (i : Int) with
      | none => simp only [if_neg hne]; exact ⟨fun _ => this.1 hf, fun t' ht' => by cases ht'⟩
      | some x => exact ⟨(fun h => by cases h), fun t' ht' => by injection ht' with ht'; subst ht'; exact ⟨(this.2 x hf).1, hk (this.2 x hf).2⟩⟩
theorem TP.leaf0 (w : World) (S : Nat → Prop) (k n : Int) (s : ByteArray) (a : Nat → T) : TP w S (.mk k n s 0 a) (.agg #[.int .i64 k, .int .i64 n, .string s, .slice none 0 0]) :=
  ⟨none, 0, rfl, Nat.le_refl _, fun _ => rfl, fun h => absurd h (Nat.lt_irrefl 0)⟩
/-- What 'same' comes to. -/
structure SameQ (r : Res) (L : Bs) (f : Nat) (w : World) (B sb lb : Nat) (C : List CV) (R : List (CV × Nat)) (M : List (Nat × Nat)) (w' : World) (er f' : Int) (C' : List CV) (R' : List (CV × Nat)) (Ns : Bs) : Prop where
  sm : SM w' B sb C' R' M
  cl : CL w' C' (L ++ Ns)
  gr : Grew C C' R R' Ns
  fr : SX B lb w w'
  bx : IBox w' lb f'
  few : R'.length ≤ R.length + f
  out : (er = 0 ∧ ∃ f1 : Nat, f' = (f1 : Int) ∧ r = .ok (L ++ Ns) f1 ∧ R'.length + f1 ≤ R.length + f ∧ f1 ≤ f) ∨ (er = 34 ∧ r = .many) ∨ (er = 80 ∧ r = .unlike)
def SameP (r : Res) (L : Bs) (f : Nat) (w : World) (B sb lb : Nat) (C : List CV) (R : List (CV × Nat)) (M : List (Nat × Nat)) (e : Ending) (w' : World) : Prop :=
  ∃ (er f' : Int) (C' : List CV) (R' : List (CV × Nat)) (Ns : Bs), e = .returned (.int .i64 er) ∧ SameQ r L f w B sb lb C R M w' er f' C' R' Ns
def SameC (f : Nat) : Prop := ∀ (w : World) (B sb lb : Nat) (C : List CV) (R : List (CV × Nat)) (M : List (Nat × Nat)) (L : Bs) (ta tb : T) (va vb : Value), SM w B sb C R M → CL w C L → IBox w lb (f : Int) → B ≤ lb → f ≤ 2000 → R.length + f ≤ 1000000 →
  TP w (fun _ => True) ta va → TP w (fun _ => True) tb vb → ta.ok → tb.ok → allV ta (C.length : Int) → allV tb (C.length : Int) →
  Calls Try.prog 27 #[.pointer (some ⟨sb, 0, none⟩), va, vb, .pointer (some ⟨lb, 0, none⟩)] w fun e w' => SameP (uniF f L [(ta, tb)]) L f w B sb lb C R M e w'
end Go.Proofs.Ytgoedlbdnmhppaa
