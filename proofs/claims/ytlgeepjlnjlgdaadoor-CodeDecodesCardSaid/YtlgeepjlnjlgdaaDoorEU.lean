/- The walk through the closure of code.Decode that reads a term. The closure of code.Decode that reads a term: whole. -/
import Derived.Test.YtlgeepjlnjlgdaaDoorET
namespace Go.Proofs.YtlgeepjlnjlgdaaDoor
open Go.RowKit

def ReadP (l : List Ins) (lb ab rb nb fb B : Nat) (lv : Value) (f i : Nat) (right : Bool) (w : World) (e : Ending) (w' : World) : Prop :=
  ∃ (v : Value) (t : T) (i' : Nat) (r' : Bool), e = .returned v ∧ TP w' (fun b => w.heap.size ≤ b) t v ∧ Ds w' lb ab rb nb fb lv i' r' ∧ i' ≤ l.length ∧
    Hid ((right = false → r' = false) ∧ (right = true → match pdT l f i with | some (t', j) => t = t' ∧ i' = j ∧ r' = true | none => r' = false)) ∧ Kd ab rb B w w'
theorem pd_end {l : List Ins} {f i : Nat} (h : l.length ≤ i) : pdT l f i = none := by
  cases f with
  | zero => unfold pdT; rw [List.getElem?_eq_none h]
  | succ f => unfold pdT; rw [List.getElem?_eq_none h]
theorem pd_leaf {l : List Ins} {f i : Nat} {x : Ins} {t : T} (h : l[i]? = some x) (hl : leafI x = some t) : pdT l f i = some (t, i + 1) := by
  cases f with
  | zero => unfold pdT; rw [h]; dsimp only; rw [hl]; rfl
  | succ f => unfold pdT; rw [h]; dsimp only; rw [hl]
theorem pd_no {l : List Ins} {f i : Nat} {x : Ins} (h : l[i]? = some x) (hl : leafI x = none) (h6 : x.o ≠ 6 ∨ f = 0) : pdT l f i = none := by
  cases f with
  | zero => unfold pdT; rw [h]; dsimp only; rw [hl]; rfl
  | succ f => unfold pdT; rw [h]; dsimp only; rw [hl]; dsimp only; rw [if_neg (by omega)]
theorem pd_cmp {l : List Ins} {f i : Nat} {x : Ins} (h : l[i]? = some x) (h6 : x.o = 6) : pdT l (f + 1) i = (argsR (pdT l f) x.a.toNat [] (i + 1)).map fun p => (cmpT x.s p.1, p.2) := by
  have hl : leafI x = none := by unfold leafI; rw [if_neg (by omega), if_neg (by omega), if_neg (by omega)]
  rw [pdT, h]; dsimp only; rw [hl]; dsimp only; rw [if_pos h6]
theorem pd_le (l : List Ins) : ∀ (f i : Nat) (t : T) (j : Nat), pdT l f i = some (t, j) → i < j ∧ j ≤ l.length
  | 0, i, t, j, h => by
    unfold pdT at h
    cases hx : l[i]? with
    | none => rw [hx] at h; cases h
    | some x =>
      rw [hx] at h
      have hi : i < l.length := by
        rcases Nat.lt_or_ge i l.length with h1 | h1
        · exact h1
        · rw [List.getElem?_eq_none h1] at hx; cases hx
      obtain ⟨u, hu, he⟩ := Option.map_eq_some_iff.1 h
      injection he with h1 h2; omega
  | f + 1, i, t, j, h => by
    unfold pdT at h
    cases hx : l[i]? with
    | none => rw [hx] at h; cases h
    | some x =>
      rw [hx] at h
      dsimp only at h
      have hi : i < l.length := by
        rcases Nat.lt_or_ge i l.length with h1 | h1
        · exact h1
        · rw [List.getElem?_eq_none h1] at hx; cases hx
      cases hl : leafI x with
      | some u =>
        rw [hl] at h
        injection h with h; injection h with h1 h2; omega
      | none =>
        rw [hl] at h
        dsimp only at h
        split at h
        · obtain ⟨⟨ts, q⟩, ha, he⟩ := Option.map_eq_some_iff.1 h
          injection he with h1 h2
          have := argsR_le (fun i t j h => pd_le l f i t j h) (show i + 1 ≤ l.length by omega) ha
          dsimp only at h2
          omega
        · cases h
/-- What is still to be read of arguments. -/
def ArgD (rd : Nat → Option (T × Nat)) (n N : Nat) (ts : List T) (i : Nat) (rr : Bool) (res : Option (List T × Nat)) : Prop :=
  (rr = true ∧ i ≤ N ∧ ts.length ≤ n ∧ res = argsR rd (n - ts.length) ts i) ∨ (rr = false ∧ res = none)
def ReadC (l : List Ins) (lb ab rb nb fb B : Nat) (lv : Value) (f : Nat) : Prop := ∀ (i : Nat) (right : Bool) (w : World), i ≤ l.length → Ds w lb ab rb nb fb lv i right → GRw w B lv l →
    Calls Tryd.prog 29 #[.int .i64 ((1001 - f : Nat) : Int), .pointer (some ⟨nb, 0, none⟩), .pointer (some ⟨rb, 0, none⟩), .pointer (some ⟨fb, 0, none⟩)] w fun e w' => ReadP l lb ab rb nb fb B lv f i right w e w'
/-- A box of a term is written: the decoder's boxes stand. -/
theorem Ds.put {w w' : World} {lb ab rb nb fb g i : Nat} {lv : Value} {right : Bool} {cs : Array Value} {m : Nat × Nat} (h : Ds w lb ab rb nb fb lv i right) (hg : w.heap[g]? = some (.cells cs 24 m)) (hk : ∀ b, b ≠ g → w'.heap[b]? = w.heap[b]?) : Ds w' lb ab rb nb fb lv i right :=
  ⟨(hk _ (cells_ne h.hl hg (by decide))).trans h.hl, (hk _ (cells_ne h.ha hg (by decide))).trans h.ha, (hk _ (cells_ne h.hr hg (by decide))).trans h.hr, (hk _ (cells_ne h.hn hg (by decide))).trans h.hn, (hk _ (cells_ne h.hf hg (by decide))).trans h.hf⟩
theorem Kd.put {ab rb B g : Nat} {w w1 w' : World} (h : Kd ab rb B w w1) (hg : w.heap.size ≤ g) (hb : Below B w w1 → Below B w w') (hk : ∀ b, b ≠ g → w'.heap[b]? = w1.heap[b]?) : Kd ab rb B w w' :=
  ⟨hb h.low, fun b hb h1 h2 => (hk b (by omega)).trans (h.keep b hb h1 h2)⟩
theorem own_keepT {w w' : World} {lo i : Nat} {o : Value} {xs : List Value} (h : w.ownsRow lo 24 4 o i xs) (hk : ∀ (b : Nat) (cs : Array Value) (m : Nat × Nat), w.heap[b]? = some (Obj.cells cs 24 m) → w'.heap[b]? = some (Obj.cells cs 24 m)) : w'.ownsRow lo 24 4 o i xs :=
  own_keep h fun g hg => by
    obtain ⟨cs, f, hh⟩ := Go.Lib.ownsRow_kind h g hg
    exact (hk g cs f hh).trans hh.symm
theorem Kd.boxes {ab rb B lb nb fb i : Nat} {lv : Value} {right : Bool} {w w' : World} (h : Kd ab rb B w w') (hd : Ds w lb ab rb nb fb lv i right) (b : Nat) (cs : Array Value) (m : Nat × Nat) (hh : w.heap[b]? = some (Obj.cells cs 24 m)) : w'.heap[b]? = some (Obj.cells cs 24 m) :=
  (h.keep b (heap_lt hh) (cells_ne hh hd.ha (by decide)) (cells_ne hh hd.hr (by decide))).trans hh
set_option maxRecDepth 100000 in
set_option maxHeartbeats 8000000 in
theorem read_step {l : List Ins} (hl : InsOk l) {lb ab rb nb fb B : Nat} {lv : Value} (hBa : B ≤ ab) (hBr : B ≤ rb) (f : Nat) (hf : f ≤ 1000) (ih : ∀ f', f = f' + 1 → ReadC l lb ab rb nb fb B lv f') : ReadC l lb ab rb nb fb B lv f := by
  intro i right w hi hd hlv
  obtain ⟨D, hD⟩ : ∃ D : Nat, D = 1001 - f := ⟨_, rfl⟩
  have HDD := Lib.hid hD
  have hD3 : D ≤ 1001 := by omega
  rw [← hD]
  clear hD
  have HD := Lib.hid hd
  have HLV := Lib.hid hlv
  have HL := Lib.hid hl
  have IH := Lib.hid ih
  have HF := Lib.hid hf
  have hfew := hl.few
  have BX := Lib.hid (belA (Below.refl w.heap.size w) (Obj.cells #[.int .i64 0, .int .i64 0, .string ⟨#[]⟩, .slice none 0 0] 24))
  have HB0 := Lib.hid (heap_alloc_new w (Obj.cells #[.int .i64 0, .int .i64 0, .string ⟨#[]⟩, .slice none 0 0] 24))
  have D1 := Lib.hid (hd.below BX.out)
  have q0 := cell_of_row _ nb 0 _ _ _ D1.out.hn
  have l0 := heap_lt hd.hn
  have CN := Lib.hid (next_d (B := B) D1.out (hlv.below BX.out) (by omega) hi hBa hBr)
  clear hd hlv ih hl hf
  unfold fnN at q0
  go_enter Tryd.func29, Tryd.ntmps29
  go_wp2_with fail
  refine CN.out.mono ?_
  rintro e w1 ⟨⟨xo, xa, xs⟩, i1, r1, rfl, hd1, hx, hk1⟩
  have D2 := Lib.hid hd1
  have HX := Lib.hid hx.out
  have K1 := Lib.hid ((Kd.of (ab := ab) (rb := rb) (B := B) BX.out (by have := heap_lt HD.out.ha; omega)).trans hk1)
  have XR := Lib.hid ((hk1.keep w.heap.size (by simp) (by have := heap_lt HD.out.ha; omega) (by have := heap_lt HD.out.hr; omega)).trans HB0.out)
  have LV1 := Lib.hid (K1.out.row hBa hBr HLV.out)
  have hs1 : w.heap.size + 1 ≤ w1.heap.size := by have := hk1.low.size; simpa using this
  obtain ⟨u0, u1, u2, u3⟩ := box4t XR.out
  have zr : ∀ j, w1.frozen? ⟨w.heap.size, j, none⟩ = false := fun j => by simp [World.frozen?, XR.out]
  have hrl := heap_lt XR.out
  have p2 := cell_of_row w1 rb 0 _ _ _ hd1.hr
  have lr := heap_lt hd1.hr
  have zb : ∀ j, w1.frozen? ⟨rb, j, none⟩ = false := fun j => by simp [World.frozen?, D2.out.hr]
  have hi1 : i1 ≤ l.length := by rcases hx.out with ⟨h1, _, h2, _⟩ | ⟨h1, _, h2, _⟩ <;> omega
  have hBw : B ≤ w.heap.size := by have := heap_lt HD.out.ha; omega
  clear hd1 hx hk1 CN q0
  have LEAF := Lib.hid (show ∀ (k n : Int) (s : ByteArray), leafI ⟨xo, xa, xs⟩ = some (.mk k n s 0 fun _ => .nil) → ReadP l lb ab rb nb fb B lv f i right w (.returned (.agg #[.int .i64 k, .int .i64 n, .string s, .slice none 0 0])) (((((w1.setCell ⟨w.heap.size, 0, none⟩ (.int .i64 k)).setCell ⟨w.heap.size, 1, none⟩ (.int .i64 n)).setCell ⟨w.heap.size, 2, none⟩ (.string s)).setCell ⟨w.heap.size, 3, none⟩ (.slice none 0 0)).alloc (Obj.cells #[.int .i64 xo, .int .i64 xa, .string xs] 50)) from fun k n s ht => by
    have P := box_put4 XR.out (.int .i64 k) (.int .i64 n) (.string s) (.slice none 0 0) rfl
    have BA := fun (W : World) => Below.alloc (Below.refl W.heap.size W) (Nat.le_refl _) (Obj.cells #[.int .i64 xo, .int .i64 xa, .string xs] 50)
    exact ⟨_, _, i1, r1, rfl, TP.leaf _ _ k n s, (D2.out.put XR.out P.2.2.1).below (BA _), hi1, Lib.hid (by
        rcases HX.out with ⟨_, h2, h3, h4⟩ | ⟨_, h2, _, _⟩
        · refine ⟨fun h => by rw [h4, h], fun h => ?_⟩
          rw [pd_leaf h2 ht]
          exact ⟨rfl, h3, by rw [h4, h]⟩
        · rw [h2] at ht; cases ht), (K1.out.put (Nat.le_refl _) (P.2.2.2 B w hBw) P.2.2.1).trans (Kd.of (BA _) (by rw [P.2.1]; omega))⟩)
  have LRES := Lib.hid (show ∀ (k n : Int) (s : ByteArray), (((((w1.setCell ⟨w.heap.size, 0, none⟩ (.int .i64 k)).setCell ⟨w.heap.size, 1, none⟩ (.int .i64 n)).setCell ⟨w.heap.size, 2, none⟩ (.string s)).setCell ⟨w.heap.size, 3, none⟩ (.slice none 0 0)).alloc (Obj.cells #[.int .i64 xo, .int .i64 xa, .string xs] 50)).heap[w.heap.size]? = some (.cells #[.int .i64 k, .int .i64 n, .string s, .slice none 0 0] 24 (0, 0)) from fun k n s => by
    have P := box_put4 XR.out (.int .i64 k) (.int .i64 n) (.string s) (.slice none 0 0) rfl
    exact (Below.heap_alloc _ _ _ (by rw [P.2.1]; omega)).trans P.1)
  by_cases h2 : xo = 2
  · have PL0 := Lib.hid (LEAF.out 1 xa ⟨#[]⟩ (by unfold leafI; rw [if_pos (.inl h2)]; rfl))
    have PR0 := Lib.hid (LRES.out 1 xa ⟨#[]⟩)
    subst h2
    have PL := Lib.hid PL0.out
    have PR := Lib.hid PR0.out
    clear PL0 PR0
    go_wp2_with fail
    obtain ⟨p0, p1, p2, p3⟩ := box4t PR.out
    refine bodyPost_ret (v := .agg #[.int .i64 1, .int .i64 xa, .string ⟨#[]⟩, .slice none 0 0]) (by simp [results, go_sem, p0, p1, p2, p3]) rfl ?_
    exact PL.out
  by_cases h3 : xo = 3
  · have PL0 := Lib.hid (LEAF.out 1 xa ⟨#[]⟩ (by unfold leafI; rw [if_pos (.inr h3)]; rfl))
    have PR0 := Lib.hid (LRES.out 1 xa ⟨#[]⟩)
    subst h3
    have PL := Lib.hid PL0.out
    have PR := Lib.hid PR0.out
    clear PL0 PR0
    go_wp2_with fail
    obtain ⟨p0, p1, p2, p3⟩ := box4t PR.out
    refine bodyPost_ret (v := .agg #[.int .i64 1, .int .i64 xa, .string ⟨#[]⟩, .slice none 0 0]) (by simp [results, go_sem, p0, p1, p2, p3]) rfl ?_
    exact PL.out
  by_cases h4 : xo = 4
  · have PL0 := Lib.hid (LEAF.out 2 xa ⟨#[]⟩ (by unfold leafI; rw [if_neg (show ¬ (xo = 2 ∨ xo = 3) by omega), if_pos (show xo = 4 from h4)]; rfl))
    have PR0 := Lib.hid (LRES.out 2 xa ⟨#[]⟩)
    subst h4
    have PL := Lib.hid PL0.out
    have PR := Lib.hid PR0.out
    clear PL0 PR0
    go_wp2_with fail
    obtain ⟨p0, p1, p2, p3⟩ := box4t PR.out
    refine bodyPost_ret (v := .agg #[.int .i64 2, .int .i64 xa, .string ⟨#[]⟩, .slice none 0 0]) (by simp [results, go_sem, p0, p1, p2, p3]) rfl ?_
    exact PL.out
  by_cases h5 : xo = 5
  · have PL0 := Lib.hid (LEAF.out 3 0 xs (by unfold leafI; rw [if_neg (show ¬ (xo = 2 ∨ xo = 3) by omega), if_neg (show ¬ xo = 4 by omega), if_pos (show xo = 5 from h5)]; rfl))
    have PR0 := Lib.hid (LRES.out 3 0 xs)
    subst h5
    have PL := Lib.hid PL0.out
    have PR := Lib.hid PR0.out
    clear PL0 PR0
    go_wp2_with fail
    obtain ⟨p0, p1, p2, p3⟩ := box4t PR.out
    refine bodyPost_ret (v := .agg #[.int .i64 3, .int .i64 0, .string xs, .slice none 0 0]) (by simp [results, go_sem, p0, p1, p2, p3]) rfl ?_
    exact PL.out
  have HLF := Lib.hid (show leafI ⟨xo, xa, xs⟩ = none by unfold leafI; rw [if_neg (show ¬ (xo = 2 ∨ xo = 3) by omega), if_neg (show ¬ xo = 4 by omega), if_neg (show ¬ xo = 5 by omega)])
  have e2 : (xo == 2) = false := by simp; omega
  have e3 : (xo == 3) = false := by simp; omega
  have e4 : (xo == 4) = false := by simp; omega
  have e5 : (xo == 5) = false := by simp; omega
  clear h2 h3 h4 h5
  have hxa : I64 xa := by
    rcases HX.out with ⟨_, h2, _, _⟩ | ⟨_, h2, _, _⟩
    · exact HL.out.num _ (List.mem_of_getElem? h2)
    · injection h2 with _ h2; rw [h2]; unfold I64; omega
  have hxa1 := hxa.1
  have hxa2 := hxa.2
  have NONE := Lib.hid (show ∀ W : World, W.heap[w.heap.size]? = some (.cells #[.int .i64 0, .int .i64 0, .string ⟨#[]⟩, .slice none 0 0] 24 (0, 0)) → Ds W lb ab rb nb fb lv i1 false → Kd ab rb B w W → (right = true → pdT l f i = none) →
      ReadP l lb ab rb nb fb B lv f i right w (.returned (.agg #[.int .i64 4, .int .i64 0, .string xs, .slice none 0 0])) ((((W.setCell ⟨w.heap.size, 0, none⟩ (.int .i64 4)).setCell ⟨w.heap.size, 1, none⟩ (.int .i64 0)).setCell ⟨w.heap.size, 2, none⟩ (.string xs)).setCell ⟨w.heap.size, 3, none⟩ (.slice none 0 0)) from fun W hW hdW hkW hn => by
    have P := box_put4 hW (.int .i64 4) (.int .i64 0) (.string xs) (.slice none 0 0) rfl
    exact ⟨_, _, i1, false, rfl, TP.leaf _ _ 4 0 xs, hdW.put hW P.2.2.1, hi1, Lib.hid ⟨fun _ => rfl, fun h => by rw [hn h]⟩, hkW.put (Nat.le_refl _) (P.2.2.2 B w hBw) P.2.2.1⟩)
  have SETF := Lib.hid (show Ds (((w1.setCell ⟨rb, 0, none⟩ (.bool false)).alloc (Obj.cells #[.int .i64 xo, .int .i64 xa, .string xs] 50)).alloc (Obj.cells #[.int .i64 4, .int .i64 0, .string xs, .slice none 0 0] 24)) lb ab rb nb fb lv i1 false ∧ Kd ab rb B w (((w1.setCell ⟨rb, 0, none⟩ (.bool false)).alloc (Obj.cells #[.int .i64 xo, .int .i64 xa, .string xs] 50)).alloc (Obj.cells #[.int .i64 4, .int .i64 0, .string xs, .slice none 0 0] 24)) ∧
      (((w1.setCell ⟨rb, 0, none⟩ (.bool false)).alloc (Obj.cells #[.int .i64 xo, .int .i64 xa, .string xs] 50)).alloc (Obj.cells #[.int .i64 4, .int .i64 0, .string xs, .slice none 0 0] 24)).heap[w.heap.size]? = some (.cells #[.int .i64 0, .int .i64 0, .string ⟨#[]⟩, .slice none 0 0] 24 (0, 0)) ∧
      (((w1.setCell ⟨rb, 0, none⟩ (.bool false)).alloc (Obj.cells #[.int .i64 xo, .int .i64 xa, .string xs] 50)).alloc (Obj.cells #[.int .i64 4, .int .i64 0, .string xs, .slice none 0 0] 24)).heap[w1.heap.size]? = some (.cells #[.int .i64 xo, .int .i64 xa, .string xs] 50 (0, 0)) ∧
      (((w1.setCell ⟨rb, 0, none⟩ (.bool false)).alloc (Obj.cells #[.int .i64 xo, .int .i64 xa, .string xs] 50)).alloc (Obj.cells #[.int .i64 4, .int .i64 0, .string xs, .slice none 0 0] 24)).heap[w1.heap.size + 1]? = some (.cells #[.int .i64 4, .int .i64 0, .string xs, .slice none 0 0] 24 (0, 0)) from by
    have BA := Below.alloc (Below.alloc (Below.refl (w1.setCell ⟨rb, 0, none⟩ (.bool false)).heap.size (w1.setCell ⟨rb, 0, none⟩ (.bool false))) (Nat.le_refl _) (Obj.cells #[.int .i64 xo, .int .i64 xa, .string xs] 50)) (by simp) (Obj.cells #[.int .i64 4, .int .i64 0, .string xs, .slice none 0 0] 24)
    refine ⟨(D2.out.setr false).below BA, (K1.out.trans (Kd.setr hBr _)).trans (Kd.of BA (by simp; omega)), (BA.block _ (by simpa using hrl)).trans ((Below.heap_setCell _ _ _ _ (cells_ne XR.out D2.out.hr (by decide))).trans XR.out), (Below.heap_alloc _ _ _ (by simp)).trans (heap_at _ _ (by simp)), heap_at _ _ (by simp)⟩)
  have hw1 : w1.heap.size ≠ rb := by omega
  have hw2 : w1.heap.size + 1 ≠ rb := by omega
  by_cases hgo : r1 = true ∧ xo = 6 ∧ D ≤ 1000
  · obtain ⟨rfl, rfl, hDD⟩ := hgo
    obtain ⟨f', hf'⟩ : ∃ f', f = f' + 1 := ⟨f - 1, by have := HDD.out; omega⟩
    have HI := Lib.hid (show ∃ hi' : l[i]? = some ⟨6, xa, xs⟩, i1 = i + 1 ∧ right = true from by
      rcases HX.out with ⟨_, h2, h3, h4⟩ | ⟨_, _, _, h4⟩
      · exact ⟨h2, h3, h4.symm⟩
      · cases h4)
    have HC := Lib.hid (show pdT l f i = (argsR (pdT l f') xa.toNat [] (i + 1)).map fun p => (cmpT xs p.1, p.2) by
      obtain ⟨h2, _, _⟩ := HI.out
      rw [hf']; exact pd_cmp h2 rfl)
    have HFF := Lib.hid hf'
    have HD2 := Lib.hid (show (D : Int) + 1 = ((1001 - f' : Nat) : Int) by have := HDD.out; have := HF.out; omega)
    have hd9 : decide ((D : Int) ≤ 1000) = true := decide_eq_true (by omega)
    have hDI : (D : Int) ≤ 1000 := by omega
    have IHF := Lib.hid (IH.out f' hf')
    clear hf' e2 e3 e4 e5
    have hgeo := Lib.hid (show Geo 0 B w.heap.size w.heap.size (w1.heap.size + 1) (w1.heap.size + 2) from ⟨by omega, by omega, by omega, by omega, by omega, by omega, by omega, by omega, by omega⟩)
    obtain ⟨item, ji1, ji2, ji3, ji4⟩ := elTerm.hi
    have W0 := Lib.hid (show ∃ W, W = ((w1.setCell ⟨rb, 0, none⟩ (.bool true)).alloc (Obj.cells #[.int .i64 6, .int .i64 xa, .string xs] 50)).alloc (Obj.cells #[.int .i64 4, .int .i64 0, .string xs, .slice none 0 0] 24) from ⟨_, rfl⟩)
    have INIT := Lib.hid (show ∀ W, W = ((w1.setCell ⟨rb, 0, none⟩ (.bool true)).alloc (Obj.cells #[.int .i64 6, .int .i64 xa, .string xs] 50)).alloc (Obj.cells #[.int .i64 4, .int .i64 0, .string xs, .slice none 0 0] 24) →
        BldI (fun k => ([] : List T).getD k .nil) 0 B w.heap.size w.heap.size (w1.heap.size + 1) (w1.heap.size + 2) #[.int .i64 0, .int .i64 0, .string ⟨#[]⟩, .slice none 0 0] #[.int .i64 0, .int .i64 0, .string ⟨#[]⟩, .slice none 0 0] xs 0 w W 0 (.slice none 0 0) [] ∧
        W.heap[w1.heap.size]? = some (.cells #[.int .i64 6, .int .i64 xa, .string xs] 50 (0, 0)) ∧ Ds W lb ab rb nb fb lv i1 true ∧ Kd ab rb B w W from by
      rintro W rfl
      have BA := Below.alloc (Below.alloc (Below.refl (w1.setCell ⟨rb, 0, none⟩ (.bool true)).heap.size (w1.setCell ⟨rb, 0, none⟩ (.bool true))) (Nat.le_refl _) (Obj.cells #[.int .i64 6, .int .i64 xa, .string xs] 50)) (by simp) (Obj.cells #[.int .i64 4, .int .i64 0, .string xs, .slice none 0 0] 24)
      have XRW := (BA.block _ (by simpa using hrl)).trans ((Below.heap_setCell w1 ⟨rb, 0, none⟩ (.bool true) _ (cells_ne XR.out D2.out.hr (by decide))).trans XR.out)
      have KW := (K1.out.trans (Kd.setr hBr (.bool true))).trans (Kd.of BA (by simp; omega))
      exact ⟨⟨XRW, XRW, heap_at _ _ (by simp), World.ownsRow_nil _ _ _ _, fun q h => absurd h (by omega), Nat.le_refl _, KW.low, by simp⟩, (Below.heap_alloc _ _ _ (by simp)).trans (heap_at _ _ (by simp)), (D2.out.setr true).below BA, KW⟩)
    go_wp2_with fail
    go_loopw [8] (fun iv wr => ∃ (ts : List T) (i' : Nat) (rr : Bool) (o : Value) (xc : List Value), iv = .int .i64 (ts.length : Int) ∧ i' ≤ l.length ∧ ts.length ≤ l.length + 1 ∧
        BldI (fun k => ts.getD k .nil) 0 B w.heap.size w.heap.size (w1.heap.size + 1) (w1.heap.size + 2) #[.int .i64 0, .int .i64 0, .string ⟨#[]⟩, .slice none 0 0] #[.int .i64 0, .int .i64 0, .string ⟨#[]⟩, .slice none 0 0] xs ts.length w wr ts.length o xc ∧
        wr.heap[w1.heap.size]? = some (.cells #[.int .i64 6, .int .i64 xa, .string xs] 50 (0, 0)) ∧ Ds wr lb ab rb nb fb lv i' rr ∧ Kd ab rb B w wr ∧
        Hid (ArgD (pdT l f') xa.toNat l.length ts i' rr (argsR (pdT l f') xa.toNat [] (i + 1)) ∧ (rr = true → ts.length ≤ i'))) (fun iv _ => l.length + 2 - (intOf iv).toNat)
    case atStart =>
      obtain ⟨q1, q2, q3, q4⟩ := INIT.out _ rfl
      exact ⟨[], i1, true, .slice none 0 0, [], rfl, hi1, Nat.zero_le _, q1, q2, q3, q4, Lib.hid ⟨.inl ⟨rfl, hi1, Nat.zero_le _, by rw [HI.out.2.1]; rfl⟩, fun _ => Nat.zero_le _⟩⟩
    case round =>
      obtain ⟨ts, i', rr, o, xc, rfl, hi', hts, hbl, hins, hds, hkd, hK⟩ := hrel
      obtain ⟨q, hq⟩ : ∃ q, q = ts.length := ⟨_, rfl⟩
      have HQ := Lib.hid hq
      rw [← hq] at hbl hts ⊢
      obtain ⟨oA, oc, rfl, hoc, hoA, _, _⟩ := own_open hbl.own
      have BL := Lib.hid hbl
      have HIN := Lib.hid hins
      have DS := Lib.hid hds
      have KD := Lib.hid hkd
      obtain ⟨x0, x1, x2, x3⟩ := box4t hbl.ob
      have hobl := heap_lt hbl.ob
      have y1 := cell_of_row wr w1.heap.size 1 _ _ _ hins
      have y2 := cell_of_row wr rb 0 _ _ _ hds.hr
      have y3 := cell_of_row wr fb 0 _ _ _ hds.hf
      have lf := heap_lt hds.hf
      have zf : ∀ j, wr.frozen? ⟨w1.heap.size + 1, j, none⟩ = false := fun j => by simp [World.frozen?, hbl.ob]
      have zr' : ∀ j, wr.frozen? ⟨w.heap.size, j, none⟩ = false := fun j => by simp [World.frozen?, hbl.rb]
      obtain ⟨s0, s1, s2, s3⟩ := box4t hbl.rb
      have hrbl := heap_lt hbl.rb
      have hlw := hbl.lw
      have OUT := Lib.hid (show (¬ ((q : Int) < xa ∧ rr = true)) → ReadP l lb ab rb nb fb B lv f i right w (.returned (.agg #[.int .i64 4, .int .i64 0, .string xs, .slice oA q oc])) ((((wr.setCell ⟨w.heap.size, 0, none⟩ (.int .i64 4)).setCell ⟨w.heap.size, 1, none⟩ (.int .i64 0)).setCell ⟨w.heap.size, 2, none⟩ (.string xs)).setCell ⟨w.heap.size, 3, none⟩ (.slice oA q oc)) from fun hex => by
        obtain ⟨_, hT, _⟩ := (BL.out.ch (ch' := fun k => ts.getD k .nil) (fun _ _ => rfl) (Nat.le_refl _)).doneL hgeo.out rfl
        have P := box_put4 BL.out.rb (.int .i64 4) (.int .i64 0) (.string xs) (.slice oA q oc) rfl
        have hT2 := hT.more (S' := fun b => w.heap.size ≤ b) fun b hb => by omega
        have e : T.mk 4 0 xs q (fun k => ts.getD k .nil) = cmpT xs ts := by rw [HQ.out]; rfl
        rw [e] at hT2
        refine ⟨_, _, i', rr, rfl, hT2, DS.out.put BL.out.rb P.2.2.1, hi', Lib.hid ⟨fun h => ?_, fun _ => ?_⟩, KD.out.put (Nat.le_refl _) (P.2.2.2 B w hBw) P.2.2.1⟩
        · rw [HI.out.2.2] at h; cases h
        · rcases hK.out.1 with ⟨h1, h2, h3, h4⟩ | ⟨h1, h2⟩
          · have hn : xa.toNat - ts.length = 0 := by have := HQ.out; have : ¬ (q : Int) < xa := fun h => hex ⟨h, h1⟩; omega
            rw [hn] at h4
            rw [HC.out, h4]
            exact ⟨rfl, rfl, h1⟩
          · rw [HC.out, h2]
            exact h1)
      clear hbl hins hds hkd hq hoA u0 u1 u2 u3 zr zb p2
      by_cases hgo : (q : Int) < xa ∧ rr = true
      · obtain ⟨hqa, rfl⟩ := hgo
        have CI := Lib.hid (show ∀ W, Below wr.heap.size wr W → Calls Tryd.prog 29 #[.int .i64 ((D : Int) + 1), .pointer (some ⟨nb, 0, none⟩), .pointer (some ⟨rb, 0, none⟩), .pointer (some ⟨fb, 0, none⟩)] W fun e w' =>
            ∃ (v : Value) (t : T) (j : Nat) (r' : Bool), e = .returned v ∧ TP w' (fun b => wr.heap.size ≤ b) t v ∧ Ds w' lb ab rb nb fb lv j r' ∧ j ≤ l.length ∧ Hid (match pdT l f' i' with | some (t', j') => t = t' ∧ j = j' ∧ r' = true | none => r' = false) ∧ Kd ab rb B wr w' from fun W hW => by
          have hkw := Kd.of (ab := ab) (rb := rb) (B := B) hW (by have := KD.out.low.size; omega)
          have hsw := hW.size
          rw [HD2.out]
          refine (IHF.out i' true W hi' (DS.out.below hW) ((KD.out.trans hkw).row hBa hBr HLV.out)).mono ?_
          rintro e w5 ⟨v5, t5, i5, r5, rfl, hv5, hds5, hi5, hh5, hk5⟩
          exact ⟨v5, t5, i5, r5, rfl, hv5.more fun b hb => by omega, hds5, hi5, Lib.hid (hh5.out.2 rfl), hkw.trans hk5⟩)
        have END := Lib.hid (show ∀ (w5 w8 w9 : World) (t5 : T) (i5 : Nat) (r5 : Bool) (e0 e1 : Int) (e2 : ByteArray) (C0 : Option Addr) (n0 d0 g9 cap9 : Nat), Kd ab rb B wr w5 → Ds w5 lb ab rb nb fb lv i5 r5 → TP w5 (fun b => wr.heap.size ≤ b) t5 (.agg #[.int .i64 e0, .int .i64 e1, .string e2, .slice C0 n0 d0]) → i5 ≤ l.length → Hid (match pdT l f' i' with | some (t', j') => t5 = t' ∧ i5 = j' ∧ r5 = true | none => r5 = false) → Below w5.heap.size w5 w8 →
            w9.ownsRow (w1.heap.size + 2) 24 4 (.slice (some ⟨g9, 0, none⟩) (q + 1) cap9) (q + 1) (xc ++ [.int .i64 e0, .int .i64 e1, .string e2, .slice C0 n0 d0]) → w8.grownBy w9 (Value.slice oA q oc).ownBlock → ((Value.slice oA q oc).ownBlock = some g9 ∨ g9 = w8.heap.size) →
            w9.cell? ⟨w1.heap.size + 1, 3, none⟩ = some (.slice oA q oc) ∧ (∀ j, w9.frozen? ⟨w1.heap.size + 1, j, none⟩ = false) ∧ w1.heap.size + 1 < w9.heap.size ∧
            (∃ (ts : List T) (i' : Nat) (rr : Bool) (o : Value) (xc : List Value), Value.int .i64 ((q : Int) + 1) = .int .i64 (ts.length : Int) ∧ i' ≤ l.length ∧ ts.length ≤ l.length + 1 ∧
        BldI (fun k => ts.getD k .nil) 0 B w.heap.size w.heap.size (w1.heap.size + 1) (w1.heap.size + 2) #[.int .i64 0, .int .i64 0, .string ⟨#[]⟩, .slice none 0 0] #[.int .i64 0, .int .i64 0, .string ⟨#[]⟩, .slice none 0 0] xs ts.length w (w9.setCell ⟨w1.heap.size + 1, 3, none⟩ (.slice (some ⟨g9, 0, none⟩) (q + 1) cap9)) ts.length o xc ∧
        (w9.setCell ⟨w1.heap.size + 1, 3, none⟩ (.slice (some ⟨g9, 0, none⟩) (q + 1) cap9)).heap[w1.heap.size]? = some (.cells #[.int .i64 6, .int .i64 xa, .string xs] 50 (0, 0)) ∧ Ds (w9.setCell ⟨w1.heap.size + 1, 3, none⟩ (.slice (some ⟨g9, 0, none⟩) (q + 1) cap9)) lb ab rb nb fb lv i' rr ∧ Kd ab rb B w (w9.setCell ⟨w1.heap.size + 1, 3, none⟩ (.slice (some ⟨g9, 0, none⟩) (q + 1) cap9)) ∧
        Hid (ArgD (pdT l f') xa.toNat l.length ts i' rr (argsR (pdT l f') xa.toNat [] (i + 1)) ∧ (rr = true → ts.length ≤ i'))) from fun w5 w8 w9 t5 i5 r5 e0 e1 e2 C0 n0 d0 g9 cap9 hk5 hds5 hv5 hi5 hh5 h8 hown9 hg9 hat9 => by
          have bk5 := hk5.boxes DS.out
          have hs5 : wr.heap.size ≤ w5.heap.size := hk5.low.size
          have hs8 := h8.size
          have bk8 : ∀ (b : Nat) (cs : Array Value) (m : Nat × Nat), wr.heap[b]? = some (Obj.cells cs 24 m) → w8.heap[b]? = some (Obj.cells cs 24 m) := fun b cs m hh => (h8.block b (heap_lt (bk5 b cs m hh))).trans (bk5 b cs m hh)
          have hol := BL.out.own.lt
          have hlw' := BL.out.lw
          have hBs : B ≤ wr.heap.size := by omega
          have i5' : w5.heap[w1.heap.size]? = some (.cells #[.int .i64 6, .int .i64 xa, .string xs] 50 (0, 0)) := (hk5.keep _ (heap_lt HIN.out) (cells_ne HIN.out DS.out.ha (by decide)) (cells_ne HIN.out DS.out.hr (by decide))).trans HIN.out
          have far : ∀ b, b < w1.heap.size + 2 → some b ≠ (Value.slice oA q oc).ownBlock := fun b hb' e => by have := (hol b e.symm).1; omega
          have ob9 : w9.heap[w1.heap.size + 1]? = some (.cells #[.int .i64 4, .int .i64 0, .string xs, .slice oA q oc] 24 (0, 0)) := (hg9.block _ (by omega) (far _ (by omega))).trans (bk8 _ _ _ BL.out.ob)
          have tgt : ∀ (b : Nat) (cs : Array Value) (t : TypeId) (m : Nat × Nat), w5.heap[b]? = some (.cells cs t m) → t ≠ 24 → (w9.setCell ⟨w1.heap.size + 1, 3, none⟩ (.slice (some ⟨g9, 0, none⟩) (q + 1) cap9)).heap[b]? = some (.cells cs t m) := fun b cs t m hh hne => by
            have hb5 := heap_lt hh
            have h8' := (h8.block b hb5).trans hh
            have n1 : b ≠ w1.heap.size + 1 := cells_ne hh (bk5 _ _ _ BL.out.ob) hne
            have n2 : some b ≠ (Value.slice oA q oc).ownBlock := fun e => by
              obtain ⟨cs', f', hx⟩ := Go.Lib.ownsRow_kind BL.out.own b e.symm
              exact cells_ne hh (bk5 _ _ _ hx) hne rfl
            exact (Below.heap_setCell _ _ _ _ n1).trans ((hg9.block b (by omega) n2).trans h8')
          have hds9 : Ds (w9.setCell ⟨w1.heap.size + 1, 3, none⟩ (.slice (some ⟨g9, 0, none⟩) (q + 1) cap9)) lb ab rb nb fb lv i5 r5 := ⟨tgt _ _ _ _ hds5.hl (by decide), tgt _ _ _ _ hds5.ha (by decide), tgt _ _ _ _ hds5.hr (by decide), tgt _ _ _ _ hds5.hn (by decide), tgt _ _ _ _ hds5.hf (by decide)⟩
          have hlen : (ts ++ [t5]).length = q + 1 := by have := HQ.out; simp; omega
          have BP := BldI.pushK (ch := fun k => (ts ++ [t5]).getD k .nil) (m := q + 1) hgeo.out (BL.out.ch (ch' := fun k => (ts ++ [t5]).getD k .nil) (fun k hk => by have := HQ.out; simp only [List.getD_eq_getElem?_getD]; rw [List.getElem?_append_left (by omega)]) (Nat.le_succ q)) bk8 (by omega) (((KD.out.trans hk5).low).trans (h8.mono (by omega))) (by
            have e : (ts ++ [t5]).getD q .nil = t5 := by have := HQ.out; subst this; simp
            show TP w8 _ ((ts ++ [t5]).getD q .nil) _
            rw [e]
            exact (hv5.below h8).more fun b hb => .inr hb) hown9 hg9 hat9 (Nat.lt_succ_self q)
          have hl9 := heap_lt ob9
          refine ⟨(box4t ob9).2.2.2, fun j => by simp [World.frozen?, ob9], hl9, ts ++ [t5], i5, r5, _, _, by rw [hlen]; rfl, hi5, ?_, by rw [hlen]; exact BP, tgt _ _ _ _ i5' (by decide), hds9, ⟨BP.low, fun b hb h1 h2 => ?_⟩, ?_⟩
          · have := hK.out.2 rfl; have := HQ.out; omega
          · have hb2 : b < wr.heap.size := Nat.lt_of_lt_of_le hb KD.out.low.size
            have hb3 := hk5.keep b hb2 h1 h2
            exact (Below.heap_setCell _ _ _ _ (show b ≠ w1.heap.size + 1 by omega)).trans ((hg9.block b (by omega) (far b (by omega))).trans ((h8.block b (by omega)).trans (hb3.trans (KD.out.keep b hb h1 h2))))
          · have hm := hh5.out
            rcases hK.out.1 with ⟨_, _, h3, h4⟩ | ⟨h1, _⟩
            · have hx : xa.toNat - ts.length = (xa.toNat - (ts ++ [t5]).length) + 1 := by have := HQ.out; omega
              rw [hx, argsR_succ] at h4
              have h5 := hK.out.2 rfl
              cases hr : pdT l f' i' with
              | none =>
                rw [hr] at hm h4
                exact Lib.hid ⟨.inr ⟨hm, h4⟩, fun h => by rw [hm] at h; cases h⟩
              | some p =>
                obtain ⟨t', j2⟩ := p
                rw [hr] at hm h4
                obtain ⟨rfl, rfl, rfl⟩ := hm
                have hj := pd_le l f' i' t5 i5 hr
                exact Lib.hid ⟨.inl ⟨rfl, hi5, by have := HQ.out; omega, h4⟩, fun _ => by rw [hlen]; have := HQ.out; omega⟩
            · cases h1)
        have hwf : IntKind.i64.wrap ((D : Int) + 1) = (D : Int) + 1 := by rw [IntKind.wrap_i64]; omega
        unfold fnR at y3
        go_wp2_with fail
        refine wp_region_held_drew (S := fun w1 => True) (by kernel_rfl) ?Sr15 (fun hH0 => ?Br15)
        case Sr15 => (trivial)
        refine wpAnyH_take (i := 0) (oi := { dst := some 51, op := Go.Op.fieldAddr 24 (Go.Operand.tmp 7) 3, type := 0, pos := "code.go:83", after := #[], guard := none }) (v := ?vr150) rfl (by kernel_rfl) (by kernel_rfl) (by kernel_rfl) (fun _ _ _ h => h) (Or.inl ⟨by rfl, ?hyr150⟩) (by assumption) ?restr150
        case hyr150 => (intro w hSw; (try dsimp only at hSw); go_simp; try with_reducible rfl)
        try simp only [Act.put, List.setIfInBounds_toArray, List.set_cons_zero, List.set_cons_succ]
        refine wpAnyH_take (i := 3) (oi := { dst := some 54, op := Go.Op.move (Go.Operand.tmp 0), type := 3, pos := "code.go:83", after := #[], guard := none }) (v := ?vr153) rfl (by kernel_rfl) (by kernel_rfl) (by kernel_rfl) (fun _ _ _ h => h) (Or.inl ⟨by rfl, ?hyr153⟩) (by assumption) ?restr153
        case hyr153 => (intro w hSw; (try dsimp only at hSw); go_simp; try with_reducible rfl)
        try simp only [Act.put, List.setIfInBounds_toArray, List.set_cons_zero, List.set_cons_succ]
        refine wpAnyH_take (i := 4) (oi := { dst := some 55, op := Go.Op.binOp Go.BinOp.add 3 (Go.Operand.tmp 54) (Go.Operand.const (Go.Value.int Go.IntKind.i64 1)) 3, type := 3, pos := "code.go:83", after := #[{ on := 3, ground := Go.Ground.data }], guard := none }) (v := ?vr154) rfl (by kernel_rfl) (by kernel_rfl) (by kernel_rfl) (fun _ _ _ h => h) (Or.inl ⟨by rfl, ?hyr154⟩) (by assumption) ?restr154
        case hyr154 => (intro w hSw; (try dsimp only at hSw); go_simp; try with_reducible rfl)
        try simp only [Act.put, List.setIfInBounds_toArray, List.set_cons_zero, List.set_cons_succ]
        refine wpAnyH_ready (rs := [1, 2]) (by kernel_rfl) (by simp) ?_
        refine AllReadyH.cons (o := { dst := some 52, op := Go.Op.load 22 (Go.Operand.tmp 51), type := 22, pos := "code.go:83", after := #[{ on := 0, ground := Go.Ground.data }], guard := none }) rfl (fun K hK => ?opq1) ?nxq2
        case opq1 =>
          go_simp
          refine hK.out _ _ trivial (fun hHq1 => ?Rq1)
          clear hK K
          try simp only [Act.put, List.setIfInBounds_toArray, List.set_cons_zero, List.set_cons_succ]
          refine wpAnyH_ready (rs := [2]) (by kernel_rfl) (by simp) ?_
          refine AllReadyH.cons (o := { dst := some 53, op := Go.Op.load 71 (Go.Operand.tmp 3), type := 71, pos := "code.go:83", after := #[], guard := none }) rfl (fun K hK => ?opq4) ?nilq5
          case opq4 =>
            go_simp
            refine hK.out _ _ trivial (fun hHq4 => ?Rq4)
            clear hK K
            try simp only [Act.put, List.setIfInBounds_toArray, List.set_cons_zero, List.set_cons_succ]
            refine wpAnyH_ready (rs := [5]) (by kernel_rfl) (by simp) ?_
            refine AllReadyH.cons (o := { dst := some 56, op := Go.Op.call { callee := Go.Callee.value (Go.Operand.tmp 53), args := #[Go.Operand.tmp 55], argTypes := #[3] }, type := 24, pos := "code.go:83", after := #[{ on := 2, ground := Go.Ground.data }, { on := 4, ground := Go.Ground.data }], guard := none }) rfl (fun K hK => ?opq6) ?nilq7
            case opq6 =>
              go_simp
              try rw [hwf]
              refine (CI.out _ (by repeat (first | (with_reducible exact Below.refl _ _) | (with_reducible refine Below.drew ?_) | (with_reducible refine Below.alloc ?_ (by simp) _)))).mono ?_
              rintro e w5 ⟨v5, t5, i5, r5, rfl, hv5, hds5, hi5, hh5, hk5⟩
              obtain ⟨e0, e1, e2, B0, n0, d0, rfl⟩ := hv5.agg
              have BK5 := Lib.hid (hk5.boxes DS.out)
              have V5 := Lib.hid hv5
              have DS5 := Lib.hid hds5
              have K5 := Lib.hid hk5
              have hs5 : wr.heap.size ≤ w5.heap.size := hk5.low.size
              have hl5 : w1.heap.size + 1 < w5.heap.size := by omega
              obtain ⟨z0, z1, z2, z3⟩ := box4t (BK5.out _ _ _ BL.out.ob)
              clear hv5 hds5 hk5
              go_wp2_with fail
              refine hK.out _ _ trivial (fun hHq6 => ?Rq6)
              clear hK K
              try simp only [Act.put, List.setIfInBounds_toArray, List.set_cons_zero, List.set_cons_succ]
              refine wpAnyH_ready (rs := [6]) (by kernel_rfl) (by simp) ?_
              refine AllReadyH.cons (o := { dst := some 57, op := Go.Op.buildSlice 22 1 #[(0, Go.Operand.tmp 56)], type := 22, pos := "code.go:83", after := #[{ on := 5, ground := Go.Ground.data }], guard := none }) rfl (fun K hK => ?opq8) ?nilq9
              case opq8 =>
                go_simp
                refine hK.out _ _ trivial (fun hHq8 => ?Rq8)
                clear hK K
                try simp only [Act.put, List.setIfInBounds_toArray, List.set_cons_zero, List.set_cons_succ]
                refine wpAnyH_ready (rs := [7]) (by kernel_rfl) (by simp) ?_
                refine AllReadyH.cons (o := { dst := some 58, op := Go.Op.call { callee := Go.Callee.builtin Go.Builtin.append, args := #[Go.Operand.tmp 52, Go.Operand.tmp 57], argTypes := #[22, 22] }, type := 22, pos := "code.go:83", after := #[{ on := 1, ground := Go.Ground.data }, { on := 6, ground := Go.Ground.data }, { on := 5, ground := Go.Ground.chain }], guard := none }) rfl (fun K hK => ?opq10) ?nilq11
                case opq10 =>
                  refine step_append_lies _ rfl _ _ _ rfl (w1.heap.size + 2) 24 item (.agg #[.int .i64 0, .int .i64 0, .string ⟨#[]⟩, .slice none 0 0]) 4 56 Tryd.underlying22 ji1 ji2 ji3 ji4 rfl (by omega) _ q xc rfl (own_below (own_keepT BL.out.own BK5.out) (show Below w5.heap.size w5 _ from (by repeat (first | (with_reducible exact Below.refl _ _) | (with_reducible refine Below.drew ?_) | (with_reducible refine Below.alloc ?_ (by simp) _))))) ⟨w5.heap.size, 0, none⟩ 1 1 [.int .i64 e0, .int .i64 e1, .string e2, .slice B0 n0 d0] rfl rfl (World.news_of_block (heap_at _ _ (by simp))) ?smq10 (by omega) (by unfold maxLen; omega) (by omega) (by simp; omega) _ rfl ?_
                  case smq10 => (intro u hu; simp only [List.mem_cons, List.not_mem_nil, or_false] at hu; rcases hu with rfl | rfl | rfl | rfl <;> rfl)
                  intro g9 cap9 w9 hown9 hg9 hat9 hlt9
                  have EE := Lib.hid (END.out w5 _ w9 t5 i5 r5 e0 e1 e2 B0 n0 d0 g9 cap9 K5.out DS5.out V5.out hi5 hh5 (show Below w5.heap.size w5 _ from (by repeat (first | (with_reducible exact Below.refl _ _) | (with_reducible refine Below.drew ?_) | (with_reducible refine Below.alloc ?_ (by simp) _)))) hown9 hg9 (hat9.imp id fun e => e.trans (by simp)))
                  have p9 := EE.out.1
                  have f9 : ∀ j, w9.frozen? ⟨w1.heap.size + 1, j, none⟩ = false := EE.out.2.1
                  have hl9 := EE.out.2.2.1
                  clear hown9 hg9 hat9 hlt9
                  refine hK.out _ _ trivial (fun hHq10 => ?Rq10)
                  clear hK K
                  try simp only [Act.put, List.setIfInBounds_toArray, List.set_cons_zero, List.set_cons_succ]
                  refine wpAnyH_take (i := 8) (oi := { dst := some 59, op := Go.Op.fieldAddr 24 (Go.Operand.tmp 7) 3, type := 0, pos := "code.go:83", after := #[{ on := 0, ground := Go.Ground.phase }, { on := 1, ground := Go.Ground.phase }, { on := 2, ground := Go.Ground.phase }, { on := 3, ground := Go.Ground.phase }, { on := 4, ground := Go.Ground.phase }, { on := 5, ground := Go.Ground.phase }, { on := 6, ground := Go.Ground.phase }, { on := 7, ground := Go.Ground.phase }], guard := none }) (v := ?vq128) rfl (by kernel_rfl) (by kernel_rfl) (by kernel_rfl) (fun _ _ _ h => h) (Or.inl ⟨by rfl, ?hyq128⟩) (by assumption) ?restq128
                  case hyq128 => (intro w hSw; (try dsimp only at hSw); go_simp; try with_reducible rfl)
                  try simp only [Act.put, List.setIfInBounds_toArray, List.set_cons_zero, List.set_cons_succ]
                  refine wpAnyH_ready (rs := [9]) (by kernel_rfl) (by simp) ?_
                  refine AllReadyH.cons (o := { dst := none, op := Go.Op.store 22 (Go.Operand.tmp 59) (Go.Operand.tmp 58), type := 0, pos := "code.go:83", after := #[{ on := 8, ground := Go.Ground.data }, { on := 7, ground := Go.Ground.data }, { on := 7, ground := Go.Ground.chain }, { on := 0, ground := Go.Ground.phase }, { on := 1, ground := Go.Ground.phase }, { on := 2, ground := Go.Ground.phase }, { on := 3, ground := Go.Ground.phase }, { on := 4, ground := Go.Ground.phase }, { on := 5, ground := Go.Ground.phase }, { on := 6, ground := Go.Ground.phase }, { on := 7, ground := Go.Ground.phase }], guard := none }) rfl (fun K hK => ?opzq12) ?nilzq12
                  case opzq12 =>
                    go_simp
                    refine hK.out _ _ trivial (fun hHzq12 => ?Rzq12)
                    clear hK K
                    try simp only [Act.put, List.setIfInBounds_toArray, List.set_cons_zero, List.set_cons_succ]
                    refine wpAnyH_done (by kernel_rfl) ?_ _
                    go_wp2_with fail
                    go_roundw
                    case rel => exact EE.out.2.2.2
                    case measure => (simp [intOf]; omega)
                  case nilzq12 => exact AllReadyH.nil
                case nilq11 => exact AllReadyH.nil
              case nilq9 => exact AllReadyH.nil
            case nilq7 => exact AllReadyH.nil
          case nilq5 => exact AllReadyH.nil
        case nxq2 =>
          refine AllReadyH.cons (o := { dst := some 53, op := Go.Op.load 71 (Go.Operand.tmp 3), type := 71, pos := "code.go:83", after := #[], guard := none }) rfl (fun K hK => ?opq2) ?nilq3
          case opq2 =>
            go_simp
            refine hK.out _ _ trivial (fun hHq2 => ?Rq2)
            clear hK K
            try simp only [Act.put, List.setIfInBounds_toArray, List.set_cons_zero, List.set_cons_succ]
            refine wpAnyH_ready (rs := [1, 5]) (by kernel_rfl) (by simp) ?_
            refine AllReadyH.cons (o := { dst := some 52, op := Go.Op.load 22 (Go.Operand.tmp 51), type := 22, pos := "code.go:83", after := #[{ on := 0, ground := Go.Ground.data }], guard := none }) rfl (fun K hK => ?opq13) ?nxq14
            case opq13 =>
              go_simp
              refine hK.out _ _ trivial (fun hHq13 => ?Rq13)
              clear hK K
              try simp only [Act.put, List.setIfInBounds_toArray, List.set_cons_zero, List.set_cons_succ]
              refine wpAnyH_ready (rs := [5]) (by kernel_rfl) (by simp) ?_
              refine AllReadyH.cons (o := { dst := some 56, op := Go.Op.call { callee := Go.Callee.value (Go.Operand.tmp 53), args := #[Go.Operand.tmp 55], argTypes := #[3] }, type := 24, pos := "code.go:83", after := #[{ on := 2, ground := Go.Ground.data }, { on := 4, ground := Go.Ground.data }], guard := none }) rfl (fun K hK => ?opq16) ?nilq17
              case opq16 =>
                go_simp
                try rw [hwf]
                refine (CI.out _ (by repeat (first | (with_reducible exact Below.refl _ _) | (with_reducible refine Below.drew ?_) | (with_reducible refine Below.alloc ?_ (by simp) _)))).mono ?_
                rintro e w5 ⟨v5, t5, i5, r5, rfl, hv5, hds5, hi5, hh5, hk5⟩
                obtain ⟨e0, e1, e2, B0, n0, d0, rfl⟩ := hv5.agg
                have BK5 := Lib.hid (hk5.boxes DS.out)
                have V5 := Lib.hid hv5
                have DS5 := Lib.hid hds5
                have K5 := Lib.hid hk5
                have hs5 : wr.heap.size ≤ w5.heap.size := hk5.low.size
                have hl5 : w1.heap.size + 1 < w5.heap.size := by omega
                obtain ⟨z0, z1, z2, z3⟩ := box4t (BK5.out _ _ _ BL.out.ob)
                clear hv5 hds5 hk5
                go_wp2_with fail
                refine hK.out _ _ trivial (fun hHq16 => ?Rq16)
                clear hK K
                try simp only [Act.put, List.setIfInBounds_toArray, List.set_cons_zero, List.set_cons_succ]
                refine wpAnyH_ready (rs := [6]) (by kernel_rfl) (by simp) ?_
                refine AllReadyH.cons (o := { dst := some 57, op := Go.Op.buildSlice 22 1 #[(0, Go.Operand.tmp 56)], type := 22, pos := "code.go:83", after := #[{ on := 5, ground := Go.Ground.data }], guard := none }) rfl (fun K hK => ?opq18) ?nilq19
                case opq18 =>
                  go_simp
                  refine hK.out _ _ trivial (fun hHq18 => ?Rq18)
                  clear hK K
                  try simp only [Act.put, List.setIfInBounds_toArray, List.set_cons_zero, List.set_cons_succ]
                  refine wpAnyH_ready (rs := [7]) (by kernel_rfl) (by simp) ?_
                  refine AllReadyH.cons (o := { dst := some 58, op := Go.Op.call { callee := Go.Callee.builtin Go.Builtin.append, args := #[Go.Operand.tmp 52, Go.Operand.tmp 57], argTypes := #[22, 22] }, type := 22, pos := "code.go:83", after := #[{ on := 1, ground := Go.Ground.data }, { on := 6, ground := Go.Ground.data }, { on := 5, ground := Go.Ground.chain }], guard := none }) rfl (fun K hK => ?opq20) ?nilq21
                  case opq20 =>
                    refine step_append_lies _ rfl _ _ _ rfl (w1.heap.size + 2) 24 item (.agg #[.int .i64 0, .int .i64 0, .string ⟨#[]⟩, .slice none 0 0]) 4 56 Tryd.underlying22 ji1 ji2 ji3 ji4 rfl (by omega) _ q xc rfl (own_below (own_keepT BL.out.own BK5.out) (show Below w5.heap.size w5 _ from (by repeat (first | (with_reducible exact Below.refl _ _) | (with_reducible refine Below.drew ?_) | (with_reducible refine Below.alloc ?_ (by simp) _))))) ⟨w5.heap.size, 0, none⟩ 1 1 [.int .i64 e0, .int .i64 e1, .string e2, .slice B0 n0 d0] rfl rfl (World.news_of_block (heap_at _ _ (by simp))) ?smq20 (by omega) (by unfold maxLen; omega) (by omega) (by simp; omega) _ rfl ?_
                    case smq20 => (intro u hu; simp only [List.mem_cons, List.not_mem_nil, or_false] at hu; rcases hu with rfl | rfl | rfl | rfl <;> rfl)
                    intro g9 cap9 w9 hown9 hg9 hat9 hlt9
                    have EE := Lib.hid (END.out w5 _ w9 t5 i5 r5 e0 e1 e2 B0 n0 d0 g9 cap9 K5.out DS5.out V5.out hi5 hh5 (show Below w5.heap.size w5 _ from (by repeat (first | (with_reducible exact Below.refl _ _) | (with_reducible refine Below.drew ?_) | (with_reducible refine Below.alloc ?_ (by simp) _)))) hown9 hg9 (hat9.imp id fun e => e.trans (by simp)))
                    have p9 := EE.out.1
                    have f9 : ∀ j, w9.frozen? ⟨w1.heap.size + 1, j, none⟩ = false := EE.out.2.1
                    have hl9 := EE.out.2.2.1
                    clear hown9 hg9 hat9 hlt9
                    refine hK.out _ _ trivial (fun hHq20 => ?Rq20)
                    clear hK K
                    try simp only [Act.put, List.setIfInBounds_toArray, List.set_cons_zero, List.set_cons_succ]
                    refine wpAnyH_take (i := 8) (oi := { dst := some 59, op := Go.Op.fieldAddr 24 (Go.Operand.tmp 7) 3, type := 0, pos := "code.go:83", after := #[{ on := 0, ground := Go.Ground.phase }, { on := 1, ground := Go.Ground.phase }, { on := 2, ground := Go.Ground.phase }, { on := 3, ground := Go.Ground.phase }, { on := 4, ground := Go.Ground.phase }, { on := 5, ground := Go.Ground.phase }, { on := 6, ground := Go.Ground.phase }, { on := 7, ground := Go.Ground.phase }], guard := none }) (v := ?vq228) rfl (by kernel_rfl) (by kernel_rfl) (by kernel_rfl) (fun _ _ _ h => h) (Or.inl ⟨by rfl, ?hyq228⟩) (by assumption) ?restq228
                    case hyq228 => (intro w hSw; (try dsimp only at hSw); go_simp; try with_reducible rfl)
                    try simp only [Act.put, List.setIfInBounds_toArray, List.set_cons_zero, List.set_cons_succ]
                    refine wpAnyH_ready (rs := [9]) (by kernel_rfl) (by simp) ?_
                    refine AllReadyH.cons (o := { dst := none, op := Go.Op.store 22 (Go.Operand.tmp 59) (Go.Operand.tmp 58), type := 0, pos := "code.go:83", after := #[{ on := 8, ground := Go.Ground.data }, { on := 7, ground := Go.Ground.data }, { on := 7, ground := Go.Ground.chain }, { on := 0, ground := Go.Ground.phase }, { on := 1, ground := Go.Ground.phase }, { on := 2, ground := Go.Ground.phase }, { on := 3, ground := Go.Ground.phase }, { on := 4, ground := Go.Ground.phase }, { on := 5, ground := Go.Ground.phase }, { on := 6, ground := Go.Ground.phase }, { on := 7, ground := Go.Ground.phase }], guard := none }) rfl (fun K hK => ?opzq22) ?nilzq22
                    case opzq22 =>
                      go_simp
                      refine hK.out _ _ trivial (fun hHzq22 => ?Rzq22)
                      clear hK K
                      try simp only [Act.put, List.setIfInBounds_toArray, List.set_cons_zero, List.set_cons_succ]
                      refine wpAnyH_done (by kernel_rfl) ?_ _
                      go_wp2_with fail
                      go_roundw
                      case rel => exact EE.out.2.2.2
                      case measure => (simp [intOf]; omega)
                    case nilzq22 => exact AllReadyH.nil
                  case nilq21 => exact AllReadyH.nil
                case nilq19 => exact AllReadyH.nil
              case nilq17 => exact AllReadyH.nil
            case nxq14 =>
              refine AllReadyH.cons (o := { dst := some 56, op := Go.Op.call { callee := Go.Callee.value (Go.Operand.tmp 53), args := #[Go.Operand.tmp 55], argTypes := #[3] }, type := 24, pos := "code.go:83", after := #[{ on := 2, ground := Go.Ground.data }, { on := 4, ground := Go.Ground.data }], guard := none }) rfl (fun K hK => ?opq14) ?nilq15
              case opq14 =>
                go_simp
                try rw [hwf]
                refine (CI.out _ (by repeat (first | (with_reducible exact Below.refl _ _) | (with_reducible refine Below.drew ?_) | (with_reducible refine Below.alloc ?_ (by simp) _)))).mono ?_
                rintro e w5 ⟨v5, t5, i5, r5, rfl, hv5, hds5, hi5, hh5, hk5⟩
                obtain ⟨e0, e1, e2, B0, n0, d0, rfl⟩ := hv5.agg
                have BK5 := Lib.hid (hk5.boxes DS.out)
                have V5 := Lib.hid hv5
                have DS5 := Lib.hid hds5
                have K5 := Lib.hid hk5
                have hs5 : wr.heap.size ≤ w5.heap.size := hk5.low.size
                have hl5 : w1.heap.size + 1 < w5.heap.size := by omega
                obtain ⟨z0, z1, z2, z3⟩ := box4t (BK5.out _ _ _ BL.out.ob)
                clear hv5 hds5 hk5
                go_wp2_with fail
                refine hK.out _ _ trivial (fun hHq14 => ?Rq14)
                clear hK K
                try simp only [Act.put, List.setIfInBounds_toArray, List.set_cons_zero, List.set_cons_succ]
                refine wpAnyH_ready (rs := [1, 6]) (by kernel_rfl) (by simp) ?_
                refine AllReadyH.cons (o := { dst := some 52, op := Go.Op.load 22 (Go.Operand.tmp 51), type := 22, pos := "code.go:83", after := #[{ on := 0, ground := Go.Ground.data }], guard := none }) rfl (fun K hK => ?opq23) ?nxq24
                case opq23 =>
                  go_simp
                  refine hK.out _ _ trivial (fun hHq23 => ?Rq23)
                  clear hK K
                  try simp only [Act.put, List.setIfInBounds_toArray, List.set_cons_zero, List.set_cons_succ]
                  refine wpAnyH_ready (rs := [6]) (by kernel_rfl) (by simp) ?_
                  refine AllReadyH.cons (o := { dst := some 57, op := Go.Op.buildSlice 22 1 #[(0, Go.Operand.tmp 56)], type := 22, pos := "code.go:83", after := #[{ on := 5, ground := Go.Ground.data }], guard := none }) rfl (fun K hK => ?opq26) ?nilq27
                  case opq26 =>
                    go_simp
                    refine hK.out _ _ trivial (fun hHq26 => ?Rq26)
                    clear hK K
                    try simp only [Act.put, List.setIfInBounds_toArray, List.set_cons_zero, List.set_cons_succ]
                    refine wpAnyH_ready (rs := [7]) (by kernel_rfl) (by simp) ?_
                    refine AllReadyH.cons (o := { dst := some 58, op := Go.Op.call { callee := Go.Callee.builtin Go.Builtin.append, args := #[Go.Operand.tmp 52, Go.Operand.tmp 57], argTypes := #[22, 22] }, type := 22, pos := "code.go:83", after := #[{ on := 1, ground := Go.Ground.data }, { on := 6, ground := Go.Ground.data }, { on := 5, ground := Go.Ground.chain }], guard := none }) rfl (fun K hK => ?opq28) ?nilq29
                    case opq28 =>
                      refine step_append_lies _ rfl _ _ _ rfl (w1.heap.size + 2) 24 item (.agg #[.int .i64 0, .int .i64 0, .string ⟨#[]⟩, .slice none 0 0]) 4 56 Tryd.underlying22 ji1 ji2 ji3 ji4 rfl (by omega) _ q xc rfl (own_below (own_keepT BL.out.own BK5.out) (show Below w5.heap.size w5 _ from (by repeat (first | (with_reducible exact Below.refl _ _) | (with_reducible refine Below.drew ?_) | (with_reducible refine Below.alloc ?_ (by simp) _))))) ⟨w5.heap.size, 0, none⟩ 1 1 [.int .i64 e0, .int .i64 e1, .string e2, .slice B0 n0 d0] rfl rfl (World.news_of_block (heap_at _ _ (by simp))) ?smq28 (by omega) (by unfold maxLen; omega) (by omega) (by simp; omega) _ rfl ?_
                      case smq28 => (intro u hu; simp only [List.mem_cons, List.not_mem_nil, or_false] at hu; rcases hu with rfl | rfl | rfl | rfl <;> rfl)
                      intro g9 cap9 w9 hown9 hg9 hat9 hlt9
                      have EE := Lib.hid (END.out w5 _ w9 t5 i5 r5 e0 e1 e2 B0 n0 d0 g9 cap9 K5.out DS5.out V5.out hi5 hh5 (show Below w5.heap.size w5 _ from (by repeat (first | (with_reducible exact Below.refl _ _) | (with_reducible refine Below.drew ?_) | (with_reducible refine Below.alloc ?_ (by simp) _)))) hown9 hg9 (hat9.imp id fun e => e.trans (by simp)))
                      have p9 := EE.out.1
                      have f9 : ∀ j, w9.frozen? ⟨w1.heap.size + 1, j, none⟩ = false := EE.out.2.1
                      have hl9 := EE.out.2.2.1
                      clear hown9 hg9 hat9 hlt9
                      refine hK.out _ _ trivial (fun hHq28 => ?Rq28)
                      clear hK K
                      try simp only [Act.put, List.setIfInBounds_toArray, List.set_cons_zero, List.set_cons_succ]
                      refine wpAnyH_take (i := 8) (oi := { dst := some 59, op := Go.Op.fieldAddr 24 (Go.Operand.tmp 7) 3, type := 0, pos := "code.go:83", after := #[{ on := 0, ground := Go.Ground.phase }, { on := 1, ground := Go.Ground.phase }, { on := 2, ground := Go.Ground.phase }, { on := 3, ground := Go.Ground.phase }, { on := 4, ground := Go.Ground.phase }, { on := 5, ground := Go.Ground.phase }, { on := 6, ground := Go.Ground.phase }, { on := 7, ground := Go.Ground.phase }], guard := none }) (v := ?vq308) rfl (by kernel_rfl) (by kernel_rfl) (by kernel_rfl) (fun _ _ _ h => h) (Or.inl ⟨by rfl, ?hyq308⟩) (by assumption) ?restq308
                      case hyq308 => (intro w hSw; (try dsimp only at hSw); go_simp; try with_reducible rfl)
                      try simp only [Act.put, List.setIfInBounds_toArray, List.set_cons_zero, List.set_cons_succ]
                      refine wpAnyH_ready (rs := [9]) (by kernel_rfl) (by simp) ?_
                      refine AllReadyH.cons (o := { dst := none, op := Go.Op.store 22 (Go.Operand.tmp 59) (Go.Operand.tmp 58), type := 0, pos := "code.go:83", after := #[{ on := 8, ground := Go.Ground.data }, { on := 7, ground := Go.Ground.data }, { on := 7, ground := Go.Ground.chain }, { on := 0, ground := Go.Ground.phase }, { on := 1, ground := Go.Ground.phase }, { on := 2, ground := Go.Ground.phase }, { on := 3, ground := Go.Ground.phase }, { on := 4, ground := Go.Ground.phase }, { on := 5, ground := Go.Ground.phase }, { on := 6, ground := Go.Ground.phase }, { on := 7, ground := Go.Ground.phase }], guard := none }) rfl (fun K hK => ?opzq30) ?nilzq30
                      case opzq30 =>
                        go_simp
                        refine hK.out _ _ trivial (fun hHzq30 => ?Rzq30)
                        clear hK K
                        try simp only [Act.put, List.setIfInBounds_toArray, List.set_cons_zero, List.set_cons_succ]
                        refine wpAnyH_done (by kernel_rfl) ?_ _
                        go_wp2_with fail
                        go_roundw
                        case rel => exact EE.out.2.2.2
                        case measure => (simp [intOf]; omega)
                      case nilzq30 => exact AllReadyH.nil
                    case nilq29 => exact AllReadyH.nil
                  case nilq27 => exact AllReadyH.nil
                case nxq24 =>
                  refine AllReadyH.cons (o := { dst := some 57, op := Go.Op.buildSlice 22 1 #[(0, Go.Operand.tmp 56)], type := 22, pos := "code.go:83", after := #[{ on := 5, ground := Go.Ground.data }], guard := none }) rfl (fun K hK => ?opq24) ?nilq25
                  case opq24 =>
                    go_simp
                    refine hK.out _ _ trivial (fun hHq24 => ?Rq24)
                    clear hK K
                    try simp only [Act.put, List.setIfInBounds_toArray, List.set_cons_zero, List.set_cons_succ]
                    refine wpAnyH_ready (rs := [1]) (by kernel_rfl) (by simp) ?_
                    refine AllReadyH.cons (o := { dst := some 52, op := Go.Op.load 22 (Go.Operand.tmp 51), type := 22, pos := "code.go:83", after := #[{ on := 0, ground := Go.Ground.data }], guard := none }) rfl (fun K hK => ?opq31) ?nilq32
                    case opq31 =>
                      go_simp
                      refine hK.out _ _ trivial (fun hHq31 => ?Rq31)
                      clear hK K
                      try simp only [Act.put, List.setIfInBounds_toArray, List.set_cons_zero, List.set_cons_succ]
                      refine wpAnyH_ready (rs := [7]) (by kernel_rfl) (by simp) ?_
                      refine AllReadyH.cons (o := { dst := some 58, op := Go.Op.call { callee := Go.Callee.builtin Go.Builtin.append, args := #[Go.Operand.tmp 52, Go.Operand.tmp 57], argTypes := #[22, 22] }, type := 22, pos := "code.go:83", after := #[{ on := 1, ground := Go.Ground.data }, { on := 6, ground := Go.Ground.data }, { on := 5, ground := Go.Ground.chain }], guard := none }) rfl (fun K hK => ?opq33) ?nilq34
                      case opq33 =>
                        refine step_append_lies _ rfl _ _ _ rfl (w1.heap.size + 2) 24 item (.agg #[.int .i64 0, .int .i64 0, .string ⟨#[]⟩, .slice none 0 0]) 4 56 Tryd.underlying22 ji1 ji2 ji3 ji4 rfl (by omega) _ q xc rfl (own_below (own_keepT BL.out.own BK5.out) (show Below w5.heap.size w5 _ from (by repeat (first | (with_reducible exact Below.refl _ _) | (with_reducible refine Below.drew ?_) | (with_reducible refine Below.alloc ?_ (by simp) _))))) ⟨w5.heap.size, 0, none⟩ 1 1 [.int .i64 e0, .int .i64 e1, .string e2, .slice B0 n0 d0] rfl rfl (World.news_of_block (heap_at _ _ (by simp))) ?smq33 (by omega) (by unfold maxLen; omega) (by omega) (by simp; omega) _ rfl ?_
                        case smq33 => (intro u hu; simp only [List.mem_cons, List.not_mem_nil, or_false] at hu; rcases hu with rfl | rfl | rfl | rfl <;> rfl)
                        intro g9 cap9 w9 hown9 hg9 hat9 hlt9
                        have EE := Lib.hid (END.out w5 _ w9 t5 i5 r5 e0 e1 e2 B0 n0 d0 g9 cap9 K5.out DS5.out V5.out hi5 hh5 (show Below w5.heap.size w5 _ from (by repeat (first | (with_reducible exact Below.refl _ _) | (with_reducible refine Below.drew ?_) | (with_reducible refine Below.alloc ?_ (by simp) _)))) hown9 hg9 (hat9.imp id fun e => e.trans (by simp)))
                        have p9 := EE.out.1
                        have f9 : ∀ j, w9.frozen? ⟨w1.heap.size + 1, j, none⟩ = false := EE.out.2.1
                        have hl9 := EE.out.2.2.1
                        clear hown9 hg9 hat9 hlt9
                        refine hK.out _ _ trivial (fun hHq33 => ?Rq33)
                        clear hK K
                        try simp only [Act.put, List.setIfInBounds_toArray, List.set_cons_zero, List.set_cons_succ]
                        refine wpAnyH_take (i := 8) (oi := { dst := some 59, op := Go.Op.fieldAddr 24 (Go.Operand.tmp 7) 3, type := 0, pos := "code.go:83", after := #[{ on := 0, ground := Go.Ground.phase }, { on := 1, ground := Go.Ground.phase }, { on := 2, ground := Go.Ground.phase }, { on := 3, ground := Go.Ground.phase }, { on := 4, ground := Go.Ground.phase }, { on := 5, ground := Go.Ground.phase }, { on := 6, ground := Go.Ground.phase }, { on := 7, ground := Go.Ground.phase }], guard := none }) (v := ?vq358) rfl (by kernel_rfl) (by kernel_rfl) (by kernel_rfl) (fun _ _ _ h => h) (Or.inl ⟨by rfl, ?hyq358⟩) (by assumption) ?restq358
                        case hyq358 => (intro w hSw; (try dsimp only at hSw); go_simp; try with_reducible rfl)
                        try simp only [Act.put, List.setIfInBounds_toArray, List.set_cons_zero, List.set_cons_succ]
                        refine wpAnyH_ready (rs := [9]) (by kernel_rfl) (by simp) ?_
                        refine AllReadyH.cons (o := { dst := none, op := Go.Op.store 22 (Go.Operand.tmp 59) (Go.Operand.tmp 58), type := 0, pos := "code.go:83", after := #[{ on := 8, ground := Go.Ground.data }, { on := 7, ground := Go.Ground.data }, { on := 7, ground := Go.Ground.chain }, { on := 0, ground := Go.Ground.phase }, { on := 1, ground := Go.Ground.phase }, { on := 2, ground := Go.Ground.phase }, { on := 3, ground := Go.Ground.phase }, { on := 4, ground := Go.Ground.phase }, { on := 5, ground := Go.Ground.phase }, { on := 6, ground := Go.Ground.phase }, { on := 7, ground := Go.Ground.phase }], guard := none }) rfl (fun K hK => ?opzq35) ?nilzq35
                        case opzq35 =>
                          go_simp
                          refine hK.out _ _ trivial (fun hHzq35 => ?Rzq35)
                          clear hK K
                          try simp only [Act.put, List.setIfInBounds_toArray, List.set_cons_zero, List.set_cons_succ]
                          refine wpAnyH_done (by kernel_rfl) ?_ _
                          go_wp2_with fail
                          go_roundw
                          case rel => exact EE.out.2.2.2
                          case measure => (simp [intOf]; omega)
                        case nilzq35 => exact AllReadyH.nil
                      case nilq34 => exact AllReadyH.nil
                    case nilq32 => exact AllReadyH.nil
                  case nilq25 => exact AllReadyH.nil
              case nilq15 => exact AllReadyH.nil
          case nilq3 => exact AllReadyH.nil
      · have OO := Lib.hid (OUT.out hgo)
        have hex : (¬ (q : Int) < xa) ∨ rr = false := by
          cases rr with
          | false => exact .inr rfl
          | true => exact .inl fun h => hgo ⟨h, rfl⟩
        clear hgo
        by_cases hqa : (q : Int) < xa
        · obtain rfl : rr = false := by rcases hex with h | h; exact absurd hqa h; exact h
          go_wp2_with fail
          obtain ⟨p0, p1, p2, p3⟩ := box4t (box_put4 BL.out.rb (.int .i64 4) (.int .i64 0) (.string xs) (.slice oA q oc) rfl).1
          refine bodyPost_ret (v := .agg #[.int .i64 4, .int .i64 0, .string xs, .slice oA q oc]) (by simp [results, go_sem, p0, p1, p2, p3]) rfl ?_
          exact OO.out
        · go_wp2_with fail
          obtain ⟨p0, p1, p2, p3⟩ := box4t (box_put4 BL.out.rb (.int .i64 4) (.int .i64 0) (.string xs) (.slice oA q oc) rfl).1
          refine bodyPost_ret (v := .agg #[.int .i64 4, .int .i64 0, .string xs, .slice oA q oc]) (by simp [results, go_sem, p0, p1, p2, p3]) rfl ?_
          exact OO.out
  · have HNO := Lib.hid (show right = true → pdT l f i = none from fun hR => by
      rcases HX.out with ⟨_, h2, h3, h4⟩ | ⟨h1, _, _, _⟩
      · refine pd_no h2 HLF.out ?_
        rcases Decidable.em (xo = 6) with h6 | h6
        · right
          have : ¬ D ≤ 1000 := fun h => hgo ⟨by rw [h4, hR], h6, h⟩
          have := HDD.out
          omega
        · exact .inl h6
      · exact pd_end (by omega))
    have HGO := Lib.hid hgo
    clear hgo
    have key : (r1 = false) ∨ (r1 = true ∧ (xo == 6) = false) ∨ (r1 = true ∧ (xo == 6) = true ∧ ¬ (D : Int) ≤ 1000) := by
      cases r1 with
      | false => exact .inl rfl
      | true =>
        by_cases h6 : xo = 6
        · exact .inr (.inr ⟨rfl, by simpa using h6, fun h => HGO.out ⟨rfl, h6, by omega⟩⟩)
        · exact .inr (.inl ⟨rfl, by simpa using h6⟩)
    rcases key with rfl | ⟨rfl, h6⟩ | ⟨rfl, h6, hDD⟩
    case' inr.inr => obtain rfl : xo = 6 := by simpa using h6
    case' inr.inr => clear h6
    all_goals
      go_wp2_with fail
      go_loopw [8] (fun iv wr => iv = .int .i64 0 ∧ wr.heap[w.heap.size]? = some (.cells #[.int .i64 0, .int .i64 0, .string ⟨#[]⟩, .slice none 0 0] 24 (0, 0)) ∧ (∃ o, wr.heap[w1.heap.size]? = some (.cells #[o, .int .i64 xa, .string xs] 50 (0, 0))) ∧ wr.heap[w1.heap.size + 1]? = some (.cells #[.int .i64 4, .int .i64 0, .string xs, .slice none 0 0] 24 (0, 0)) ∧ Ds wr lb ab rb nb fb lv i1 false ∧ Kd ab rb B w wr) (fun _ _ => 0)
      case atStart =>
        first
        | exact ⟨rfl, SETF.out.2.2.1, ⟨_, SETF.out.2.2.2.1⟩, SETF.out.2.2.2.2, SETF.out.1, SETF.out.2.1⟩
        | (have e : decide ((D : Int) ≤ 1000) = false := decide_eq_false (by omega)
           rw [e]
           exact ⟨rfl, SETF.out.2.2.1, ⟨_, SETF.out.2.2.2.1⟩, SETF.out.2.2.2.2, SETF.out.1, SETF.out.2.1⟩)
      case round =>
        obtain ⟨rfl, a1, ⟨o, a2⟩, a3, a4, a5⟩ := hrel
        have PN := Lib.hid (NONE.out wr a1 a4 a5 HNO.out)
        have y1 := cell_of_row wr w1.heap.size 1 _ _ _ a2
        obtain ⟨t0, t1, t2, t3⟩ := box4t a3
        have y2 := cell_of_row wr rb 0 _ _ _ a4.hr
        obtain ⟨s0, s1, s2, s3⟩ := box4t a1
        have zs : ∀ j, wr.frozen? ⟨w.heap.size, j, none⟩ = false := fun j => by simp [World.frozen?, a1]
        have A1 := Lib.hid a1
        clear a1 a2 a3 a4 a5 u0 u1 u2 u3 zr zb p2
        by_cases hxp : (0 : Int) < xa
        all_goals
          go_wp2_with fail
          obtain ⟨p0, p1, p2, p3⟩ := box4t (box_put4 A1.out (.int .i64 4) (.int .i64 0) (.string xs) (.slice none 0 0) rfl).1
          refine bodyPost_ret (v := .agg #[.int .i64 4, .int .i64 0, .string xs, .slice none 0 0]) (by simp [results, go_sem, p0, p1, p2, p3]) rfl ?_
          exact PN.out
end Go.Proofs.YtlgeepjlnjlgdaaDoor
namespace Go.Proofs.YtlgeepjlnjlgdaaDoor
open Go.RowKit

theorem read_d {l : List Ins} (hl : InsOk l) {lb ab rb nb fb B : Nat} {lv : Value} (hBa : B ≤ ab) (hBr : B ≤ rb) : ∀ (f : Nat), f ≤ 1000 → ReadC l lb ab rb nb fb B lv f
  | 0, hf => read_step hl hBa hBr 0 hf fun f' h => by omega
  | f + 1, hf => read_step hl hBa hBr (f + 1) hf fun f' h => by
      obtain rfl : f = f' := by omega
      exact read_d hl hBa hBr f (by omega)
end Go.Proofs.YtlgeepjlnjlgdaaDoor
