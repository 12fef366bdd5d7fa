/- A clause's own instructions, read back: the clause, its variables numbered. Terms that Compare calls the same. Terms numbered by where their variables come first; terms that are numbered alike have the same instructions: plain. A clause's own instructions: their numbers and names, how many; plain. -/
import Derived.Test.YtlgeepjlnjlgdaaDoorGf
import Derived.Test.YtlgeepjlnjlgdaaDoorGd
import Derived.Test.YtlgeepjlnjlgdaaDoorCo7
namespace Go.Proofs.YtlgeepjlnjlgdaaDoor
open Go.RowKit

/-- A term's variables by their places. -/
def renT (W : List Int) : T → T
  | .nil => .nil
  | .mk k n s m a => if k = 1 then vrT ((plN W n 0).getD 0 : Nat) else if k = 2 then inT n else if k = 3 then atT s else .mk 4 0 s m fun i => if i < m then renT W (a i) else .nil
theorem cmpT_range (s : ByteArray) (m : Nat) (g : Nat → T) : cmpT s ((List.range m).map g) = .mk 4 0 s m fun i => if i < m then g i else .nil := by
  unfold cmpT
  rw [List.length_map, List.length_range]
  congr 1
  funext i
  by_cases h : i < m
  · rw [if_pos h]; simp [List.getD_eq_getElem?_getD, h]
  · rw [if_neg h]; simp [List.getD_eq_getElem?_getD, h]
theorem plN_prefix {n : Int} {j : Nat} : ∀ {vs W : List Int} {i : Nat}, vs <+: W → plN vs n i = some j → plN W n i = some j
  | [], _, _, _, h => by cases h
  | x :: vs, [], _, hp, _ => by simp at hp
  | x :: vs, y :: W, i, hp, h => by
    obtain ⟨h1, h2⟩ := List.cons_prefix_cons.1 hp
    subst h1
    unfold plN at h ⊢
    split at h
    · rename_i hx; rw [if_pos hx]; exact h
    · rename_i hx; rw [if_neg hx]; exact plN_prefix h2 h
theorem codeT_grow (t : T) (h : t.kinds) (vs : List Int) : vs <+: (codeT t vs).2 := by
  rw [codeT_vars t h vs]
  generalize varsT t = l
  induction l generalizing vs with
  | nil => exact List.prefix_refl _
  | cons x l ih =>
    have h1 : vs <+: add1 vs x := by
      unfold add1
      split
      · exact List.prefix_refl _
      · exact List.prefix_append _ _
    exact h1.trans (ih (add1 vs x))
/-- Terms laid down behind one another are read back. -/
theorem fold_read {rd : Nat → Option (T × Nat)} {l rest : List Ins} {i0 : Nat} {m : Nat} {a : Nat → T} {F : Nat → List Ins × List Int} {g : Nat → T} (hl : l.drop i0 = (F m).1 ++ rest) (hs : ∀ q, q < m → (F (q + 1)).1 = (F q).1 ++ (codeT (a q) (F q).2).1)
    (hm : ∀ q, q ≤ m → (F q).1 <+: (F m).1)
    (hr : ∀ q, q < m → ∀ i r, l.drop i = (codeT (a q) (F q).2).1 ++ r → rd i = some (g q, i + (codeT (a q) (F q).2).1.length)) :
    ∀ (d q : Nat), q + d = m → argsR rd d ((List.range q).map g) (i0 + (F q).1.length) = some ((List.range m).map g, i0 + (F m).1.length)
  | 0, q, hq => by obtain rfl : q = m := by omega
                   rfl
  | d + 1, q, hq => by
    have hqm : q < m := by omega
    obtain ⟨r, he⟩ := hm (q + 1) (by omega)
    have h1 : l.drop (i0 + (F q).1.length) = (codeT (a q) (F q).2).1 ++ (r ++ rest) := by
      rw [← List.drop_drop, hl, ← he, hs q hqm]
      simp
    unfold argsR
    rw [hr q hqm _ _ h1]
    dsimp only
    have h2 := fold_read hl hs hm hr d (q + 1) (by omega)
    rw [hs q hqm, List.length_append, ← Nat.add_assoc, List.range_succ, List.map_append] at h2
    exact h2
theorem foldC_pre {f : Nat → List Int → List Ins × List Int} {r : List Ins × List Int} {q m : Nat} (h : q ≤ m) : (foldC q f r).1 <+: (foldC m f r).1 := by
  induction m with
  | zero => obtain rfl : q = 0 := by omega
            exact List.prefix_refl _
  | succ m ih =>
    rcases Nat.lt_or_ge q (m + 1) with h1 | h1
    · exact (ih (by omega)).trans (List.prefix_append _ _)
    · obtain rfl : q = m + 1 := by omega
      exact List.prefix_refl _
theorem foldC_grow {m : Nat} {a : Nat → T} (ha : ∀ i, i < m → (a i).kinds) {r : List Ins × List Int} {q : Nat} (h : q ≤ m) : (foldC q (fun i => codeT (a i)) r).2 <+: (foldC m (fun i => codeT (a i)) r).2 := by
  induction m with
  | zero => obtain rfl : q = 0 := by omega
            exact List.prefix_refl _
  | succ m ih =>
    rcases Nat.lt_or_ge q (m + 1) with h1 | h1
    · exact (ih (fun i hi => ha i (by omega)) (by omega)).trans (codeT_grow (a m) (ha m (by omega)) _)
    · obtain rfl : q = m + 1 := by omega
      exact List.prefix_refl _
theorem code_cmp {n : Int} {s : ByteArray} {m : Nat} {a : Nat → T} {vs : List Int} : codeT (.mk 4 n s m a) vs = foldC m (fun i => codeT (a i)) ([⟨6, (m : Int), s⟩], vs) := by
  unfold codeT
  rw [if_neg (by decide), if_neg (by decide), if_neg (by decide)]
theorem code_read (l : List Ins) (W : List Int) : ∀ (t : T), t.kinds → ∀ (vs : List Int) (f i : Nat) (rest : List Ins), t.depth ≤ f → l.drop i = (codeT t vs).1 ++ rest → (codeT t vs).2 <+: W →
    rdT l f i = some (renT W t, i + (codeT t vs).1.length) := by
  intro t
  induction t with
  | nil => exact fun h => h.elim
  | mk k n s m a ih =>
    intro hk vs f i rest hd hl hw
    obtain ⟨hkk, hm4, ha⟩ := hk
    obtain ⟨f, rfl⟩ : ∃ q, f = q + 1 := ⟨f - 1, by have : 0 < (T.mk k n s m a).depth := by simp only [T.depth]; omega
                                                   omega⟩
    have head : ∀ x r, l.drop i = x :: r → l[i]? = some x := fun x r h => by
      have := congrArg (fun l => l[0]?) h
      simpa using this
    rcases hkk with rfl | rfl | rfl | rfl
    · unfold codeT at hl hw ⊢
      rw [if_pos rfl] at hl hw ⊢
      cases hp : plN vs n 0 with
      | some j =>
        rw [hp] at hl hw
        unfold rdT
        rw [head _ _ hl]
        have e : plN W n 0 = some j := plN_prefix hw hp
        simp [leafI, renT, e]
      | none =>
        rw [hp] at hl hw
        unfold rdT
        rw [head _ _ hl]
        have e : plN W n 0 = some vs.length := by
          refine plN_prefix hw ?_
          rw [plN_snoc vs n n 0 (plN_none.1 hp), if_pos rfl, Nat.zero_add]
        simp [leafI, renT, e]
    · unfold codeT at hl ⊢
      rw [if_neg (by decide), if_pos rfl] at hl ⊢
      unfold rdT
      rw [head _ _ hl]
      simp [leafI, renT]
    · unfold codeT at hl ⊢
      rw [if_neg (by decide), if_neg (by decide), if_pos rfl] at hl ⊢
      unfold rdT
      rw [head _ _ hl]
      simp [leafI, renT]
    · rw [code_cmp] at hl hw ⊢
      obtain ⟨F, hF⟩ : ∃ F : Nat → List Ins × List Int, F = fun q => foldC q (fun i => codeT (a i)) ([⟨6, (m : Int), s⟩], vs) := ⟨_, rfl⟩
      have hFm : foldC m (fun i => codeT (a i)) ([⟨6, (m : Int), s⟩], vs) = F m := by rw [hF]
      rw [hFm] at hl hw ⊢
      have hF0 : F 0 = ([⟨6, (m : Int), s⟩], vs) := by rw [hF]; rfl
      have hFS : ∀ q, q < m → (F (q + 1)).1 = (F q).1 ++ (codeT (a q) (F q).2).1 := fun q _ => by rw [hF]; rfl
      have hF2 : ∀ q, (F (q + 1)).2 = (codeT (a q) (F q).2).2 := fun q => by rw [hF]; rfl
      have hpre : ∀ q, q ≤ m → (F q).1 <+: (F m).1 := fun q hq => by rw [hF]; exact foldC_pre hq
      have hgr : ∀ q, q ≤ m → (F q).2 <+: (F m).2 := fun q hq => by rw [hF]; exact foldC_grow ha hq
      have hd2 : ∀ q, q < m → (a q).depth ≤ f := fun q hq => by
        have h1 := maxTo_le (f := fun i => (a i).depth) hq
        have h2 : (T.mk 4 n s m a).depth = maxTo m (fun i => (a i).depth) + 1 := by simp [T.depth]
        rw [h2] at hd
        exact Nat.le_trans h1 (Nat.le_of_succ_le_succ hd)
      have R := fold_read (rd := rdT l f) (g := fun q => renT W (a q)) hl hFS hpre (fun q hq i r hr => ih q (ha q hq) (F q).2 f i r (hd2 q hq) hr (by
        have := hgr (q + 1) (by omega)
        rw [hF2] at this
        exact this.trans hw)) m 0 (by omega)
      obtain ⟨r0, hr0⟩ := hpre 0 (Nat.zero_le _)
      rw [hF0] at hr0 R
      have hx : l[i]? = some ⟨6, (m : Int), s⟩ := head _ (r0 ++ rest) (by rw [hl, ← hr0]; simp)
      unfold rdT
      rw [hx]
      have hlf : leafI ⟨6, (m : Int), s⟩ = none := by simp [leafI]
      dsimp only
      rw [hlf]
      dsimp only
      rw [if_pos rfl]
      simp only [List.range_zero, List.map_nil, List.length_cons, List.length_nil] at R
      rw [show ((m : Int)).toNat = m by omega, R]
      have e : renT W (.mk 4 n s m a) = .mk 4 0 s m fun i => if i < m then renT W (a i) else .nil := by
        rw [renT, if_neg (by decide), if_neg (by decide), if_neg (by decide)]
      rw [e, ← cmpT_range]
      rfl
end Go.Proofs.YtlgeepjlnjlgdaaDoor
namespace Go.Proofs.YtlgeepjlnjlgdaaDoor
open Go.RowKit

/-- No part has more arguments than a text's term may have. -/
def T.thin : T → Prop
  | .nil => False
  | .mk _ _ _ m a => m ≤ 4000 ∧ ∀ i, i < m → (a i).thin
theorem T.ok.thin : ∀ {t : T}, t.ok → t.thin
  | .nil, h => h.1.elim
  | .mk _ _ _ _ _, h => ⟨Nat.le_of_lt h.few, fun _ hi => (h.arg hi).thin⟩

/-- What Compare calls the same. -/
def eqT : T → T → Prop
  | .mk k n s m a, .mk k' n' s' m' a' => k = k' ∧ (k = 1 ∨ k = 2 → n = n') ∧ (k = 3 → s = s') ∧ (k ≠ 1 → k ≠ 2 → k ≠ 3 → m = m' ∧ s = s' ∧ ∀ i, i < m → eqT (a i) (a' i))
  | _, _ => False
theorem eqT_refl : ∀ {t : T}, t.thin → eqT t t
  | .nil, h => h.elim
  | .mk _ _ _ _ _, h => ⟨rfl, fun _ => rfl, fun _ => rfl, fun _ _ _ => ⟨rfl, rfl, fun i hi => eqT_refl (h.2 i hi)⟩⟩
end Go.Proofs.YtlgeepjlnjlgdaaDoor
namespace Go.Proofs.YtlgeepjlnjlgdaaDoor
open Go.RowKit

/-- The place of a number; -1: none. -/
def posV (W : List Int) (n : Int) : Int := match plN W n 0 with
  | some j => (j : Int)
  | none => -1
/-- A term, its variables numbered. -/
def numT (W : List Int) : T → T
  | .nil => .nil
  | .mk k n s m a => if k = 1 then vrT (posV W n) else if k = 4 then .mk 4 0 s m fun i => numT W (a i) else .mk k n s m a
theorem posV_some {W : List Int} {n : Int} {j : Nat} (h : plN W n 0 = some j) : posV W n = (j : Int) := by unfold posV; rw [h]
theorem posV_none {W : List Int} {n : Int} (h : plN W n 0 = none) : posV W n = -1 := by unfold posV; rw [h]
theorem posV_inj {W : List Int} {n : Int} {j : Nat} (h : posV W n = (j : Int)) : plN W n 0 = some j := by
  cases hp : plN W n 0 with
  | none => rw [posV_none hp] at h; omega
  | some i =>
    rw [posV_some hp] at h
    exact congrArg some (by omega)
theorem fold_pre {f : Nat → List Int → List Ins × List Int} {r : List Ins × List Int} {m i : Nat} (hf : ∀ i vs, i < m → vs <+: (f i vs).2) (hi : i ≤ m) : (foldC i f r).2 <+: (foldC m f r).2 := by
  induction m with
  | zero =>
    obtain rfl : i = 0 := by omega
    exact List.prefix_refl _
  | succ m ih =>
    rcases Nat.lt_or_ge i (m + 1) with h1 | h1
    · exact (ih (fun i vs hi => hf i vs (by omega)) (by omega)).trans (hf m _ (by omega))
    · obtain rfl : i = m + 1 := by omega
      exact List.prefix_refl _
theorem same_code : ∀ (t u : T), t.kinds → u.kinds → ∀ (W W' vs vs' : List Int), vs.length = vs'.length → (codeT t vs).2 <+: W → (codeT u vs').2 <+: W' → eqT (numT W t) (numT W' u) →
    (codeT t vs).1 = (codeT u vs').1 ∧ (codeT t vs).2.length = (codeT u vs').2.length := by
  intro t
  induction t with
  | nil => intro u h; exact h.elim
  | mk k n s m a ih =>
    intro u ht hu W W' vs vs' hl hp hp' he
    cases u with
    | nil => exact hu.elim
    | mk k' n' s' m' a' =>
      have hkk : k = k' := by
        unfold numT at he
        by_cases h1 : k = 1
        · by_cases h1' : k' = 1
          · rw [h1, h1']
          · rw [if_pos h1, if_neg h1'] at he
            by_cases h4' : k' = 4
            · rw [if_pos h4'] at he
              exact absurd he.1 (by decide)
            · rw [if_neg h4'] at he
              rw [h1]; exact he.1
        · rw [if_neg h1] at he
          by_cases h1' : k' = 1
          · rw [if_pos h1'] at he
            by_cases h4 : k = 4
            · rw [if_pos h4] at he
              exact absurd he.1 (by decide)
            · rw [if_neg h4] at he
              rw [h1']; exact he.1
          · rw [if_neg h1'] at he
            by_cases h4 : k = 4
            · rw [if_pos h4] at he
              by_cases h4' : k' = 4
              · rw [h4, h4']
              · rw [if_neg h4'] at he; rw [h4]; exact he.1
            · rw [if_neg h4] at he
              by_cases h4' : k' = 4
              · rw [if_pos h4'] at he; rw [h4']; exact he.1
              · rw [if_neg h4'] at he; exact he.1
      subst hkk
      by_cases h1 : k = 1
      · subst h1
        have e1 : numT W (.mk 1 n s m a) = vrT (posV W n) := by unfold numT; exact if_pos rfl
        have e2 : numT W' (.mk 1 n' s' m' a') = vrT (posV W' n') := by unfold numT; exact if_pos rfl
        rw [e1, e2] at he
        have hpl : posV W n = posV W' n' := he.2.1 (.inl rfl)
        unfold codeT at hp hp' ⊢
        rw [if_pos rfl] at hp hp'
        rw [if_pos rfl, if_pos rfl]
        cases hv : plN vs n 0 with
        | some j =>
          rw [hv] at hp
          have hj := (plN_lt hv).2.1
          have h3 := plN_prefix hp hv
          rw [posV_some h3] at hpl
          have h4 := posV_inj hpl.symm
          cases hv' : plN vs' n' 0 with
          | some j' =>
            rw [hv'] at hp'
            have h5 := plN_prefix hp' hv'
            rw [h4] at h5
            injection h5 with h5
            subst h5
            exact ⟨rfl, hl⟩
          | none =>
            rw [hv'] at hp'
            have h5 : plN (vs' ++ [n']) n' 0 = some (0 + vs'.length) := by rw [plN_snoc vs' n' n' 0 (plN_none.1 hv'), if_pos rfl]
            have h6 := plN_prefix hp' h5
            rw [h4] at h6
            injection h6 with h6
            omega
        | none =>
          rw [hv] at hp
          have h5 : plN (vs ++ [n]) n 0 = some (0 + vs.length) := by rw [plN_snoc vs n n 0 (plN_none.1 hv), if_pos rfl]
          have h6 := plN_prefix hp h5
          rw [posV_some h6] at hpl
          have h4 := posV_inj hpl.symm
          cases hv' : plN vs' n' 0 with
          | some j' =>
            rw [hv'] at hp'
            have h7 := plN_prefix hp' hv'
            have hj := (plN_lt hv').2.1
            rw [h4] at h7
            injection h7 with h7
            omega
          | none => exact ⟨by show [_] = [_]; rw [hl], by simp [hl]⟩
      · by_cases h4 : k = 4
        · subst h4
          have e1 : numT W (.mk 4 n s m a) = .mk 4 0 s m fun i => numT W (a i) := by rw [numT]; exact (if_neg (by decide)).trans (if_pos rfl)
          have e2 : numT W' (.mk 4 n' s' m' a') = .mk 4 0 s' m' fun i => numT W' (a' i) := by rw [numT]; exact (if_neg (by decide)).trans (if_pos rfl)
          rw [e1, e2] at he
          obtain ⟨rfl, rfl, ha⟩ := he.2.2.2 (by decide) (by decide) (by decide)
          rw [code_cmp] at hp ⊢
          rw [code_cmp] at hp' ⊢
          have key : ∀ i, i ≤ m → (foldC i (fun i => codeT (a i)) ([⟨6, (m : Int), s⟩], vs)).1 = (foldC i (fun i => codeT (a' i)) ([⟨6, (m : Int), s⟩], vs')).1 ∧ (foldC i (fun i => codeT (a i)) ([⟨6, (m : Int), s⟩], vs)).2.length = (foldC i (fun i => codeT (a' i)) ([⟨6, (m : Int), s⟩], vs')).2.length := by
            intro i
            induction i with
            | zero => exact fun _ => ⟨rfl, hl⟩
            | succ i ih2 =>
              intro hi
              obtain ⟨j1, j2⟩ := ih2 (by omega)
              have q1 := (fold_pre (f := fun i => codeT (a i)) (r := ([⟨6, (m : Int), s⟩], vs)) (m := m) (i := i + 1) (fun i vs hi => codeT_grow (a i) (ht.2.2 i hi) vs) hi).trans hp
              have q2 := (fold_pre (f := fun i => codeT (a' i)) (r := ([⟨6, (m : Int), s⟩], vs')) (m := m) (i := i + 1) (fun i vs hi => codeT_grow (a' i) (hu.2.2 i hi) vs) hi).trans hp'
              obtain ⟨c1, c2⟩ := ih i (a' i) (ht.2.2 i (by omega)) (hu.2.2 i (by omega)) W W' _ _ j2 q1 q2 (ha i (by omega))
              exact ⟨by show _ ++ _ = _ ++ _; rw [j1, c1], c2⟩
          exact key m (Nat.le_refl _)
        · have e1 : numT W (.mk k n s m a) = .mk k n s m a := by unfold numT; rw [if_neg h1, if_neg h4]
          have e2 : numT W' (.mk k n' s' m' a') = .mk k n' s' m' a' := by unfold numT; rw [if_neg h1, if_neg h4]
          rw [e1, e2] at he
          have hk := ht.1
          unfold codeT
          rw [if_neg h1, if_neg h1]
          by_cases h2 : k = 2
          · rw [if_pos h2, if_pos h2, he.2.1 (.inr h2)]
            exact ⟨rfl, hl⟩
          · have h3 : k = 3 := by omega
            rw [if_neg h2, if_neg h2, if_pos h3, if_pos h3, he.2.2.1 h3]
            exact ⟨rfl, hl⟩
/-- The place of a number among others' places. -/
theorem plN_map {f : Int → Int} {n : Int} : ∀ {l : List Int} {i : Nat}, (∀ x ∈ l, f x = f n → x = n) → plN (l.map f) (f n) i = plN l n i
  | [], _, _ => rfl
  | x :: l, i, h => by
    show plN (f x :: l.map f) (f n) i = _
    unfold plN
    by_cases hx : x = n
    · subst hx; rw [if_pos rfl, if_pos rfl]
    · rw [if_neg hx, if_neg (fun e => hx (h x List.mem_cons_self e)), plN_map fun y hy => h y (List.mem_cons_of_mem _ hy)]
theorem posV_mem {V : List Int} {n : Int} (h : n ∈ V) : ∃ j, plN V n 0 = some j := by
  cases hp : plN V n 0 with
  | some j => exact ⟨j, rfl⟩
  | none => exact absurd h (plN_none.1 hp)
theorem posV_one {V : List Int} {x y : Int} (hx : x ∈ V) (hy : y ∈ V) (h : posV V x = posV V y) : x = y := by
  obtain ⟨j, hj⟩ := posV_mem hx
  obtain ⟨i, hi⟩ := posV_mem hy
  rw [posV_some hj, posV_some hi] at h
  obtain rfl : j = i := by omega
  have h1 := (plN_lt hj).2.2.1
  have h2 := (plN_lt hi).2.2.1
  rw [h1] at h2
  injection h2
theorem ren_var {V : List Int} {n : Int} {s : ByteArray} {m : Nat} {a : Nat → T} (h : n ∈ V) : renT V (.mk 1 n s m a) = vrT (posV V n) := by
  obtain ⟨j, hj⟩ := posV_mem h
  rw [renT, if_pos rfl, hj, posV_some hj]
  rfl
theorem ren_cmp {V : List Int} {n : Int} {s : ByteArray} {m : Nat} {a : Nat → T} : renT V (.mk 4 n s m a) = .mk 4 0 s m fun i => if i < m then renT V (a i) else .nil := by
  rw [renT]; exact (if_neg (by decide)).trans ((if_neg (by decide)).trans (if_neg (by decide)))
theorem num_var {V : List Int} {n : Int} {s : ByteArray} {m : Nat} {a : Nat → T} : numT V (.mk 1 n s m a) = vrT (posV V n) := by rw [numT]; exact if_pos rfl
theorem num_cmp {V : List Int} {n : Int} {s : ByteArray} {m : Nat} {a : Nat → T} : numT V (.mk 4 n s m a) = .mk 4 0 s m fun i => numT V (a i) := by rw [numT]; exact (if_neg (by decide)).trans (if_pos rfl)
theorem vars_var {n : Int} {s : ByteArray} {m : Nat} {a : Nat → T} : varsT (.mk 1 n s m a) = [n] := by rw [varsT]; exact if_pos rfl
/-- A term and what it is read back as are numbered alike. -/
theorem num_ren (V : List Int) : ∀ (t : T), t.kinds → t.thin → (∀ v ∈ varsT t, v ∈ V) → eqT (numT V t) (numT (V.map (posV V)) (renT V t))
  | .nil, h, _, _ => h.elim
  | .mk k n s m a, h, hth, hv => by
    by_cases h1 : k = 1
    · subst h1
      have hn : n ∈ V := hv n (by rw [vars_var]; exact List.mem_singleton.2 rfl)
      have e : posV (V.map (posV V)) (posV V n) = posV V n := by
        have h2 := plN_map (f := posV V) (n := n) (l := V) (i := 0) fun x hx hf => posV_one hx hn hf
        unfold posV at h2 ⊢
        rw [h2]
      rw [ren_var hn, num_var]
      show eqT (vrT (posV V n)) (numT (V.map (posV V)) (.mk 1 (posV V n) ⟨#[]⟩ 0 fun _ => .nil))
      rw [num_var, e]
      exact ⟨rfl, fun _ => rfl, fun _ => rfl, fun h => absurd rfl h⟩
    · by_cases h4 : k = 4
      · subst h4
        rw [ren_cmp, num_cmp, num_cmp]
        refine ⟨rfl, fun h => (by rcases h with h | h <;> cases h), fun h => (by cases h), fun _ _ _ => ⟨rfl, rfl, fun i hi => ?_⟩⟩
        dsimp only
        rw [if_pos hi]
        exact num_ren V (a i) (h.2.2 i hi) (hth.2 i hi) fun v hm => hv v (by rw [varsT_cmp]; exact mem_foldN.2 (.inr ⟨i, hi, hm⟩))
      · by_cases h2 : k = 2
        · subst h2
          exact ⟨rfl, fun _ => rfl, fun h => (by cases h), fun _ h => absurd rfl h⟩
        · have h3 : k = 3 := by have := h.1; omega
          subst h3
          exact ⟨rfl, fun h => absurd h (by omega), fun _ => rfl, fun _ _ h => absurd rfl h⟩
theorem addAll_map {f : Int → Int} : ∀ {l acc : List Int}, (∀ x y, (x ∈ acc ∨ x ∈ l) → (y ∈ acc ∨ y ∈ l) → f x = f y → x = y) → addAll (acc.map f) (l.map f) = (addAll acc l).map f
  | [], _, _ => rfl
  | x :: l, acc, h => by
    show addAll (add1 (acc.map f) (f x)) (l.map f) = (addAll (add1 acc x) l).map f
    have e : add1 (acc.map f) (f x) = (add1 acc x).map f := by
      unfold add1
      by_cases hx : x ∈ acc
      · rw [if_pos hx, if_pos (List.mem_map_of_mem hx)]
      · rw [if_neg hx, if_neg fun hm => ?_]
        · simp
        · obtain ⟨y, hy, he⟩ := List.mem_map.1 hm
          have := h y x (.inl hy) (.inr List.mem_cons_self) he
          exact hx (this ▸ hy)
    rw [e]
    refine addAll_map fun a b ha hb => h a b ?_ ?_
    · rcases ha with ha | ha
      · rcases mem_add1.1 ha with ha | rfl
        · exact .inl ha
        · exact .inr List.mem_cons_self
      · exact .inr (List.mem_cons_of_mem _ ha)
    · rcases hb with hb | hb
      · rcases mem_add1.1 hb with hb | rfl
        · exact .inl hb
        · exact .inr List.mem_cons_self
      · exact .inr (List.mem_cons_of_mem _ hb)
theorem foldN_map {f : Int → Int} {g g' : Nat → List Int} {V : List Int} (hf : ∀ x y, x ∈ V → y ∈ V → f x = f y → x = y) : ∀ (m : Nat), (∀ i, i < m → g' i = (g i).map f ∧ ∀ v ∈ g i, v ∈ V) → foldN m g' [] = (foldN m g []).map f
  | 0, _ => rfl
  | m + 1, h => by
    show addAll (foldN m g' []) (g' m) = (addAll (foldN m g []) (g m)).map f
    rw [foldN_map hf m fun i hi => h i (by omega), (h m (by omega)).1]
    have hV : ∀ x, (x ∈ foldN m g [] ∨ x ∈ g m) → x ∈ V := fun x hx => by
      rcases hx with hx | hx
      · rcases mem_foldN.1 hx with hx | ⟨i, hi, hx⟩
        · cases hx
        · exact (h i (by omega)).2 x hx
      · exact (h m (by omega)).2 x hx
    exact addAll_map fun x y hx hy => hf x y (hV x hx) (hV y hy)
theorem vars_ren (V : List Int) : ∀ (t : T), t.kinds → (∀ v ∈ varsT t, v ∈ V) → varsT (renT V t) = (varsT t).map (posV V)
  | .nil, h, _ => h.elim
  | .mk k n s m a, h, hv => by
    by_cases h1 : k = 1
    · subst h1
      have hn : n ∈ V := hv n (by rw [vars_var]; exact List.mem_singleton.2 rfl)
      rw [ren_var hn, vars_var]
      exact vars_var
    · by_cases h4 : k = 4
      · subst h4
        have hi : ∀ i, i < m → ∀ v ∈ varsT (a i), v ∈ V := fun i hi v hm => hv v (by rw [varsT_cmp]; exact mem_foldN.2 (.inr ⟨i, hi, hm⟩))
        rw [ren_cmp, varsT_cmp, varsT_cmp]
        refine foldN_map (V := V) (fun x y hx hy he => posV_one hx hy he) m fun i hm => ⟨?_, hi i hm⟩
        rw [if_pos hm]
        exact vars_ren V (a i) (h.2.2 i hm) (hi i hm)
      · have e1 : varsT (.mk k n s m a) = [] := by rw [varsT]; exact (if_neg h1).trans (if_neg h4)
        rw [e1]
        by_cases h2 : k = 2
        · subst h2; rfl
        · have h3 : k = 3 := by have := h.1; omega
          subst h3; rfl
theorem ren_whole (V : List Int) (h : T) (gs : List T) : wholeT (renT V h) (gs.map (renT V)) = renT V (wholeT h gs) := by
  unfold wholeT
  rw [ren_cmp, List.length_map]
  congr 1
  funext i
  by_cases hi : i < gs.length + 1
  · rw [if_pos hi]
    cases i with
    | zero => rfl
    | succ i => simp [List.getD_eq_getElem?_getD, show i < gs.length by omega]
  · rw [if_neg hi]
    simp [List.getD_eq_getElem?_getD, show gs.length + 1 ≤ i by omega]
theorem codeG_grow : ∀ (gs : List T) (r : List Ins × List Int), (∀ g ∈ gs, g.kinds) → r.2 <+: (codeG gs r).2
  | [], _, _ => List.prefix_refl _
  | g :: gs, r, h => (codeT_grow g (h g List.mem_cons_self) r.2).trans (codeG_grow gs (r.1 ++ [⟨7, 0, ⟨#[]⟩⟩] ++ (codeT g r.2).1, (codeT g r.2).2) fun g hg => h g (List.mem_cons_of_mem _ hg))
theorem same_codeG {W W' : List Int} : ∀ (gs gs' : List T) (r r' : List Ins × List Int), gs.length = gs'.length → (∀ g ∈ gs, g.kinds) → (∀ g ∈ gs', g.kinds) → (∀ i, i < gs.length → eqT (numT W (gs.getD i .nil)) (numT W' (gs'.getD i .nil))) →
    (codeG gs r).2 <+: W → (codeG gs' r').2 <+: W' → r.1 = r'.1 → r.2.length = r'.2.length → (codeG gs r).1 = (codeG gs' r').1 ∧ (codeG gs r).2.length = (codeG gs' r').2.length
  | [], [], r, r', _, _, _, _, _, _, h1, h2 => ⟨h1, h2⟩
  | [], _ :: _, _, _, h, _, _, _, _, _, _, _ => by cases h
  | _ :: _, [], _, _, h, _, _, _, _, _, _, _ => by cases h
  | g :: gs, g' :: gs', r, r', hl, hk, hk', he, hp, hp', h1, h2 => by
    have hp1 : (codeT g r.2).2 <+: W := by
      refine List.IsPrefix.trans ?_ hp
      show _ <+: (codeG gs _).2
      exact codeG_grow gs (r.1 ++ [⟨7, 0, ⟨#[]⟩⟩] ++ (codeT g r.2).1, (codeT g r.2).2) fun g hg => hk g (List.mem_cons_of_mem _ hg)
    have hp2 : (codeT g' r'.2).2 <+: W' := by
      refine List.IsPrefix.trans ?_ hp'
      show _ <+: (codeG gs' _).2
      exact codeG_grow gs' (r'.1 ++ [⟨7, 0, ⟨#[]⟩⟩] ++ (codeT g' r'.2).1, (codeT g' r'.2).2) fun g hg => hk' g (List.mem_cons_of_mem _ hg)
    obtain ⟨c1, c2⟩ := same_code g g' (hk g List.mem_cons_self) (hk' g' List.mem_cons_self) W W' r.2 r'.2 h2 hp1 hp2 (he 0 (by simp))
    exact same_codeG gs gs' _ _ (by simpa using hl) (fun g hg => hk g (List.mem_cons_of_mem _ hg)) (fun g hg => hk' g (List.mem_cons_of_mem _ hg)) (fun i hi => he (i + 1) (by simpa using hi)) hp hp' (by dsimp only; rw [h1, c1]) c2
theorem same_enc {h h' : T} {gs gs' : List T} (hk : h.kinds) (hgk : ∀ g ∈ gs, g.kinds) (hk' : h'.kinds) (hgk' : ∀ g ∈ gs', g.kinds) (he : eqT (numT (varsT (wholeT h gs)) (wholeT h gs)) (numT (varsT (wholeT h' gs')) (wholeT h' gs'))) : encN h gs = encN h' gs' := by
  obtain ⟨V, hV⟩ : ∃ V, V = varsT (wholeT h gs) := ⟨_, rfl⟩
  obtain ⟨V', hV'⟩ : ∃ V, V = varsT (wholeT h' gs') := ⟨_, rfl⟩
  rw [← hV, ← hV'] at he
  have p1 := enc_vars hk hgk
  have p2 := enc_vars hk' hgk'
  rw [← hV] at p1
  rw [← hV'] at p2
  unfold wholeT at he
  rw [num_cmp, num_cmp] at he
  obtain ⟨hl, _, ha⟩ := he.2.2.2 (by decide) (by decide) (by decide)
  have hl2 : gs.length = gs'.length := by omega
  have hp1 : (codeT h []).2 <+: V := by rw [← p1]; exact codeG_grow gs _ hgk
  have hp2 : (codeT h' []).2 <+: V' := by rw [← p2]; exact codeG_grow gs' _ hgk'
  obtain ⟨c1, c2⟩ := same_code h h' hk hk' V V' [] [] rfl hp1 hp2 (ha 0 (by omega))
  obtain ⟨d1, d2⟩ := same_codeG (W := V) (W' := V') gs gs' (codeT h []) (codeT h' []) hl2 hgk hgk' (fun i hi => ha (i + 1) (by omega)) (by rw [p1]; exact List.prefix_refl _) (by rw [p2]; exact List.prefix_refl _) c1 c2
  unfold encN
  rw [d1, d2]
end Go.Proofs.YtlgeepjlnjlgdaaDoor
namespace Go.Proofs.YtlgeepjlnjlgdaaDoor
open Go.RowKit

/-- One instruction such as a clause has. -/
def InOne (x : Ins) : Prop := I64 x.a ∧ nameOk x.s ∧ (x.o = 2 ∨ x.o = 3 → x.a < 1000)
theorem no_name : nameOk ⟨#[]⟩ := by decide
theorem small_in {n : Nat} (h : n ≤ 10000) : I64 (n : Int) := by unfold I64; omega
theorem codeT_in : ∀ (t : T), t.good → t.nodes ≤ 4000 → ∀ (vs : List Int), (codeT t vs).2.length ≤ 1000 → ∀ x ∈ (codeT t vs).1, InOne x
  | .nil, h, _, _, _, _, _ => h.elim
  | .mk k n s m a, h, hn, vs, hl, x, hx => by
    rcases h.1 with ⟨rfl, h2, h3, rfl, rfl⟩ | ⟨rfl, h2, rfl, rfl⟩ | ⟨rfl, rfl, h2, rfl⟩ | ⟨rfl, rfl, h2, h3⟩
    · unfold codeT at hl hx
      rw [if_pos rfl] at hl hx
      cases hp : plN vs n 0 with
      | some j =>
        rw [hp] at hl hx
        have := (plN_lt hp).2.1
        rw [List.mem_singleton] at hx
        subst hx
        have hl' : vs.length ≤ 1000 := hl
        exact ⟨small_in (by omega), no_name, fun _ => by show (j : Int) < 1000; omega⟩
      | none =>
        rw [hp] at hl hx
        rw [List.mem_singleton] at hx
        subst hx
        have hl' : (vs ++ [n]).length ≤ 1000 := hl
        rw [List.length_append] at hl'
        simp at hl'
        exact ⟨small_in (by omega), no_name, fun _ => by show (vs.length : Int) < 1000; omega⟩
    · have e : (codeT (.mk 2 n ⟨#[]⟩ 0 a) vs).1 = [⟨4, n, ⟨#[]⟩⟩] := rfl
      rw [e, List.mem_singleton] at hx
      subst hx
      exact ⟨h2, no_name, fun h => by rcases h with h | h <;> cases h⟩
    · have e : (codeT (.mk 3 0 s 0 a) vs).1 = [⟨5, 0, s⟩] := rfl
      rw [e, List.mem_singleton] at hx
      subst hx
      exact ⟨by show I64 0; unfold I64; omega, h2, fun h => by rcases h with h | h <;> cases h⟩
    · rw [code_cmp] at hl hx
      have hm : m ≤ 4000 := by
        have h1 : sumTo m (fun i => (a i).nodes) ≤ 3999 := by simp only [T.nodes] at hn; omega
        have h2 : m ≤ sumTo m (fun i => (a i).nodes) := by
          have key : ∀ q, q ≤ m → q ≤ sumTo q (fun i => (a i).nodes) := by
            intro q
            induction q with
            | zero => exact fun _ => Nat.zero_le _
            | succ q ih =>
              intro hq
              have := ih (by omega)
              have := (h.2 q (by omega)).pos
              simp only [sumTo]
              omega
          exact key m (Nat.le_refl _)
        omega
      have key : ∀ i, i ≤ m → ∀ x ∈ (foldC i (fun i => codeT (a i)) ([⟨6, (m : Int), s⟩], vs)).1, InOne x := by
        intro i
        induction i with
        | zero =>
          intro _ x hx
          have hx' : x ∈ [(⟨6, (m : Int), s⟩ : Ins)] := hx
          rw [List.mem_singleton] at hx'
          subst hx'
          exact ⟨small_in (by omega), h2, fun h => by rcases h with h | h <;> cases h⟩
        | succ i ih =>
          intro hi x hx
          have hp := (fold_pre (f := fun i => codeT (a i)) (r := ([⟨6, (m : Int), s⟩], vs)) (m := m) (i := i + 1) (fun i vs hi => codeT_grow (a i) (h.2 i hi).kinds vs) hi).length_le
          have hx' : x ∈ (foldC i (fun i => codeT (a i)) ([⟨6, (m : Int), s⟩], vs)).1 ++ (codeT (a i) (foldC i (fun i => codeT (a i)) ([⟨6, (m : Int), s⟩], vs)).2).1 := hx
          rcases List.mem_append.1 hx' with hx' | hx'
          · exact ih (by omega) x hx'
          · have hni : (a i).nodes ≤ 4000 := by
              have h1 := sumTo_one (f := fun i => (a i).nodes) (show i < m by omega)
              simp only [T.nodes] at hn
              omega
            exact codeT_in (a i) (h.2 i (by omega)) hni _ (Nat.le_trans hp hl) x hx'
      exact key m (Nat.le_refl _) x hx
theorem codeG_in : ∀ (gs : List T) (r : List Ins × List Int), (∀ g ∈ gs, g.good ∧ g.nodes ≤ 4000) → (codeG gs r).2.length ≤ 1000 → (∀ x ∈ r.1, InOne x) → ∀ x ∈ (codeG gs r).1, InOne x
  | [], _, _, _, h => h
  | g :: gs, r, hg, hl, h => by
    have hp := (codeG_grow gs (r.1 ++ [⟨7, 0, ⟨#[]⟩⟩] ++ (codeT g r.2).1, (codeT g r.2).2) fun x hx => (hg x (List.mem_cons_of_mem _ hx)).1.kinds).length_le
    refine codeG_in gs _ (fun x hx => hg x (List.mem_cons_of_mem _ hx)) hl fun x hx => ?_
    rcases List.mem_append.1 hx with hx | hx
    · rcases List.mem_append.1 hx with hx | hx
      · exact h x hx
      · rw [List.mem_singleton] at hx
        subst hx
        exact ⟨by show I64 0; unfold I64; omega, no_name, fun h => by rcases h with h | h <;> cases h⟩
    · have hg0 := hg g List.mem_cons_self
      exact codeT_in g hg0.1 hg0.2 r.2 (Nat.le_trans hp hl) x hx
theorem enc_in1 {h : T} {gs : List T} (hh : h.good ∧ h.nodes ≤ 4000) (hg : ∀ g ∈ gs, g.good ∧ g.nodes ≤ 4000) (hv : (varsT (wholeT h gs)).length ≤ 1000) : ∀ x ∈ encN h gs, InOne x := by
  have he := enc_vars hh.1.kinds fun g hm => (hg g hm).1.kinds
  have hl : (codeG gs (codeT h [])).2.length ≤ 1000 := by rw [he]; exact hv
  have hp := (codeG_grow gs (codeT h []) fun x hx => (hg x hx).1.kinds).length_le
  intro x hx
  unfold encN at hx
  rcases List.mem_append.1 hx with hx | hx
  · rcases List.mem_append.1 hx with hx | hx
    · rw [List.mem_singleton] at hx
      subst hx
      exact ⟨small_in (by omega), no_name, fun h => by rcases h with h | h <;> cases h⟩
    · exact codeG_in gs _ hg hl (codeT_in h hh.1 hh.2 [] (Nat.le_trans hp hl)) x hx
  · rw [List.mem_singleton] at hx
    subst hx
    exact ⟨by show I64 0; unfold I64; omega, no_name, fun h => by rcases h with h | h <;> cases h⟩
theorem enc_len2 {t : T} {gs : List T} (h : t.kinds) (hg : ∀ g ∈ gs, g.kinds) : (encN t gs).length = 2 + t.nodes + gs.length + nodesL gs := by
  obtain ⟨j1, _⟩ := codeT_len t h []
  obtain ⟨i1, _⟩ := codeG_len gs (codeT t []) hg
  simp [encN]
  omega
end Go.Proofs.YtlgeepjlnjlgdaaDoor
