/- Instructions of a clause, plain: what both coders lay down; how its slots are numbered. Instructions read back, plain: what both decoders read; a clause's own instructions are read back as the clause with its variables numbered. Terms that were read of instructions: that they are well-formed, plain. -/
import Derived.Test.YtlgeepjlnjlgdaaDoorEF
import Derived.Test.YtlgeepjlnjlgdaaDoorEG
namespace Go.Proofs.YtlgeepjlnjlgdaaDoor
open Go.RowKit

/-- An instruction. -/
structure Ins where
  o : Int
  a : Int
  s : ByteArray
def Ins.cells (x : Ins) : List Value := [.int .i64 x.o, .int .i64 x.a, .string x.s]
def insCells (l : List Ins) : List Value := l.flatMap Ins.cells
theorem insCells_length (l : List Ins) : (insCells l).length = 3 * l.length := by
  induction l with
  | nil => rfl
  | cons x l ih => simp only [insCells, List.flatMap_cons, List.length_append, List.length_cons] at ih ⊢; rw [ih]; simp [Ins.cells]; omega
theorem insCells_at : ∀ (l : List Ins) (i : Nat) (h : i < l.length) (j : Nat), j < 3 → (insCells l)[3 * i + j]? = (l[i]'h).cells[j]?
  | x :: l, 0, _, j, hj => by
    simp only [insCells, List.flatMap_cons, Nat.mul_zero, Nat.zero_add, List.getElem_cons_zero]
    exact List.getElem?_append_left (by simpa [Ins.cells] using hj)
  | x :: l, i + 1, h, j, hj => by
    have ih := insCells_at l i (by simpa using h) j hj
    simp only [insCells, List.flatMap_cons, List.getElem_cons_succ] at ih ⊢
    rw [List.getElem?_append_right (by simp [Ins.cells]; omega), ← ih]
    congr 1
    simp [Ins.cells]; omega
theorem insCells_snoc (l : List Ins) (x : Ins) : insCells l ++ x.cells = insCells (l ++ [x]) := by simp [insCells]
theorem insCells_app (l r : List Ins) : insCells l ++ insCells r = insCells (l ++ r) := by simp [insCells]
/-- The place of a number in a list. -/
def plN : List Int → Int → Nat → Option Nat
  | [], _, _ => none
  | x :: l, n, i => if x = n then some i else plN l n (i + 1)
theorem plN_none : ∀ {l : List Int} {n : Int} {i : Nat}, plN l n i = none ↔ n ∉ l
  | [], _, _ => by simp [plN]
  | x :: l, n, i => by
    unfold plN
    by_cases h : x = n
    · rw [if_pos h]
      simp [h]
    · rw [if_neg h, plN_none]
      simp only [List.mem_cons, not_or]
      exact ⟨fun h1 => ⟨fun e => h e.symm, h1⟩, fun h1 => h1.2⟩
theorem plN_lt : ∀ {l : List Int} {n : Int} {i j : Nat}, plN l n i = some j → i ≤ j ∧ j < i + l.length ∧ l[j - i]? = some n ∧ ∀ q, q < j - i → l[q]? ≠ some n
  | [], _, _, _, h => by cases h
  | x :: l, n, i, j, h => by
    unfold plN at h
    by_cases hx : x = n
    · rw [if_pos hx] at h
      injection h with h
      subst h
      refine ⟨Nat.le_refl _, by simp, by simp [hx], fun q hq => absurd hq (by omega)⟩
    · rw [if_neg hx] at h
      obtain ⟨h1, h2, h3, h4⟩ := plN_lt h
      have e : j - i = (j - (i + 1)) + 1 := by omega
      refine ⟨by omega, by simp; omega, by rw [e]; simpa using h3, fun q hq => ?_⟩
      cases q with
      | zero => simpa using hx
      | succ q => simpa using h4 q (by omega)
theorem plN_snoc : ∀ (l : List Int) (n m : Int) (i : Nat), n ∉ l → plN (l ++ [n]) m i = if m = n then some (i + l.length) else plN l m i
  | [], n, m, i, _ => by
    simp only [List.nil_append, plN, List.length_nil, Nat.add_zero]
    by_cases h : n = m
    · rw [if_pos h, if_pos h.symm]
    · rw [if_neg h, if_neg fun e => h e.symm]
  | x :: l, n, m, i, h => by
    simp only [List.cons_append, plN, List.length_cons]
    simp only [List.mem_cons, not_or] at h
    by_cases hx : x = m
    · rw [if_pos hx, if_neg fun e => h.1 (by rw [hx, e]), if_pos hx]
    · rw [if_neg hx, plN_snoc l n m (i + 1) h.2, if_neg hx]
      by_cases hm : m = n
      · rw [if_pos hm, if_pos hm]
        congr 1
        omega
      · rw [if_neg hm, if_neg hm]
/-- Some calls behind one another: what is laid down, and the variables that have a slot. -/
def foldC (m : Nat) (f : Nat → List Int → List Ins × List Int) (r : List Ins × List Int) : List Ins × List Int := match m with
  | 0 => r
  | m + 1 => ((foldC m f r).1 ++ (f m (foldC m f r).2).1, (f m (foldC m f r).2).2)
/-- What is laid down of a term. -/
def codeT : T → List Int → List Ins × List Int
  | .nil, vs => ([], vs)
  | .mk k n s m a, vs =>
    if k = 1 then (match plN vs n 0 with
      | some i => ([⟨3, (i : Int), ⟨#[]⟩⟩], vs)
      | none => ([⟨2, (vs.length : Int), ⟨#[]⟩⟩], vs ++ [n]))
    else if k = 2 then ([⟨4, n, ⟨#[]⟩⟩], vs)
    else if k = 3 then ([⟨5, 0, s⟩], vs)
    else foldC m (fun i => codeT (a i)) ([⟨6, (m : Int), s⟩], vs)
/-- What is laid down of goals behind a head. -/
def codeG : List T → List Ins × List Int → List Ins × List Int
  | [], r => r
  | g :: l, r => codeG l (r.1 ++ [⟨7, 0, ⟨#[]⟩⟩] ++ (codeT g r.2).1, (codeT g r.2).2)
theorem codeG_snoc : ∀ (l : List T) (g : T) (r : List Ins × List Int), codeG (l ++ [g]) r = ((codeG l r).1 ++ [⟨7, 0, ⟨#[]⟩⟩] ++ (codeT g (codeG l r).2).1, (codeT g (codeG l r).2).2)
  | [], _, _ => rfl
  | _ :: l, g, _ => codeG_snoc l g _
def encN (h : T) (gs : List T) : List Ins := [⟨1, ((codeG gs (codeT h [])).2.length : Int), ⟨#[]⟩⟩] ++ (codeG gs (codeT h [])).1 ++ [⟨8, 0, ⟨#[]⟩⟩]
/-- A clause as one term. -/
def wholeT (h : T) (gs : List T) : T := .mk 4 0 ⟨#[99, 108, 97, 117, 115, 101]⟩ (gs.length + 1) fun i => (h :: gs).getD i .nil
theorem foldC_vars {f : Nat → List Int → List Ins × List Int} {g : Nat → List Int} (h : ∀ i vs, (f i vs).2 = addAll vs (g i)) : ∀ (m : Nat) (r : List Ins × List Int), (foldC m f r).2 = foldN m g r.2
  | 0, r => rfl
  | m + 1, r => by
    show (f m (foldC m f r).2).2 = addAll (foldN m g r.2) (g m)
    rw [h, foldC_vars h m r]
/-- The kinds that there are. -/
def T.kinds : T → Prop
  | .nil => False
  | .mk k _ _ m a => (k = 1 ∨ k = 2 ∨ k = 3 ∨ k = 4) ∧ (k ≠ 4 → m = 0) ∧ ∀ i, i < m → (a i).kinds
theorem T.good.kinds : ∀ {t : T}, t.good → t.kinds
  | .nil, h => h.elim
  | .mk k n s m a, h => by
    refine ⟨?_, ?_, fun i hi => T.good.kinds (h.2 i hi)⟩
    · rcases h.1 with h | h | h | h
      · exact .inl h.1
      · exact .inr (.inl h.1)
      · exact .inr (.inr (.inl h.1))
      · exact .inr (.inr (.inr h.1))
    · intro hk
      rcases h.1 with h | h | h | h
      · exact h.2.2.2.2
      · exact h.2.2.2
      · exact h.2.2.2
      · exact absurd h.1 hk
theorem codeT_vars : ∀ (t : T), t.kinds → ∀ vs, (codeT t vs).2 = addAll vs (varsT t)
  | .nil, h, _ => h.elim
  | .mk k n s m a, h, vs => by
    obtain ⟨hk, hm, ha⟩ := h
    unfold codeT
    by_cases h1 : k = 1
    · subst h1
      rw [if_pos rfl]
      have hv : varsT (.mk 1 n s m a) = [n] := by simp [varsT]
      rw [hv]
      cases hp : plN vs n 0 with
      | none =>
        have := plN_none.1 hp
        simp [addAll, add1, this]
      | some i =>
        obtain ⟨_, h2, h3, _⟩ := plN_lt hp
        have : n ∈ vs := List.mem_of_getElem? h3
        simp [addAll, add1, this]
    · rw [if_neg h1]
      by_cases h2 : k = 2
      · subst h2
        rw [if_pos rfl]
        simp [varsT, addAll]
      · rw [if_neg h2]
        by_cases h3 : k = 3
        · subst h3
          rw [if_pos rfl]
          simp [varsT, addAll]
        · rw [if_neg h3]
          obtain rfl : k = 4 := by omega
          rw [varsT_cmp, foldN_acc]
          have key : ∀ (q : Nat) (r : List Ins × List Int), q ≤ m → (foldC q (fun i => codeT (a i)) r).2 = foldN q (fun i => varsT (a i)) r.2 := by
            intro q
            induction q with
            | zero => intro r _; rfl
            | succ q ih =>
              intro r hq
              show (codeT (a q) (foldC q (fun i => codeT (a i)) r).2).2 = addAll (foldN q (fun i => varsT (a i)) r.2) (varsT (a q))
              rw [codeT_vars (a q) (ha q (by omega)), ih r (by omega)]
          exact key m _ (Nat.le_refl _)
/-- The slots of instructions, in their order: the next one's number; none: one is out of order. -/
def scan : List Ins → Nat → Option Nat
  | [], n => some n
  | x :: l, n => if x.o = 2 then (if x.a = (n : Int) then scan l (n + 1) else none) else if x.o = 3 then (if 0 ≤ x.a ∧ x.a < (n : Int) then scan l n else none) else scan l n
theorem scan_app : ∀ (l r : List Ins) (n : Nat), scan (l ++ r) n = (scan l n).bind (scan r)
  | [], r, n => rfl
  | x :: l, r, n => by
    simp only [List.cons_append, scan]
    split
    · split
      · exact scan_app l r _
      · rfl
    · split
      · split
        · exact scan_app l r _
        · rfl
      · exact scan_app l r _
def countO (o : Int) (l : List Ins) : Nat := (l.filter fun x => x.o == o).length
theorem countO_app (o : Int) (l r : List Ins) : countO o (l ++ r) = countO o l + countO o r := by simp [countO]
/-- What is told of what is laid down from some variables on. -/
structure Laid (vs : List Int) (r : List Ins × List Int) (b : Nat) : Prop where
  sc : scan r.1 b = some r.2.length
  fst : countO 2 r.1 + b = r.2.length
  no7 : countO 7 r.1 = 0
theorem codeT_laid : ∀ (t : T), t.kinds → ∀ vs, Laid vs (codeT t vs) vs.length
  | .nil, h, _ => h.elim
  | .mk k n s m a, h, vs => by
    obtain ⟨hk, hm, ha⟩ := h
    unfold codeT
    by_cases h1 : k = 1
    · rw [if_pos h1]
      cases hp : plN vs n 0 with
      | none =>
        refine ⟨?_, ?_, rfl⟩
        · simp [scan]
        · simp [countO]; omega
      | some i =>
        obtain ⟨_, h2, _, _⟩ := plN_lt hp
        refine ⟨?_, ?_, rfl⟩
        · show scan [⟨3, (i : Int), ⟨#[]⟩⟩] vs.length = some vs.length
          simp [scan]
          omega
        · simp [countO]
    · rw [if_neg h1]
      by_cases h2 : k = 2
      · rw [if_pos h2]
        exact ⟨by simp [scan], by simp [countO], rfl⟩
      · rw [if_neg h2]
        by_cases h3 : k = 3
        · rw [if_pos h3]
          exact ⟨by simp [scan], by simp [countO], rfl⟩
        · rw [if_neg h3]
          have key : ∀ (q : Nat), q ≤ m → Laid vs (foldC q (fun i => codeT (a i)) ([⟨6, (m : Int), s⟩], vs)) vs.length := by
            intro q
            induction q with
            | zero => intro _; exact ⟨by simp [scan, foldC], by simp [countO, foldC], rfl⟩
            | succ q ih =>
              intro hq
              obtain ⟨i1, i2, i3⟩ := ih (by omega)
              obtain ⟨j1, j2, j3⟩ := codeT_laid (a q) (ha q (by omega)) (foldC q (fun i => codeT (a i)) ([⟨6, (m : Int), s⟩], vs)).2
              refine ⟨?_, ?_, ?_⟩
              · show scan (_ ++ _) _ = _
                rw [scan_app, i1]
                exact j1
              · show countO 2 ((foldC q (fun i => codeT (a i)) ([⟨6, (m : Int), s⟩], vs)).1 ++ (codeT (a q) (foldC q (fun i => codeT (a i)) ([⟨6, (m : Int), s⟩], vs)).2).1) + vs.length = (codeT (a q) (foldC q (fun i => codeT (a i)) ([⟨6, (m : Int), s⟩], vs)).2).2.length
                rw [countO_app]
                omega
              · show countO 7 (_ ++ _) = 0
                rw [countO_app, i3, j3]
          exact key m (Nat.le_refl _)
theorem codeG_laid : ∀ (gs : List T) (r : List Ins × List Int) (q : Nat), (∀ g ∈ gs, g.kinds) → scan r.1 0 = some r.2.length → countO 2 r.1 = r.2.length → countO 7 r.1 = q →
    scan (codeG gs r).1 0 = some (codeG gs r).2.length ∧ countO 2 (codeG gs r).1 = (codeG gs r).2.length ∧ countO 7 (codeG gs r).1 = q + gs.length
  | [], r, q, _, h1, h2, h3 => ⟨h1, h2, h3⟩
  | g :: gs, r, q, hg, h1, h2, h3 => by
    obtain ⟨j1, j2, j3⟩ := codeT_laid g (hg g (by simp)) r.2
    have := codeG_laid gs (r.1 ++ [⟨7, 0, ⟨#[]⟩⟩] ++ (codeT g r.2).1, (codeT g r.2).2) (q + 1) (fun x hx => hg x (by simp [hx]))
      (by
        show scan (r.1 ++ [⟨7, 0, ⟨#[]⟩⟩] ++ (codeT g r.2).1) 0 = _
        rw [scan_app, scan_app, h1]
        have e : scan [⟨7, 0, ⟨#[]⟩⟩] r.2.length = some r.2.length := by simp [scan]
        show (scan [⟨7, 0, ⟨#[]⟩⟩] r.2.length).bind _ = _
        rw [e]
        exact j1)
      (by
        show countO 2 (r.1 ++ [⟨7, 0, ⟨#[]⟩⟩] ++ (codeT g r.2).1) = (codeT g r.2).2.length
        have e : countO 2 [(⟨7, 0, ⟨#[]⟩⟩ : Ins)] = 0 := rfl
        rw [countO_app, countO_app, h2, e, ← j2]
        omega)
      (by
        show countO 7 (r.1 ++ [⟨7, 0, ⟨#[]⟩⟩] ++ (codeT g r.2).1) = _
        have e : countO 7 [(⟨7, 0, ⟨#[]⟩⟩ : Ins)] = 1 := rfl
        rw [countO_app, countO_app, h3, e, j3])
    refine ⟨this.1, this.2.1, ?_⟩
    rw [show codeG (g :: gs) r = codeG gs (r.1 ++ [⟨7, 0, ⟨#[]⟩⟩] ++ (codeT g r.2).1, (codeT g r.2).2) from rfl, this.2.2]
    simp
    omega
theorem codeG_vars : ∀ (gs : List T) (r : List Ins × List Int), (∀ g ∈ gs, g.kinds) → (codeG gs r).2 = gs.foldl (fun vs g => addAll vs (varsT g)) r.2
  | [], _, _ => rfl
  | g :: gs, r, hg => by
    show (codeG gs (_, (codeT g r.2).2)).2 = _
    rw [codeG_vars gs _ fun x hx => hg x (by simp [hx])]
    simp only [List.foldl_cons]
    rw [codeT_vars g (hg g (by simp))]
theorem foldN_list (h : T) : ∀ (gs : List T), foldN (gs.length + 1) (fun i => varsT ((h :: gs).getD i .nil)) [] = gs.foldl (fun vs g => addAll vs (varsT g)) (varsT h) := by
  intro gs
  have key : ∀ (q : Nat), q ≤ gs.length → foldN (q + 1) (fun i => varsT ((h :: gs).getD i .nil)) [] = (gs.take q).foldl (fun vs g => addAll vs (varsT g)) (varsT h) := by
    intro q
    induction q with
    | zero =>
      intro _
      show addAll [] (varsT h) = varsT h
      exact addAll_nil varsT_nodup
    | succ q ih =>
      intro hq
      show addAll (foldN (q + 1) _ []) _ = _
      rw [ih (by omega), List.take_succ_eq_append_getElem (by omega : q < gs.length), List.foldl_append]
      simp only [List.foldl_cons, List.foldl_nil]
      congr 2
      simp [List.getD_eq_getElem?_getD, show q < gs.length by omega]
  have := key gs.length (Nat.le_refl _)
  rwa [List.take_length] at this
/-- The variables of a clause are those that have a slot. -/
theorem enc_vars {h : T} {gs : List T} (hh : h.kinds) (hg : ∀ g ∈ gs, g.kinds) : (codeG gs (codeT h [])).2 = varsT (wholeT h gs) := by
  rw [codeG_vars gs _ hg, codeT_vars h hh, addAll_nil varsT_nodup]
  exact (foldN_list h gs).symm.trans (varsT_cmp _ _ _ _).symm
theorem enc_laid {h : T} {gs : List T} (hh : h.kinds) (hg : ∀ g ∈ gs, g.kinds) :
    scan (encN h gs) 0 = some (varsT (wholeT h gs)).length ∧ countO 2 (encN h gs) = (varsT (wholeT h gs)).length ∧ countO 7 (encN h gs) = gs.length := by
  obtain ⟨j1, j2, j3⟩ := codeT_laid h hh []
  obtain ⟨i1, i2, i3⟩ := codeG_laid gs (codeT h []) 0 hg j1 (by simpa using j2) j3
  rw [enc_vars hh hg] at i1 i2
  unfold encN
  refine ⟨?_, ?_, ?_⟩
  · rw [scan_app, scan_app]
    have e : scan [⟨1, ((codeG gs (codeT h [])).2.length : Int), ⟨#[]⟩⟩] 0 = some 0 := by simp [scan]
    rw [e]
    show ((scan (codeG gs (codeT h [])).1 0)).bind _ = _
    rw [i1]
    simp [scan]
  · rw [countO_app, countO_app, i2]
    simp [countO]
  · rw [countO_app, countO_app, i3]
    simp [countO]
end Go.Proofs.YtlgeepjlnjlgdaaDoor
namespace Go.Proofs.YtlgeepjlnjlgdaaDoor
open Go.RowKit

/-- Terms one behind the other. -/
def argsR (rd : Nat → Option (T × Nat)) : Nat → List T → Nat → Option (List T × Nat)
  | 0, acc, i => some (acc, i)
  | n + 1, acc, i => match rd i with
    | none => none
    | some (t, j) => argsR rd n (acc ++ [t]) j
def leafI (x : Ins) : Option T := if x.o = 2 ∨ x.o = 3 then some (vrT x.a) else if x.o = 4 then some (inT x.a) else if x.o = 5 then some (atT x.s) else none
/-- A term of instructions; f: how many may stand within one another (the reference's). -/
def rdT (l : List Ins) : Nat → Nat → Option (T × Nat)
  | 0, _ => none
  | f + 1, i => match l[i]? with
    | none => none
    | some x => match leafI x with
      | some t => some (t, i + 1)
      | none => if x.o = 6 then (argsR (rdT l f) x.a.toNat [] (i + 1)).map fun p => (cmpT x.s p.1, p.2) else none
/-- The same (the program's: a leaf may stand one deeper). -/
def pdT (l : List Ins) : Nat → Nat → Option (T × Nat)
  | 0, i => match l[i]? with
    | none => none
    | some x => (leafI x).map fun t => (t, i + 1)
  | f + 1, i => match l[i]? with
    | none => none
    | some x => match leafI x with
      | some t => some (t, i + 1)
      | none => if x.o = 6 then (argsR (pdT l f) x.a.toNat [] (i + 1)).map fun p => (cmpT x.s p.1, p.2) else none
theorem leaf_depth {x : Ins} {t : T} (h : leafI x = some t) : t.depth = 1 := by
  unfold leafI at h
  split at h
  · injection h with h; subst h; rfl
  · split at h
    · injection h with h; subst h; rfl
    · split at h
      · injection h with h; subst h; rfl
      · cases h
theorem cmp_depth (s : ByteArray) (l : List T) : (cmpT s l).depth = maxTo l.length (fun i => (l.getD i .nil).depth) + 1 := rfl
theorem all_depth {s : ByteArray} {l : List T} {f : Nat} (h : (cmpT s l).depth ≤ f + 1) : ∀ t ∈ l, t.depth ≤ f := by
  intro t ht
  obtain ⟨i, hi, rfl⟩ := List.getElem_of_mem ht
  rw [cmp_depth] at h
  have := maxTo_le (f := fun i => (l.getD i .nil).depth) hi
  simp only [List.getD_eq_getElem?_getD, List.getElem?_eq_getElem hi, Option.getD_some] at this
  have h2 := Nat.le_trans this (Nat.le_of_succ_le_succ h)
  exact h2
theorem depth_all {s : ByteArray} {l : List T} {f : Nat} (h : ∀ t ∈ l, t.depth ≤ f) : (cmpT s l).depth ≤ f + 1 := by
  rw [cmp_depth]
  refine Nat.succ_le_succ (maxTo_lt fun i hi => ?_)
  simp only [List.getD_eq_getElem?_getD, List.getElem?_eq_getElem hi, Option.getD_some]
  exact h _ (List.getElem_mem hi)
/-- What is gathered stays ahead. -/
theorem argsR_pre {rd : Nat → Option (T × Nat)} : ∀ {n : Nat} {acc l : List T} {i j : Nat}, argsR rd n acc i = some (l, j) → ∃ r, l = acc ++ r ∧ r.length = n
  | 0, acc, l, i, j, h => by injection h with h; injection h with h1 h2; exact ⟨[], by simp [h1], rfl⟩
  | n + 1, acc, l, i, j, h => by
    unfold argsR at h
    cases hr : rd i with
    | none => rw [hr] at h; cases h
    | some p =>
      obtain ⟨t, j'⟩ := p
      rw [hr] at h
      obtain ⟨r, h1, h2⟩ := argsR_pre h
      exact ⟨t :: r, by rw [h1]; simp, by simp [h2]⟩
theorem argsR_map {rd rd' : Nat → Option (T × Nat)} : ∀ {n : Nat} {acc l : List T} {i j : Nat}, argsR rd n acc i = some (l, j) → (∀ i t j, rd i = some (t, j) → t ∈ l → rd' i = some (t, j)) → argsR rd' n acc i = some (l, j)
  | 0, acc, l, i, j, h, _ => h
  | n + 1, acc, l, i, j, h, hm => by
    unfold argsR at h ⊢
    cases hr : rd i with
    | none => rw [hr] at h; cases h
    | some p =>
      obtain ⟨t, j'⟩ := p
      rw [hr] at h
      obtain ⟨r, h1, _⟩ := argsR_pre h
      rw [hm i t j' hr (by rw [h1]; simp)]
      exact argsR_map h hm
theorem argsR_all {rd : Nat → Option (T × Nat)} {P : T → Prop} (hP : ∀ i t j, rd i = some (t, j) → P t) : ∀ {n : Nat} {acc l : List T} {i j : Nat}, argsR rd n acc i = some (l, j) → (∀ t ∈ acc, P t) → ∀ t ∈ l, P t
  | 0, acc, l, i, j, h, ha => by injection h with h; injection h with h1 h2; rw [← h1]; exact ha
  | n + 1, acc, l, i, j, h, ha => by
    unfold argsR at h
    cases hr : rd i with
    | none => rw [hr] at h; cases h
    | some p =>
      obtain ⟨t, j'⟩ := p
      rw [hr] at h
      exact argsR_all hP h fun x hx => by
        rcases List.mem_append.1 hx with hx | hx
        · exact ha x hx
        · rw [List.mem_singleton.1 hx]; exact hP i t j' hr
theorem rd_depth (l : List Ins) : ∀ (f i : Nat) (t : T) (j : Nat), rdT l f i = some (t, j) → t.depth ≤ f
  | 0, _, _, _, h => by cases h
  | f + 1, i, t, j, h => by
    unfold rdT at h
    cases hx : l[i]? with
    | none => rw [hx] at h; cases h
    | some x =>
      rw [hx] at h
      dsimp only at h
      cases hl : leafI x with
      | some u =>
        rw [hl] at h
        injection h with h; injection h with h1 h2; subst h1
        rw [leaf_depth hl]; omega
      | none =>
        rw [hl] at h
        dsimp only at h
        split at h
        · obtain ⟨⟨ts, q⟩, ha, he⟩ := Option.map_eq_some_iff.1 h
          injection he with h1 h2; subst h1
          exact depth_all (argsR_all (P := fun t => t.depth ≤ f) (fun i t j h => rd_depth l f i t j h) ha fun _ h => by cases h)
        · cases h
theorem rd_pd (l : List Ins) : ∀ (f i : Nat) (t : T) (j : Nat), rdT l f i = some (t, j) → pdT l f i = some (t, j)
  | 0, _, _, _, h => by cases h
  | f + 1, i, t, j, h => by
    unfold rdT at h
    unfold pdT
    cases hx : l[i]? with
    | none => rw [hx] at h; cases h
    | some x =>
      rw [hx] at h
      dsimp only at h ⊢
      cases hl : leafI x with
      | some u => rw [hl] at h; exact h
      | none =>
        rw [hl] at h
        dsimp only at h ⊢
        split at h
        · rename_i h6
          rw [if_pos h6]
          obtain ⟨⟨ts, q⟩, ha, he⟩ := Option.map_eq_some_iff.1 h
          rw [argsR_map ha fun i t j h _ => rd_pd l f i t j h]
          exact congrArg some he
        · cases h
theorem pd_rd (l : List Ins) : ∀ (f i : Nat) (t : T) (j : Nat), pdT l f i = some (t, j) → t.depth ≤ f → rdT l f i = some (t, j)
  | 0, i, t, j, h, hd => by
    unfold pdT at h
    cases hx : l[i]? with
    | none => rw [hx] at h; cases h
    | some x =>
      rw [hx] at h
      obtain ⟨u, hu, he⟩ := Option.map_eq_some_iff.1 h
      injection he with h1 h2; subst h1
      rw [leaf_depth hu] at hd; omega
  | f + 1, i, t, j, h, hd => by
    unfold pdT at h
    unfold rdT
    cases hx : l[i]? with
    | none => rw [hx] at h; cases h
    | some x =>
      rw [hx] at h
      dsimp only at h ⊢
      cases hl : leafI x with
      | some u => rw [hl] at h; exact h
      | none =>
        rw [hl] at h
        dsimp only at h ⊢
        split at h
        · rename_i h6
          rw [if_pos h6]
          obtain ⟨⟨ts, q⟩, ha, he⟩ := Option.map_eq_some_iff.1 h
          injection he with h1 h2; subst h1
          rw [argsR_map ha fun i t j h ht => pd_rd l f i t j h (all_depth hd t ht)]
          exact congrArg (fun q => some (cmpT x.s ts, q)) h2
        · cases h
/-- A head, a goal. -/
def T.kindC : T → Prop
  | .nil => False
  | .mk k _ _ _ _ => k = 3 ∨ k = 4
def T.callC (t : T) : Prop := t.kindC ∧ t.goodW ∧ t.depth ≤ 1000
open Classical in
/-- Goals, each behind its own instruction. -/
noncomputable def goalsR (rd : Nat → Option (T × Nat)) (l : List Ins) : Nat → List T → Nat → Option (List T × Nat)
  | 0, acc, i => some (acc, i)
  | f + 1, acc, i => match l[i]? with
    | none => some (acc, i)
    | some x => if x.o = 7 then (match rd (i + 1) with
      | none => none
      | some (t, j) => if t.callC then goalsR rd l f (acc ++ [t]) j else none) else some (acc, i)
open Classical in
/-- What instructions are: a clause, or none. -/
noncomputable def decR (rd : Nat → Option (T × Nat)) (l : List Ins) : Option (T × List T) := match rd 1 with
  | none => none
  | some (h, i) => if h.callC then (match goalsR rd l l.length [] i with
    | none => none
    | some (gs, _) => if encN h gs = l then some (h, gs) else none) else none
theorem goals_same (l : List Ins) {D : Nat} (hD : D = 1000) : ∀ (f : Nat) (acc : List T) (i : Nat), goalsR (pdT l D) l f acc i = goalsR (rdT l D) l f acc i
  | 0, _, _ => rfl
  | f + 1, acc, i => by
    unfold goalsR
    cases hx : l[i]? with
    | none => rfl
    | some x =>
      dsimp only
      by_cases h7 : x.o = 7
      · rw [if_pos h7, if_pos h7]
        cases hp : pdT l D (i + 1) with
        | none =>
          cases hr : rdT l D (i + 1) with
          | none => rfl
          | some p => rw [rd_pd l _ _ p.1 p.2 hr] at hp; cases hp
        | some p =>
          obtain ⟨t, j⟩ := p
          dsimp only
          by_cases hc : t.callC
          · rw [pd_rd l _ _ t j hp (Nat.le_trans hc.2.2 (Nat.le_of_eq hD.symm))]
            dsimp only
            rw [if_pos hc, if_pos hc]
            exact goals_same l hD f _ _
          · rw [if_neg hc]
            cases hr : rdT l D (i + 1) with
            | none => rfl
            | some p =>
              obtain ⟨t2, j2⟩ := p
              have h2 := rd_pd l _ _ t2 j2 hr
              rw [hp] at h2
              injection h2 with h2
              injection h2 with h2 h3
              subst h2; subst h3
              dsimp only
              rw [if_neg hc]
      · rw [if_neg h7, if_neg h7]
theorem dec_sameD (l : List Ins) {D : Nat} (hD : D = 1000) : decR (pdT l D) l = decR (rdT l D) l := by
  unfold decR
  cases hp : pdT l D 1 with
  | none =>
    cases hr : rdT l D 1 with
    | none => rfl
    | some p => rw [rd_pd l _ _ p.1 p.2 hr] at hp; cases hp
  | some p =>
    obtain ⟨t, j⟩ := p
    dsimp only
    by_cases hc : t.callC
    · rw [pd_rd l _ _ t j hp (Nat.le_trans hc.2.2 (Nat.le_of_eq hD.symm))]
      dsimp only
      rw [if_pos hc, if_pos hc, goals_same l hD]
    · rw [if_neg hc]
      cases hr : rdT l D 1 with
      | none => rfl
      | some p =>
        obtain ⟨t2, j2⟩ := p
        have h2 := rd_pd l _ _ t2 j2 hr
        rw [hp] at h2
        injection h2 with h2
        injection h2 with h2 h3
        subst h2; subst h3
        dsimp only
        rw [if_neg hc]
theorem dec_same (l : List Ins) : decR (pdT l 1000) l = decR (rdT l 1000) l := dec_sameD l rfl
end Go.Proofs.YtlgeepjlnjlgdaaDoor
namespace Go.Proofs.YtlgeepjlnjlgdaaDoor
open Go.RowKit

/-- Instructions such as a clause's: few, their names and variables as terms' are. -/
structure InsIn (l : List Ins) : Prop where
  few : l.length ≤ 6000
  num : ∀ x ∈ l, I64 x.a
  nm : ∀ x ∈ l, nameOk x.s
  var : ∀ x ∈ l, x.o = 2 ∨ x.o = 3 → x.a < 9223372036854775808
/-- What a term that was read is, however it may be. -/
def T.semi : T → Prop
  | .nil => False
  | .mk k n s m a => ((k = 1 ∧ n < 9223372036854775808 ∧ s = ⟨#[]⟩ ∧ m = 0) ∨ (k = 2 ∧ I64 n ∧ s = ⟨#[]⟩ ∧ m = 0) ∨ (k = 3 ∧ n = 0 ∧ nameOk s ∧ m = 0) ∨ (k = 4 ∧ n = 0 ∧ nameOk s)) ∧ ∀ i, i < m → (a i).semi
theorem leaf_semi {l : List Ins} (hl : InsIn l) {x : Ins} (hx : x ∈ l) {t : T} (h : leafI x = some t) : t.semi ∧ t.nodes = 1 := by
  unfold leafI at h
  split at h
  · rename_i ho
    injection h with h; subst h; exact ⟨⟨.inl ⟨rfl, hl.var x hx ho, rfl, rfl⟩, fun i hi => absurd hi (by omega)⟩, rfl⟩
  · split at h
    · injection h with h; subst h; exact ⟨⟨.inr (.inl ⟨rfl, hl.num x hx, rfl, rfl⟩), fun i hi => absurd hi (by omega)⟩, rfl⟩
    · split at h
      · injection h with h; subst h; exact ⟨⟨.inr (.inr (.inl ⟨rfl, rfl, hl.nm x hx, rfl⟩)), fun i hi => absurd hi (by omega)⟩, rfl⟩
      · cases h
def sumL (ts : List T) : Nat := (ts.map T.nodes).sum
theorem sumTo_list : ∀ (l : List T), sumTo l.length (fun i => (l.getD i .nil).nodes) = sumL l := by
  intro l
  have key : ∀ (q : Nat), q ≤ l.length → sumTo q (fun i => (l.getD i .nil).nodes) = sumL (l.take q) := by
    intro q
    induction q with
    | zero => intro _; simp [sumTo, sumL]
    | succ q ih =>
      intro hq
      have hq' : q < l.length := by omega
      simp only [sumTo]
      rw [ih (by omega), List.take_succ_eq_append_getElem hq']
      unfold sumL
      rw [List.map_append, List.sum_append, List.getD_eq_getElem?_getD, List.getElem?_eq_getElem hq']
      simp
  have := key l.length (Nat.le_refl _)
  rwa [List.take_length] at this
theorem cmpT_nodes (s : ByteArray) (l : List T) : (cmpT s l).nodes = 1 + sumL l := by
  show 1 + sumTo l.length (fun i => (l.getD i .nil).nodes) = _
  rw [sumTo_list]
theorem args_semi {rd : Nat → Option (T × Nat)} (h : ∀ i t j, rd i = some (t, j) → t.semi ∧ i + t.nodes ≤ j) : ∀ {n : Nat} {acc r : List T} {i j : Nat}, argsR rd n acc i = some (r, j) → (∀ t ∈ acc, t.semi) → (∀ t ∈ r, t.semi) ∧ i + sumL r ≤ j + sumL acc
  | 0, acc, r, i, j, he, ha => by
    injection he with he; injection he with h1 h2; subst h1
    exact ⟨ha, by omega⟩
  | n + 1, acc, r, i, j, he, ha => by
    unfold argsR at he
    cases hr : rd i with
    | none => rw [hr] at he; cases he
    | some p =>
      obtain ⟨t, q⟩ := p
      rw [hr] at he
      have h1 := h i t q hr
      have h2 := args_semi h he fun x hx => by
        rcases List.mem_append.1 hx with hx | hx
        · exact ha x hx
        · rw [List.mem_singleton.1 hx]; exact h1.1
      refine ⟨h2.1, ?_⟩
      have h3 := h2.2
      simp only [sumL, List.map_append, List.sum_append, List.map_cons, List.map_nil, List.sum_cons, List.sum_nil] at h3 ⊢
      omega
theorem pd_semi {l : List Ins} (hl : InsIn l) : ∀ (f i : Nat) (t : T) (j : Nat), pdT l f i = some (t, j) → t.semi ∧ i + t.nodes ≤ j
  | 0, i, t, j, h => by
    unfold pdT at h
    cases hx : l[i]? with
    | none => rw [hx] at h; cases h
    | some x =>
      rw [hx] at h
      obtain ⟨u, hu, he⟩ := Option.map_eq_some_iff.1 h
      injection he with h1 h2; subst h1
      have := leaf_semi hl (List.mem_of_getElem? hx) hu
      exact ⟨this.1, by omega⟩
  | f + 1, i, t, j, h => by
    unfold pdT at h
    cases hx : l[i]? with
    | none => rw [hx] at h; cases h
    | some x =>
      rw [hx] at h
      dsimp only at h
      cases hlf : leafI x with
      | some u =>
        rw [hlf] at h
        injection h with h; injection h with h1 h2; subst h1
        have := leaf_semi hl (List.mem_of_getElem? hx) hlf
        exact ⟨this.1, by omega⟩
      | none =>
        rw [hlf] at h
        dsimp only at h
        split at h
        · obtain ⟨⟨ts, q⟩, ha, he⟩ := Option.map_eq_some_iff.1 h
          injection he with h1 h2; subst h1
          have h3 := args_semi (fun i t j h => pd_semi hl f i t j h) ha fun _ h => by cases h
          refine ⟨⟨.inr (.inr (.inr ⟨rfl, rfl, hl.nm x (List.mem_of_getElem? hx)⟩)), fun i hi => ?_⟩, ?_⟩
          · dsimp only
            rw [List.getD_eq_getElem?_getD, List.getElem?_eq_getElem hi]
            exact h3.1 _ (List.getElem_mem hi)
          · rw [cmpT_nodes]
            have := h3.2
            simp only [sumL, List.map_nil, List.sum_nil] at this
            dsimp only at h2
            simp only [sumL]
            omega
        · cases h
theorem T.semi.short : ∀ {t : T}, t.semi → t.short
  | .nil, h => h.elim
  | .mk k n s m a, h => by
    refine ⟨?_, fun i hi => T.semi.short (h.2 i hi)⟩
    rcases h.1 with h | h | h | h
    · rw [h.2.2.1]; decide
    · rw [h.2.2.1]; decide
    · exact h.2.2.1.1
    · exact h.2.2.1
/-- A term that was read and that may be written is a good one. -/
theorem semi_good : ∀ {t : T}, t.semi → t.legal → t.good
  | .nil, h, _ => h.elim
  | .mk k n s m a, h, hg => by
    rcases h.1 with h1 | h1 | h1 | h1
    · obtain ⟨rfl, h2, h3, rfl⟩ := h1
      have h0 : 0 ≤ n := by
        rcases hg with g | g | g | g
        · exact g.2
        · omega
        · omega
        · omega
      exact ⟨.inl ⟨rfl, h0, h2, h3, rfl⟩, fun i hi => absurd hi (by omega)⟩
    · obtain ⟨rfl, h2, h3, rfl⟩ := h1
      exact ⟨.inr (.inl ⟨rfl, h2, h3, rfl⟩), fun i hi => absurd hi (by omega)⟩
    · obtain ⟨rfl, h2, h3, rfl⟩ := h1
      exact ⟨.inr (.inr (.inl ⟨rfl, h2, h3, rfl⟩)), fun i hi => absurd hi (by omega)⟩
    · obtain ⟨rfl, h2, h3⟩ := h1
      rcases hg with g | g | g | g
      · omega
      · omega
      · omega
      · exact ⟨.inr (.inr (.inr ⟨rfl, h2, h3, g.2.2.1⟩)), fun i hi => semi_good (h.2 i hi) (g.2.2.2 i hi)⟩
theorem good_sizeK : ∀ {t : T}, t.good → t.sizeK = t.nodes
  | .nil, h => h.elim
  | .mk k n s m a, h => by
    simp only [T.sizeK, T.nodes]
    rcases h.1 with h1 | h1 | h1 | h1
    · obtain ⟨rfl, _, _, _, rfl⟩ := h1; simp [sumTo]
    · obtain ⟨rfl, _, _, rfl⟩ := h1; simp [sumTo]
    · obtain ⟨rfl, _, _, rfl⟩ := h1; simp [sumTo]
    · rw [if_pos h1.1]
      congr 1
      have : ∀ q, q ≤ m → sumTo q (fun i => (a i).sizeK) = sumTo q fun i => (a i).nodes := by
        intro q
        induction q with
        | zero => intro _; rfl
        | succ q ih =>
          intro hq
          simp only [sumTo]
          rw [ih (by omega), good_sizeK (h.2 q (by omega))]
      exact this m (Nat.le_refl _)
/-- What may be a head, a goal, is a good term of up to 1000 parts. -/
theorem call_ok {t : T} (h : t.semi) (hc : t.callC) : t.ok := by
  have h1 := semi_good h hc.2.1.1
  refine ⟨h1, ?_⟩
  have := hc.2.1.2
  rw [good_sizeK h1] at this
  omega
end Go.Proofs.YtlgeepjlnjlgdaaDoor
