/- The reference's reader, plain: a term that was read has its variables numbered by where they come first; names stand once, but for the one that is none. -/
import Derived.Test.YtiefbdblefliaaaDoorGb
namespace Go.Proofs.YtiefbdblefliaaaDoor
open Go.RowKit

def ordR (f : Nat → Nat → Nat → Prop) : Nat → Nat → Nat → Nat → Prop
  | _, 0, c, c' => c' = c
  | j, r + 1, c, c' => ∃ d, f j c d ∧ ordR f (j + 1) r d c'
/-- Variables are numbered by where they come first, from c on; c' is the next one's number. -/
def T.ord : T → Nat → Nat → Prop
  | .nil, _, _ => False
  | .mk k n _ m a, c, c' => (k = 1 ∧ ∃ i : Nat, n = (i : Int) ∧ ((i < c ∧ c' = c) ∨ (i = c ∧ c' = c + 1))) ∨ ((k = 2 ∨ k = 3) ∧ m = 0 ∧ c' = c) ∨ (k = 4 ∧ ordR (fun i => (a i).ord) 0 m c c')
def ordL : List T → Nat → Nat → Prop
  | [], c, c' => c' = c
  | t :: l, c, c' => ∃ d, t.ord c d ∧ ordL l d c'
theorem ordL_app : ∀ {l r : List T} {c d e : Nat}, ordL l c d → ordL r d e → ordL (l ++ r) c e
  | [], _, _, _, _, h, h' => by obtain rfl := h; exact h'
  | _ :: _, _, _, _, _, h, h' => by
    obtain ⟨x, h1, h2⟩ := h
    exact ⟨x, h1, ordL_app h2 h'⟩
theorem ordL_one {t : T} {c d : Nat} (h : t.ord c d) : ordL [t] c d := ⟨d, h, rfl⟩
theorem ordR_list : ∀ (l : List T) {g : Nat → T} {j c c' : Nat}, (∀ i, i < l.length → g (j + i) = l.getD i .nil) → ordL l c c' → ordR (fun i => (g i).ord) j l.length c c'
  | [], _, _, _, _, _, h => h
  | t :: l, g, j, c, c', hg, h => by
    obtain ⟨d, h1, h2⟩ := h
    refine ⟨d, ?_, ordR_list l (fun i hi => ?_) h2⟩
    · have := hg 0 (by simp)
      rw [Nat.add_zero] at this
      show (g j).ord c d
      rw [this]
      exact h1
    · have := hg (i + 1) (by simp; omega)
      rw [show j + 1 + i = j + (i + 1) by omega, this]
      simp
theorem ord_cmp {s : ByteArray} {l : List T} {c c' : Nat} (h : ordL l c c') : (cmpT s l).ord c c' := .inr (.inr ⟨rfl, ordR_list l (fun i _ => by simp) h⟩)
theorem ord_two {s : ByteArray} {t t' : T} {c d c' : Nat} (h : t.ord c d) (h' : t'.ord d c') : (twoT s t t').ord c c' :=
  .inr (.inr ⟨rfl, d, h, c', h', rfl⟩)
theorem ord_one {s : ByteArray} {t : T} {c c' : Nat} (h : t.ord c c') : (oneT s t).ord c c' := .inr (.inr ⟨rfl, c', h, rfl⟩)
theorem ord_at (s : ByteArray) (c : Nat) : (atT s).ord c c := .inr (.inl ⟨.inr rfl, rfl, rfl⟩)
theorem ord_int (n : Int) (c : Nat) : (inT n).ord c c := .inr (.inl ⟨.inl rfl, rfl, rfl⟩)
theorem ord_list : ∀ {l : List T} {r : T} {c d c' : Nat}, ordL l c d → r.ord d c' → (listT l r).ord c c'
  | [], _, _, _, _, h, h' => by obtain rfl := h; exact h'
  | _ :: _, _, _, _, _, h, h' => by
    obtain ⟨x, h1, h2⟩ := h
    exact ord_two h1 (ord_list h2 h')
def usS : ByteArray := ⟨#[95]⟩
/-- Each name stands once, but for the one that is none. -/
def onceN (ns : List ByteArray) : Prop := ∀ (i j : Nat) (x : ByteArray), i < j → ns[i]? = some x → ns[j]? = some x → x = usS
/-- What a reader's function does to the names. -/
structure NmS (tk : List Tk) (ns ns' : List ByteArray) : Prop where
  pre : ∃ r, ns' = ns ++ r
  once : onceN ns → onceN ns'
  tok : ∀ x ∈ ns', x ∈ ns ∨ ∃ t ∈ tk, t.k = 2 ∧ t.t = x
theorem NmS.refl (tk : List Tk) (ns : List ByteArray) : NmS tk ns ns := ⟨⟨[], (List.append_nil _).symm⟩, id, fun _ h => .inl h⟩
theorem NmS.trans {tk : List Tk} {a b c : List ByteArray} (h : NmS tk a b) (h' : NmS tk b c) : NmS tk a c := by
  obtain ⟨r, rfl⟩ := h.pre
  obtain ⟨q, rfl⟩ := h'.pre
  exact ⟨⟨r ++ q, List.append_assoc _ _ _⟩, fun x => h'.once (h.once x), fun x hx => (h'.tok x hx).elim (h.tok x) .inr⟩
theorem varI_none' {x : ByteArray} (hx : x ≠ ⟨#[95]⟩) : ∀ (ns : List ByteArray) (i : Nat), varI x ns i = none → x ∉ ns
  | [], _, _ => by simp
  | y :: ns, i, h => by
    unfold varI at h
    split at h
    · cases h
    · rename_i h1
      intro hm
      rcases List.mem_cons.1 hm with rfl | hm
      · exact h1 ⟨rfl, hx⟩
      · exact varI_none' hx ns (i + 1) h hm
theorem varI_lt {x : ByteArray} : ∀ (ns : List ByteArray) (i r : Nat), varI x ns i = some r → r < i + ns.length
  | [], _, _, h => by cases h
  | y :: ns, i, r, h => by
    unfold varI at h
    split at h
    · injection h with h; subst h; simp
    · have := varI_lt ns (i + 1) r h
      simp only [List.length_cons]
      omega
section
variable {tk : List Tk} {sz : Nat}
theorem var_names {t : Tk} {ns : List ByteArray} (ht : t ∈ tk) (hk : t.k = 2) : NmS tk ns (varN t.t ns).2 ∧ (vrT (varN t.t ns).1).ord ns.length (varN t.t ns).2.length := by
  unfold varN
  cases hv : varI t.t ns 0 with
  | some i =>
    have := varI_lt ns 0 i hv
    exact ⟨.refl _ _, .inl ⟨rfl, i, rfl, .inl ⟨by omega, rfl⟩⟩⟩
  | none =>
    refine ⟨⟨⟨[t.t], rfl⟩, fun h i j x hij hi hj => ?_, fun x hx => ?_⟩, .inl ⟨rfl, ns.length, rfl, .inr ⟨rfl, by simp⟩⟩⟩
    · by_cases hx : x = usS
      · exact hx
      · have hj2 : j < ns.length + 1 := by
          have := (List.getElem?_eq_some_iff.1 hj).1
          simpa using this
        rw [List.getElem?_append_left (by omega)] at hi
        rcases Nat.lt_or_ge j ns.length with h1 | h1
        · rw [List.getElem?_append_left h1] at hj
          exact h i j x hij hi hj
        · obtain rfl : j = ns.length := by omega
          have e : x = t.t := by simpa using hj.symm
          subst e
          exact absurd (List.mem_of_getElem? hi) (varI_none' hx ns 0 hv)
    · rcases List.mem_append.1 hx with h | h
      · exact .inl h
      · exact .inr ⟨t, ht, hk, (List.mem_singleton.1 h).symm⟩
/-- A reader's function numbers variables by where they come first. -/
def OrdP (tk : List Tk) (r : PR T) (ns : List ByteArray) : Prop := ∀ t j ns', r = .ok (t, j, ns') → NmS tk ns ns' ∧ t.ord ns.length ns'.length
def OrdL (tk : List Tk) (r : PR (List T)) (c : Nat) (ns : List ByteArray) : Prop := ∀ l j ns', r = .ok (l, j, ns') → NmS tk ns ns' ∧ ordL l c ns'.length
def Ord2 (tk : List Tk) (r : PR (T × Int)) (ns : List ByteArray) : Prop := ∀ x j ns', r = .ok (x, j, ns') → NmS tk ns ns' ∧ x.1.ord ns.length ns'.length
def TmO (tk : List Tk) (tm : Int → Nat → List ByteArray → PR T) : Prop := ∀ m i ns, OrdP tk (tm m i ns) ns
theorem and_ok {α β : Type} {r : PR α} {f : α → Nat → List ByteArray → PR β} {y : β × Nat × List ByteArray} (h : r.andThen f = .ok y) : ∃ a j ns, r = .ok (a, j, ns) ∧ f a j ns = .ok y := by
  cases r with
  | error e => cases h
  | ok x => exact ⟨x.1, x.2.1, x.2.2, rfl, h⟩
theorem must_ok {α : Type} {m : ByteArray} {a : α} {i : Nat} {ns : List ByteArray} {y : α × Nat × List ByteArray} (h : mustN tk sz m a i ns = .ok y) : y = (a, i + 1, ns) := by
  unfold mustN at h
  split at h
  · injection h with h; exact h.symm
  · cases h
theorem rowC_ord {tm : Int → Nat → List ByteArray → PR T} (htm : TmO tk tm) : ∀ (f : Nat) (l : List T) (j : Nat) (ns0 ns : List ByteArray) (c : Nat), NmS tk ns0 ns → ordL l c ns.length → OrdL tk (rowC tk sz tm f l j ns) c ns0
  | 0, l, j, ns0, ns, c, hn, hl => fun l' j' ns' h => by
    injection h with h
    injection h with h1 h2
    injection h2 with _ h2
    subst h1 h2
    exact ⟨hn, hl⟩
  | f + 1, l, j, ns0, ns, c, hn, hl => fun l' j' ns' h => by
    unfold rowC at h
    split at h
    · obtain ⟨t, j1, ns1, h1, h2⟩ := and_ok h
      obtain ⟨g1, g2⟩ := htm _ _ _ _ _ _ h1
      exact rowC_ord htm f (l ++ [t]) j1 ns0 ns1 c (hn.trans g1) (ordL_app hl (ordL_one g2)) _ _ _ h2
    · injection h with h
      injection h with h1 h2
      injection h2 with _ h2
      subst h1 h2
      exact ⟨hn, hl⟩
theorem rowP_ord {tm : Int → Nat → List ByteArray → PR T} (htm : TmO tk tm) (j : Nat) (ns : List ByteArray) : OrdL tk (rowP tk sz tm j ns) ns.length ns := fun l' j' ns' h => by
  unfold rowP at h
  obtain ⟨t, j1, ns1, h1, h2⟩ := and_ok h
  obtain ⟨g1, g2⟩ := htm _ _ _ _ _ _ h1
  exact rowC_ord htm _ [t] j1 ns ns1 ns.length g1 (ordL_one g2) _ _ _ h2
theorem listP_ord {tm : Int → Nat → List ByteArray → PR T} (htm : TmO tk tm) (i : Nat) (ns : List ByteArray) : OrdP tk (listP tk sz tm i ns) ns := fun t j ns' h => by
  unfold listP at h
  split at h
  · injection h with h
    injection h with h1 h2
    injection h2 with _ h2
    subst h1 h2
    exact ⟨.refl _ _, ord_at _ _⟩
  · obtain ⟨l, j1, ns1, h1, h2⟩ := and_ok h
    obtain ⟨g1, g2⟩ := rowP_ord htm i ns _ _ _ h1
    split at h2
    · obtain ⟨r, j2, ns2, h3, h4⟩ := and_ok h2
      obtain ⟨g3, g4⟩ := htm _ _ _ _ _ _ h3
      have e := must_ok h4
      injection e with e1 e2
      injection e2 with _ e2
      subst e1 e2
      exact ⟨g1.trans g3, ord_list g2 g4⟩
    · have e := must_ok h2
      injection e with e1 e2
      injection e2 with _ e2
      subst e1 e2
      exact ⟨g1, ord_list g2 (ord_at _ _)⟩
theorem intP_ok {x : Tk} {b : Bool} {j : Nat} {ns : List ByteArray} {y : T × Nat × List ByteArray} (h : intP x b j ns = .ok y) : ∃ n, y = (inT n, j, ns) := by
  unfold intP at h
  split at h
  · injection h with h; exact ⟨_, h.symm⟩
  · cases h
theorem namedP_ord {tm : Int → Nat → List ByteArray → PR T} (htm : TmO tk tm) (t : Tk) (most : Int) (i : Nat) (ns : List ByteArray) : Ord2 tk (namedP tk sz tm t most i ns) ns := fun y j ns' h => by
  unfold namedP at h
  dsimp only at h
  split at h
  · obtain ⟨l, j1, ns1, h1, h2⟩ := and_ok h
    obtain ⟨g1, g2⟩ := rowP_ord htm _ ns _ _ _ h1
    have e := must_ok h2
    injection e with e1 e2
    injection e2 with _ e2
    subst e1 e2
    exact ⟨g1, ord_cmp g2⟩
  · split at h
    · obtain ⟨l, j1, ns1, h1, h2⟩ := and_ok h
      obtain ⟨n, e⟩ := intP_ok h1
      injection e with e1 e2
      injection e2 with _ e2
      subst e1 e2
      injection h2 with e
      injection e with e1 e2
      injection e2 with _ e2
      subst e1 e2
      exact ⟨.refl _ _, ord_int _ _⟩
    · split at h
      · injection h with e
        injection e with e1 e2
        injection e2 with _ e2
        subst e1 e2
        exact ⟨.refl _ _, ord_at _ _⟩
      · split at h
        · obtain ⟨r, j1, ns1, h1, h2⟩ := and_ok h
          obtain ⟨g1, g2⟩ := htm _ _ _ _ _ _ h1
          injection h2 with e
          injection e with e1 e2
          injection e2 with _ e2
          subst e1 e2
          exact ⟨g1, ord_one g2⟩
        · injection h with e
          injection e with e1 e2
          injection e2 with _ e2
          subst e1 e2
          exact ⟨.refl _ _, ord_at _ _⟩
theorem nx_mem {i : Nat} (h : (nxT tk sz i).k ≠ 0) : nxT tk sz i ∈ tk := by
  unfold nxT at h ⊢
  split
  · exact List.getElem_mem _
  · rename_i h1
    rw [dif_neg h1] at h
    exact absurd rfl h
theorem operandP_ord {tm : Int → Nat → List ByteArray → PR T} (htm : TmO tk tm) (most : Int) (i : Nat) (ns : List ByteArray) : Ord2 tk (operandP tk sz tm most i ns) ns := fun y j ns' h => by
  unfold operandP at h
  dsimp only at h
  split at h
  · obtain ⟨l, j1, ns1, h1, h2⟩ := and_ok h
    obtain ⟨n, e⟩ := intP_ok h1
    injection e with e1 e2
    injection e2 with _ e2
    subst e1 e2
    injection h2 with e
    injection e with e1 e2
    injection e2 with _ e2
    subst e1 e2
    exact ⟨.refl _ _, ord_int _ _⟩
  · split at h
    · rename_i hk
      injection h with e
      injection e with e1 e2
      injection e2 with _ e2
      subst e1 e2
      exact var_names (nx_mem (by rw [hk]; decide)) hk
    · split at h
      · obtain ⟨r, j1, ns1, h1, h2⟩ := and_ok h
        obtain ⟨g1, g2⟩ := htm _ _ _ _ _ _ h1
        have e := must_ok h2
        injection e with e1 e2
        injection e2 with _ e2
        subst e1 e2
        exact ⟨g1, g2⟩
      · split at h
        · obtain ⟨r, j1, ns1, h1, h2⟩ := and_ok h
          obtain ⟨g1, g2⟩ := listP_ord htm _ _ _ _ _ h1
          injection h2 with e
          injection e with e1 e2
          injection e2 with _ e2
          subst e1 e2
          exact ⟨g1, g2⟩
        · split at h
          · split at h
            · injection h with e
              injection e with e1 e2
              injection e2 with _ e2
              subst e1 e2
              exact ⟨.refl _ _, ord_at _ _⟩
            · obtain ⟨r, j1, ns1, h1, h2⟩ := and_ok h
              obtain ⟨g1, g2⟩ := htm _ _ _ _ _ _ h1
              have e := must_ok h2
              injection e with e1 e2
              injection e2 with _ e2
              subst e1 e2
              exact ⟨g1, ord_one g2⟩
          · split at h
            · exact namedP_ord htm _ _ _ _ _ _ _ h
            · cases h
theorem infixC_ord {tm : Int → Nat → List ByteArray → PR T} (htm : TmO tk tm) (most : Int) : ∀ (f : Nat) (t : T) (prio : Int) (j : Nat) (ns0 ns : List ByteArray), NmS tk ns0 ns → t.ord ns0.length ns.length → OrdP tk (infixC tk sz tm most f t prio j ns) ns0
  | 0, t, prio, j, ns0, ns, hn, ht => fun t' j' ns' h => by
    injection h with e
    injection e with e1 e2
    injection e2 with _ e2
    subst e1 e2
    exact ⟨hn, ht⟩
  | f + 1, t, prio, j, ns0, ns, hn, ht => fun t' j' ns' h => by
    have fin : (Except.ok (t, j, ns) : PR T) = .ok (t', j', ns') → NmS tk ns0 ns' ∧ t'.ord ns0.length ns'.length := fun h => by
      injection h with e
      injection e with e1 e2
      injection e2 with _ e2
      subst e1 e2
      exact ⟨hn, ht⟩
    unfold infixC at h
    dsimp only at h
    split at h
    · exact fin h
    · split at h
      · exact fin h
      · split at h
        · exact fin h
        · obtain ⟨t2, j1, ns1, h1, h2⟩ := and_ok h
          obtain ⟨g1, g2⟩ := htm _ _ _ _ _ _ h1
          exact infixC_ord htm most f _ _ j1 ns0 ns1 (hn.trans g1) (ord_two ht g2) _ _ _ h2
theorem termP_ord : ∀ (d : Nat), TmO tk (termP tk sz d)
  | 0, _, _, _ => fun _ _ _ h => by cases h
  | d + 1, most, i, ns => fun t j ns' h => by
    unfold termP at h
    obtain ⟨x, j1, ns1, h1, h2⟩ := and_ok h
    obtain ⟨g1, g2⟩ := operandP_ord (termP_ord d) most i ns _ _ _ h1
    exact infixC_ord (termP_ord d) most _ _ _ j1 ns ns1 g1 g2 _ _ _ h2
theorem readC_ord {P : T × List ByteArray → Prop} (hP : ∀ i t j ns, termP tk sz 65 1200 i [] = .ok (t, j, ns) → P (t, ns)) : ∀ (f j : Nat) (l r : List (T × List ByteArray)), (∀ x ∈ l, P x) → readC tk sz f j l = .ok r → ∀ x ∈ r, P x
  | 0, j, l, r, hl, h => by injection h with h; subst h; exact hl
  | f + 1, j, l, r, hl, h => by
    unfold readC at h
    split at h
    · split at h
      · cases h
      · rename_i t j' ns ht
        split at h
        · exact readC_ord hP f (j' + 1) _ r (fun x hx => (List.mem_append.1 hx).elim (hl x) fun hx => by rw [List.mem_singleton.1 hx]; exact hP _ _ _ _ ht) h
        · cases h
    · injection h with h; subst h; exact hl
end
/-- What is so of every sentence that was read. -/
def SenP (l : List Tk) (x : T × List ByteArray) : Prop := x.1.ord 0 x.2.length ∧ onceN x.2 ∧ ∀ y ∈ x.2, ∃ t ∈ l, t.k = 2 ∧ t.t = y
theorem read_sen {s : ByteArray} {r : List (T × List ByteArray)} (h : readN s = .ok r) : ∃ l, lexN s = .ok l ∧ ∀ x ∈ r, SenP l x := by
  unfold readN at h
  cases hl : lexN s with
  | bad p e => rw [hl] at h; cases h
  | ok l =>
    rw [hl] at h
    refine ⟨l, rfl, readC_ord (P := SenP l) (fun i t j ns ht => ?_) _ _ _ _ (fun x hx => by cases hx) h⟩
    obtain ⟨g1, g2⟩ := termP_ord 65 _ _ _ _ _ _ ht
    exact ⟨g2, g1.once (fun i j x _ h => by cases h), fun y hy => (g1.tok y hy).elim (fun h => by cases h) id⟩
theorem sent_read {s : ByteArray} {x : T × List ByteArray} (h : sentN s = .ok x) : ∃ u, readN u = .ok [x] := by
  unfold sentN at h
  split at h
  · cases h
  · split at h
    · cases h
    · rename_i y hr
      injection h with h
      subst h
      exact ⟨_, hr⟩
    · cases h
end Go.Proofs.YtiefbdblefliaaaDoor
