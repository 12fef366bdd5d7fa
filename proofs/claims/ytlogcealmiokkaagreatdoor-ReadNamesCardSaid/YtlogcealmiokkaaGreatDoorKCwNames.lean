/- The walk of ReadNames; what is read has its variables numbered by where they come first. -/
import Derived.Test.YtlogcealmiokkaaGreatDoorKGb
import Derived.Test.YtlogcealmiokkaaGreatDoorKGu
import Derived.Test.YtlogcealmiokkaaGreatDoorKCwNums
namespace Go.Proofs.YtlogcealmiokkaaGreatDoor
open Go.RowKit
def ordR (f : Nat → Nat → Nat → Prop) : Nat → Nat → Nat → Nat → Prop
 | _, 0, c, c' => c' = c
 | j, r + 1, c, c' => ∃ d, f j c d ∧ ordR f (j + 1) r d c'
def T.ord : T → Nat → Nat → Prop
 | .nil, _, _ => False
 | .mk k n _ m a, c, c' => (k = 1 ∧ ∃ i : Nat, n = (i : Int) ∧ ((i < c ∧ c' = c) ∨ (i = c ∧ c' = c + 1))) ∨ ((k = 2 ∨ k = 3) ∧ m = 0 ∧ c' = c) ∨ (k = 4 ∧ ordR (fun i => (a i).ord) 0 m c c')
def ordL : List T → Nat → Nat → Prop
 | [], c, c' => c' = c
 | t :: l, c, c' => ∃ d, t.ord c d ∧ ordL l d c'
theorem ordL_app : ∀ {l r : List T} {c d e : Nat}, ordL l c d → ordL r d e → ordL (l ++ r) c e
 | [], _, _, _, _, h, h' => by obtain rfl := h; exact h'
 | _ :: _, _, _, _, _, h, h' => by
  obtain ⟨x, h1, h2⟩ := h
  exact ⟨x, h1, ordL_app h2 h'⟩
theorem ordL_one {t : T} {c d : Nat} (h : t.ord c d) : ordL [t] c d := ⟨d, h, rfl⟩
theorem ordR_list : ∀ (l : List T) {g : Nat → T} {j c c' : Nat}, (∀ i, i < l.length → g (j + i) = l.getD i .nil) → ordL l c c' → ordR (fun i => (g i).ord) j l.length c c'
 | [], _, _, _, _, _, h => h
 | t :: l, g, j, c, c', hg, h => by
  obtain ⟨d, h1, h2⟩ := h
  refine ⟨d, ?_, ordR_list l (fun i hi => ?_) h2⟩
  ·have := hg 0 (by simp)
   rw [Nat.add_zero] at this
   show (g j).ord c d
   rw [this]
   exact h1
  ·have := hg (i + 1) (by simp; omega)
   rw [show j + 1 + i = j + (i + 1) by omega, this]
   simp
theorem ord_cmp {s : ByteArray} {l : List T} {c c' : Nat} (h : ordL l c c') : (cmpT s l).ord c c' := .inr (.inr ⟨rfl, ordR_list l (fun i _ => by simp) h⟩)
theorem ord_two {s : ByteArray} {t t' : T} {c d c' : Nat} (h : t.ord c d) (h' : t'.ord d c') : (twoT s t t').ord c c' :=
 .inr (.inr ⟨rfl, d, h, c', h', rfl⟩)
theorem ord_one {s : ByteArray} {t : T} {c c' : Nat} (h : t.ord c c') : (oneT s t).ord c c' := .inr (.inr ⟨rfl, c', h, rfl⟩)
theorem ord_at (s : ByteArray) (c : Nat) : (atT s).ord c c := .inr (.inl ⟨.inr rfl, rfl, rfl⟩)
theorem ord_int (n : Int) (c : Nat) : (inT n).ord c c := .inr (.inl ⟨.inl rfl, rfl, rfl⟩)
theorem ord_list : ∀ {l : List T} {r : T} {c d c' : Nat}, ordL l c d → r.ord d c' → (listT l r).ord c c'
 | [], _, _, _, _, h, h' => by obtain rfl := h; exact h'
 | _ :: _, _, _, _, _, h, h' => by
  obtain ⟨x, h1, h2⟩ := h
  exact ord_two h1 (ord_list h2 h')
def usS : ByteArray := ⟨#[95]⟩
def onceN (ns : List ByteArray) : Prop := ∀ (i j : Nat) (x : ByteArray), i < j → ns[i]? = some x → ns[j]? = some x → x = usS
structure NmS (tk : List Tk) (ns ns' : List ByteArray) : Prop where
 pre : ∃ r, ns' = ns ++ r
 once : onceN ns → onceN ns'
 tok : ∀ x ∈ ns', x ∈ ns ∨ ∃ t ∈ tk, t.k = 2 ∧ t.t = x
theorem NmS.refl (tk : List Tk) (ns : List ByteArray) : NmS tk ns ns := ⟨⟨[], (List.append_nil _).symm⟩, id, fun _ h => .inl h⟩
theorem NmS.trans {tk : List Tk} {a b c : List ByteArray} (h : NmS tk a b) (h' : NmS tk b c) : NmS tk a c := by
 obtain ⟨r, rfl⟩ := h.pre
 obtain ⟨q, rfl⟩ := h'.pre
 exact ⟨⟨r ++ q, List.append_assoc _ _ _⟩, fun x => h'.once (h.once x), fun x hx => (h'.tok x hx).elim (h.tok x) .inr⟩
theorem varI_none' {x : ByteArray} (hx : x ≠ ⟨#[95]⟩) : ∀ (ns : List ByteArray) (i : Nat), varI x ns i = none → x ∉ ns
 | [], _, _ => by simp
 | y :: ns, i, h => by
  unfold varI at h
  split at h
  ·cases h
  ·rename_i h1
   intro hm
   rcases List.mem_cons.1 hm with rfl | hm
   ·exact h1 ⟨rfl, hx⟩
   ·exact varI_none' hx ns (i + 1) h hm
theorem varI_lt {x : ByteArray} : ∀ (ns : List ByteArray) (i r : Nat), varI x ns i = some r → r < i + ns.length
 | [], _, _, h => by cases h
 | y :: ns, i, r, h => by
  unfold varI at h
  split at h
  ·injection h with h; subst h; simp
  ·have := varI_lt ns (i + 1) r h
   simp only [List.length_cons]
   omega
section
variable {tk : List Tk} {sz : Nat}
theorem var_names {t : Tk} {ns : List ByteArray} (ht : t ∈ tk) (hk : t.k = 2) : NmS tk ns (varN t.t ns).2 ∧ (vrT (varN t.t ns).1).ord ns.length (varN t.t ns).2.length := by
 unfold varN
 cases hv : varI t.t ns 0 with
 | some i =>
  have := varI_lt ns 0 i hv
  exact ⟨.refl _ _, .inl ⟨rfl, i, rfl, .inl ⟨by omega, rfl⟩⟩⟩
 | none =>
  refine ⟨⟨⟨[t.t], rfl⟩, fun h i j x hij hi hj => ?_, fun x hx => ?_⟩, .inl ⟨rfl, ns.length, rfl, .inr ⟨rfl, by simp⟩⟩⟩
  ·by_cases hx : x = usS
   ·exact hx
   ·have hj2 : j < ns.length + 1 := by
     have := (List.getElem?_eq_some_iff.1 hj).1
     simpa using this
    rw [List.getElem?_append_left (by omega)] at hi
    rcases Nat.lt_or_ge j ns.length with h1 | h1
    ·rw [List.getElem?_append_left h1] at hj
     exact h i j x hij hi hj
    ·obtain rfl : j = ns.length := by omega
     have e : x = t.t := by simpa using hj.symm
     subst e
     exact absurd (List.mem_of_getElem? hi) (varI_none' hx ns 0 hv)
  ·rcases List.mem_append.1 hx with h | h
   ·exact .inl h
   ·exact .inr ⟨t, ht, hk, (List.mem_singleton.1 h).symm⟩
def OrdP (tk : List Tk) (r : PR T) (ns : List ByteArray) : Prop := ∀ t j ns', r = .ok (t, j, ns') → NmS tk ns ns' ∧ t.ord ns.length ns'.length
def OrdL (tk : List Tk) (r : PR (List T)) (c : Nat) (ns : List ByteArray) : Prop := ∀ l j ns', r = .ok (l, j, ns') → NmS tk ns ns' ∧ ordL l c ns'.length
def Ord2 (tk : List Tk) (r : PR (T × Int)) (ns : List ByteArray) : Prop := ∀ x j ns', r = .ok (x, j, ns') → NmS tk ns ns' ∧ x.1.ord ns.length ns'.length
def TmO (tk : List Tk) (tm : Int → Nat → List ByteArray → PR T) : Prop := ∀ m i ns, OrdP tk (tm m i ns) ns
theorem and_ok {α β : Type} {r : PR α} {f : α → Nat → List ByteArray → PR β} {y : β × Nat × List ByteArray} (h : r.andThen f = .ok y) : ∃ a j ns, r = .ok (a, j, ns) ∧ f a j ns = .ok y := by
 cases r with
 | error e => cases h
 | ok x => exact ⟨x.1, x.2.1, x.2.2, rfl, h⟩
theorem must_ok {α : Type} {m : ByteArray} {a : α} {i : Nat} {ns : List ByteArray} {y : α × Nat × List ByteArray} (h : mustN tk sz m a i ns = .ok y) : y = (a, i + 1, ns) := by
 unfold mustN at h
 split at h
 ·injection h with h; exact h.symm
 ·cases h
theorem rowC_ord {tm : Int → Nat → List ByteArray → PR T} (htm : TmO tk tm) : ∀ (f : Nat) (l : List T) (j : Nat) (ns0 ns : List ByteArray) (c : Nat), NmS tk ns0 ns → ordL l c ns.length → OrdL tk (rowC tk sz tm f l j ns) c ns0
 | 0, l, j, ns0, ns, c, hn, hl => fun l' j' ns' h => by
  injection h with h
  injection h with h1 h2
  injection h2 with _ h2
  subst h1 h2
  exact ⟨hn, hl⟩
 | f + 1, l, j, ns0, ns, c, hn, hl => fun l' j' ns' h => by
  unfold rowC at h
  split at h
  ·obtain ⟨t, j1, ns1, h1, h2⟩ := and_ok h
   obtain ⟨g1, g2⟩ := htm _ _ _ _ _ _ h1
   exact rowC_ord htm f (l ++ [t]) j1 ns0 ns1 c (hn.trans g1) (ordL_app hl (ordL_one g2)) _ _ _ h2
  ·injection h with h
   injection h with h1 h2
   injection h2 with _ h2
   subst h1 h2
   exact ⟨hn, hl⟩
theorem rowP_ord {tm : Int → Nat → List ByteArray → PR T} (htm : TmO tk tm) (j : Nat) (ns : List ByteArray) : OrdL tk (rowP tk sz tm j ns) ns.length ns := fun l' j' ns' h => by
 unfold rowP at h
 obtain ⟨t, j1, ns1, h1, h2⟩ := and_ok h
 obtain ⟨g1, g2⟩ := htm _ _ _ _ _ _ h1
 exact rowC_ord htm _ [t] j1 ns ns1 ns.length g1 (ordL_one g2) _ _ _ h2
theorem listP_ord {tm : Int → Nat → List ByteArray → PR T} (htm : TmO tk tm) (i : Nat) (ns : List ByteArray) : OrdP tk (listP tk sz tm i ns) ns := fun t j ns' h => by
 unfold listP at h
 split at h
 ·injection h with h
  injection h with h1 h2
  injection h2 with _ h2
  subst h1 h2
  exact ⟨.refl _ _, ord_at _ _⟩
 ·obtain ⟨l, j1, ns1, h1, h2⟩ := and_ok h
  obtain ⟨g1, g2⟩ := rowP_ord htm i ns _ _ _ h1
  split at h2
  ·obtain ⟨r, j2, ns2, h3, h4⟩ := and_ok h2
   obtain ⟨g3, g4⟩ := htm _ _ _ _ _ _ h3
   have e := must_ok h4
   injection e with e1 e2
   injection e2 with _ e2
   subst e1 e2
   exact ⟨g1.trans g3, ord_list g2 g4⟩
  ·have e := must_ok h2
   injection e with e1 e2
   injection e2 with _ e2
   subst e1 e2
   exact ⟨g1, ord_list g2 (ord_at _ _)⟩
theorem intP_ok {x : Tk} {b : Bool} {j : Nat} {ns : List ByteArray} {y : T × Nat × List ByteArray} (h : intP x b j ns = .ok y) : ∃ n, y = (inT n, j, ns) := by
 unfold intP at h
 split at h
 ·injection h with h; exact ⟨_, h.symm⟩
 ·cases h
theorem namedP_ord {tm : Int → Nat → List ByteArray → PR T} (htm : TmO tk tm) (t : Tk) (most : Int) (i : Nat) (ns : List ByteArray) : Ord2 tk (namedP tk sz tm t most i ns) ns := fun y j ns' h => by
 unfold namedP at h
 dsimp only at h
 split at h
 ·obtain ⟨l, j1, ns1, h1, h2⟩ := and_ok h
  obtain ⟨g1, g2⟩ := rowP_ord htm _ ns _ _ _ h1
  have e := must_ok h2
  injection e with e1 e2
  injection e2 with _ e2
  subst e1 e2
  exact ⟨g1, ord_cmp g2⟩
 ·split at h
  ·obtain ⟨l, j1, ns1, h1, h2⟩ := and_ok h
   obtain ⟨n, e⟩ := intP_ok h1
   injection e with e1 e2
   injection e2 with _ e2
   subst e1 e2
   injection h2 with e
   injection e with e1 e2
   injection e2 with _ e2
   subst e1 e2
   exact ⟨.refl _ _, ord_int _ _⟩
  ·split at h
   ·injection h with e
    injection e with e1 e2
    injection e2 with _ e2
    subst e1 e2
    exact ⟨.refl _ _, ord_at _ _⟩
   ·split at h
    ·obtain ⟨r, j1, ns1, h1, h2⟩ := and_ok h
     obtain ⟨g1, g2⟩ := htm _ _ _ _ _ _ h1
     injection h2 with e
     injection e with e1 e2
     injection e2 with _ e2
     subst e1 e2
     exact ⟨g1, ord_one g2⟩
    ·injection h with e
     injection e with e1 e2
     injection e2 with _ e2
     subst e1 e2
     exact ⟨.refl _ _, ord_at _ _⟩
theorem nx_mem {i : Nat} (h : (nxT tk sz i).k ≠ 0) : nxT tk sz i ∈ tk := by
 unfold nxT at h ⊢
 split
 ·exact List.getElem_mem _
 ·rename_i h1
  rw [dif_neg h1] at h
  exact absurd rfl h
theorem operandP_ord {tm : Int → Nat → List ByteArray → PR T} (htm : TmO tk tm) (most : Int) (i : Nat) (ns : List ByteArray) : Ord2 tk (operandP tk sz tm most i ns) ns := fun y j ns' h => by
 unfold operandP at h
 dsimp only at h
 split at h
 ·obtain ⟨l, j1, ns1, h1, h2⟩ := and_ok h
  obtain ⟨n, e⟩ := intP_ok h1
  injection e with e1 e2
  injection e2 with _ e2
  subst e1 e2
  injection h2 with e
  injection e with e1 e2
  injection e2 with _ e2
  subst e1 e2
  exact ⟨.refl _ _, ord_int _ _⟩
 ·split at h
  ·rename_i hk
   injection h with e
   injection e with e1 e2
   injection e2 with _ e2
   subst e1 e2
   exact var_names (nx_mem (by rw [hk]; decide)) hk
  ·split at h
   ·obtain ⟨r, j1, ns1, h1, h2⟩ := and_ok h
    obtain ⟨g1, g2⟩ := htm _ _ _ _ _ _ h1
    have e := must_ok h2
    injection e with e1 e2
    injection e2 with _ e2
    subst e1 e2
    exact ⟨g1, g2⟩
   ·split at h
    ·obtain ⟨r, j1, ns1, h1, h2⟩ := and_ok h
     obtain ⟨g1, g2⟩ := listP_ord htm _ _ _ _ _ h1
     injection h2 with e
     injection e with e1 e2
     injection e2 with _ e2
     subst e1 e2
     exact ⟨g1, g2⟩
    ·split at h
     ·split at h
      ·injection h with e
       injection e with e1 e2
       injection e2 with _ e2
       subst e1 e2
       exact ⟨.refl _ _, ord_at _ _⟩
      ·obtain ⟨r, j1, ns1, h1, h2⟩ := and_ok h
       obtain ⟨g1, g2⟩ := htm _ _ _ _ _ _ h1
       have e := must_ok h2
       injection e with e1 e2
       injection e2 with _ e2
       subst e1 e2
       exact ⟨g1, ord_one g2⟩
     ·split at h
      ·exact namedP_ord htm _ _ _ _ _ _ _ h
      ·cases h
theorem infixC_ord {tm : Int → Nat → List ByteArray → PR T} (htm : TmO tk tm) (most : Int) : ∀ (f : Nat) (t : T) (prio : Int) (j : Nat) (ns0 ns : List ByteArray), NmS tk ns0 ns → t.ord ns0.length ns.length → OrdP tk (infixC tk sz tm most f t prio j ns) ns0
 | 0, t, prio, j, ns0, ns, hn, ht => fun t' j' ns' h => by
  injection h with e
  injection e with e1 e2
  injection e2 with _ e2
  subst e1 e2
  exact ⟨hn, ht⟩
 | f + 1, t, prio, j, ns0, ns, hn, ht => fun t' j' ns' h => by
  have fin : (Except.ok (t, j, ns) : PR T) = .ok (t', j', ns') → NmS tk ns0 ns' ∧ t'.ord ns0.length ns'.length := fun h => by
   injection h with e
   injection e with e1 e2
   injection e2 with _ e2
   subst e1 e2
   exact ⟨hn, ht⟩
  unfold infixC at h
  dsimp only at h
  split at h
  ·exact fin h
  ·split at h
   ·exact fin h
   ·split at h
    ·exact fin h
    ·obtain ⟨t2, j1, ns1, h1, h2⟩ := and_ok h
     obtain ⟨g1, g2⟩ := htm _ _ _ _ _ _ h1
     exact infixC_ord htm most f _ _ j1 ns0 ns1 (hn.trans g1) (ord_two ht g2) _ _ _ h2
theorem termP_ord : ∀ (d : Nat), TmO tk (termP tk sz d)
 | 0, _, _, _ => fun _ _ _ h => by cases h
 | d + 1, most, i, ns => fun t j ns' h => by
  unfold termP at h
  obtain ⟨x, j1, ns1, h1, h2⟩ := and_ok h
  obtain ⟨g1, g2⟩ := operandP_ord (termP_ord d) most i ns _ _ _ h1
  exact infixC_ord (termP_ord d) most _ _ _ j1 ns ns1 g1 g2 _ _ _ h2
theorem readC_ord {P : T × List ByteArray → Prop} (hP : ∀ i t j ns, termP tk sz 65 1200 i [] = .ok (t, j, ns) → P (t, ns)) : ∀ (f j : Nat) (l r : List (T × List ByteArray)), (∀ x ∈ l, P x) → readC tk sz f j l = .ok r → ∀ x ∈ r, P x
 | 0, j, l, r, hl, h => by injection h with h; subst h; exact hl
 | f + 1, j, l, r, hl, h => by
  unfold readC at h
  split at h
  ·split at h
   ·cases h
   ·rename_i t j' ns ht
    split at h
    ·exact readC_ord hP f (j' + 1) _ r (fun x hx => (List.mem_append.1 hx).elim (hl x) fun hx => by rw [List.mem_singleton.1 hx]; exact hP _ _ _ _ ht) h
    ·cases h
  ·injection h with h; subst h; exact hl
end
def SenP (l : List Tk) (x : T × List ByteArray) : Prop := x.1.ord 0 x.2.length ∧ onceN x.2 ∧ ∀ y ∈ x.2, ∃ t ∈ l, t.k = 2 ∧ t.t = y
theorem read_sen {s : ByteArray} {r : List (T × List ByteArray)} (h : readN s = .ok r) : ∃ l, lexN s = .ok l ∧ ∀ x ∈ r, SenP l x := by
 unfold readN at h
 cases hl : lexN s with
 | bad p e => rw [hl] at h; cases h
 | ok l =>
  rw [hl] at h
  refine ⟨l, rfl, readC_ord (P := SenP l) (fun i t j ns ht => ?_) _ _ _ _ (fun x hx => by cases hx) h⟩
  obtain ⟨g1, g2⟩ := termP_ord 65 _ _ _ _ _ _ ht
  exact ⟨g2, g1.once (fun i j x _ h => by cases h), fun y hy => (g1.tok y hy).elim (fun h => by cases h) id⟩
end Go.Proofs.YtlogcealmiokkaaGreatDoor
namespace Go.Proofs.YtlogcealmiokkaaGreatDoor
open Go.RowKit
theorem ordR_mono {f : Nat → Nat → Nat → Prop} (hf : ∀ i c d, f i c d → c ≤ d) : ∀ (r j c c' : Nat), ordR f j r c c' → c ≤ c'
 | 0, _, _, _, h => Nat.le_of_eq h.symm
 | r + 1, j, _, c', ⟨d, h1, h2⟩ => Nat.le_trans (hf _ _ _ h1) (ordR_mono hf r (j + 1) d c' h2)
theorem ord_mono : ∀ (t : T) (c c' : Nat), t.ord c c' → c ≤ c' := by
 intro t
 induction t with
 | nil => exact fun _ _ h => h.elim
 | mk k n s m a ih =>
  intro c c' h
  rcases h with ⟨_, i, _, ⟨_, h⟩ | ⟨_, h⟩⟩ | ⟨_, _, h⟩ | ⟨_, h⟩
  ·omega
  ·omega
  ·omega
  ·exact ordR_mono (fun i c d h => ih i c d h) _ _ _ _ h
set_option maxRecDepth 100000 in
set_option maxHeartbeats 8000000 in
theorem top_any : ∀ (t : T) (v : Value) (c c' : Nat) (w : World), TIn w w.heap.size t v → t.ord c c' → c' ≤ 20000 → t.nodes ≤ 20000 →
 Calls Tryz.prog 12 #[v, .int .i64 (c : Int)] w fun e w' => e = .returned (.int .i64 (c' : Int)) ∧ Below w.heap.size w w' := by
 intro t
 induction t with
 | nil => exact fun _ _ _ _ h => h.elim
 | mk k n s m a ih =>
  intro v c c' w hv ho hc' hN
  obtain ⟨A, cc, rfl, ta⟩ := hv.open_
  have HA := Lib.hid ta
  have hcc := ord_mono _ _ _ ho
  have hm5 : m ≤ 20000 := by
   have h1 : m ≤ sumTo m fun i => (a i).nodes := sum_one fun i hi => by
    obtain ⟨b, off, _, _, hx⟩ := ta.cells (by omega)
    obtain ⟨_, _, _, _, _, _, _, _, ht⟩ := hx i hi
    cases h : a i with
    | nil => rw [h] at ht; exact ht.elim
    | mk => simp only [T.nodes]; omega
   simp only [T.nodes] at hN
   omega
  have HLN := Lib.hid (show ∀ i, i < m → (a i).nodes ≤ 20000 from fun i hi => by
   have h1 := sum_has (f := fun i => (a i).nodes) hi
   simp only [T.nodes] at hN
   omega)
  have BX := Lib.hid ((Below.refl w.heap.size w).alloc (Nat.le_refl _) (Obj.cells #[.int .i64 k, .int .i64 n, .string s, .slice A m cc] 31))
  have XB := Lib.hid (heap_alloc_new w (Obj.cells #[.int .i64 k, .int .i64 n, .string s, .slice A m cc] 31))
  have IH := Lib.hid ih
  clear hv ih hN ta
  rcases ho with ⟨rfl, i, rfl, hi⟩ | ⟨hk, rfl, rfl⟩ | ⟨rfl, hr⟩
  ·have h0 : ¬ (i : Int) < 0 := by omega
   have h1 : ¬ (c : Int) < (i : Int) := by omega
   have hmx : max (c : Int) ((i : Int) + 1) = (c' : Int) := by omega
   have hc0 : ¬ (c : Int) < 0 := by omega
   have hi2 : i ≤ 20000 := by omega
   clear hi
   go_enter Tryz.func12, Tryz.ntmps12
   go_wp2_with fail
   refine bodyPost_ret (v := .int .i64 (c' : Int)) (by simp [results, go_sem]) rfl ?_
   exact ⟨rfl, BX.out⟩
  ·have hk1 : (k == 1) = false := by rcases hk with rfl | rfl <;> rfl
   have hc0 : ¬ (c' : Int) < 0 := by omega
   clear hk
   go_enter Tryz.func12, Tryz.ntmps12
   go_wp2_with fail
   go_loopw [1, 5] (fun nv iv wr => nv = .int .i64 (c' : Int) ∧ iv = .int .i64 0 ∧ Below w.heap.size w wr ∧ wr.heap[w.heap.size]? = some (.cells #[.int .i64 k, .int .i64 n, .string s, .slice A 0 cc] 31 (0, 0))) (fun _ _ _ => 0)
   case atStart => exact ⟨rfl, rfl, BX.out, XB.out⟩
   case round =>
    obtain ⟨rfl, rfl, hb, hx⟩ := hrel
    have WB := Lib.hid hb
    obtain ⟨_, _, _, x3⟩ := box4t hx
    clear hb hx BX XB
    go_wp2_with fail
    refine bodyPost_ret (v := .int .i64 (c' : Int)) (by simp [results, go_sem]) rfl ?_
    exact ⟨rfl, WB.out⟩
  ·have hc0 : ¬ (c : Int) < 0 := by omega
   have HR := Lib.hid hr
   clear hr
   go_enter Tryz.func12, Tryz.ntmps12
   go_wp2_with fail
   go_loopw [1, 5] (fun nv iv wr => ∃ (i d : Nat), nv = .int .i64 (d : Int) ∧ iv = .int .i64 (i : Int) ∧ i ≤ m ∧ Hid (ordR (fun i => (a i).ord) i (m - i) d c') ∧ Below w.heap.size w wr ∧ wr.heap[w.heap.size]? = some (.cells #[.int .i64 4, .int .i64 n, .string s, .slice A m cc] 31 (0, 0))) (fun _ iv _ => m - (intOf iv).toNat)
   case atStart => exact ⟨0, c, rfl, rfl, Nat.zero_le _, HR, BX.out, XB.out⟩
   case round =>
    obtain ⟨i, d, rfl, rfl, hi, hor, hb, hx⟩ := hrel
    have WB := Lib.hid hb
    have HX := Lib.hid hx
    obtain ⟨_, _, _, x3⟩ := box4t hx
    have hl := heap_lt hx
    by_cases him : i < m
    ·have him' : (i : Int) < (m : Int) := by omega
     obtain ⟨g, o, rfl, hg, hargs⟩ := HA.out.cells (by omega)
     obtain ⟨u0, u1, u2, u3, d0, d1, d2, d3, hta⟩ := hargs i him
     rw [Nat.mul_comm 4 i] at d0 d1 d2 d3
     have y0 := (hb.cell (p := ⟨g, _, none⟩) hg).trans d0
     have y1 := (hb.cell (p := ⟨g, _, none⟩) hg).trans d1
     have y2 := (hb.cell (p := ⟨g, _, none⟩) hg).trans d2
     have y3 := (hb.cell (p := ⟨g, _, none⟩) hg).trans d3
     have hgl : g < wr.heap.size := Nat.lt_of_lt_of_le hg hb.size
     have hor := hor.out
     rw [show m - i = (m - (i + 1)) + 1 by omega] at hor
     obtain ⟨d', h1, h2⟩ := hor
     have hdd := ordR_mono (fun i c d h => ord_mono _ c d h) _ _ _ _ h2
     have H2 := Lib.hid h2
     have CI := Lib.hid (IH.out i _ d d' wr ((hta.below hb).more hb.size) h1 (by omega) (HLN.out i him))
     clear hargs d0 d1 d2 d3 hta hor h1 h2 hb hx
     go_wp2_with fail
     refine CI.out.mono ?_
     rintro e w5 ⟨rfl, h5⟩
     have B5 := Lib.hid (WB.out.trans (h5.mono WB.out.size))
     have X5 := Lib.hid ((h5.block _ hl).trans HX.out)
     clear h5 x3 y0 y1 y2 y3
     go_wp2_with fail
     go_roundw
     case rel => exact ⟨i + 1, d', rfl, by go_num, him, H2, B5.out, X5.out⟩
     case measure => simp [intOf]; omega
    ·obtain rfl : i = m := by omega
     have hdc : c' = d := by have := hor.out; rw [Nat.sub_self] at this; exact this
     subst hdc
     clear hb hx hor
     go_wp2_with fail
     refine bodyPost_ret (v := .int .i64 (c' : Int)) (by simp [results, go_sem]) rfl ?_
     exact ⟨rfl, WB.out⟩
set_option maxRecDepth 100000 in
set_option maxHeartbeats 8000000 in
theorem readnames_any (s : ByteArray) (w : World) (h : Bs w) : Calls Tryz.prog 4 #[.string s] w fun e w' => e = .returned (.bool true) ∧ Below w.heap.size w w' := by
 have HB := Lib.hid h
 by_cases hbig : (4096 : Int) < (s.size : Int)
 ·go_enter Tryz.func4, Tryz.ntmps4
  go_wp2_with fail
  go_ret
  exact ⟨rfl, Below.refl _ _⟩
 have C1 := Lib.hid (HB.out.read s)
 have C2 := Lib.hid (fun W => readx_any s W)
 clear h
 cases hr : readN s with
 | error pe =>
  obtain ⟨pp, ee⟩ := pe
  have HR := Lib.hid hr
  clear hr
  go_enter Tryz.func4, Tryz.ntmps4
  go_wp2_with fail
  refine C1.out.mono ?_
  rintro e w1 ⟨⟨v, p, er, rfl, hq⟩, hb1⟩
  unfold ReadPQ at hq
  rw [HR.out] at hq
  obtain ⟨rfl, rfl, rfl, hne⟩ := hq
  have B1 := Lib.hid hb1
  have HNE := Lib.hid hne
  clear hb1 hne C1
  go_wp2_with fail
  refine (C2.out _).mono ?_
  rintro e w2 ⟨⟨v2, p2, er2, rfl, hq⟩, hb2⟩
  unfold ReadQ at hq
  rw [HR.out] at hq
  obtain ⟨rfl, rfl, _, rfl⟩ := hq
  have B2 := Lib.hid (B1.out.trans (hb2.mono B1.out.size))
  have hee : (er2 != er2) = false := by simp
  clear hb2 C2
  go_wp2_with fail
  go_loopw [9] (fun iv wr => iv = .int .i64 0 ∧ Below w.heap.size w wr) (fun _ _ => 0)
  case atStart => exact ⟨rfl, B2.out⟩
  case round =>
   obtain ⟨rfl, hb⟩ := hrel
   have WB := Lib.hid hb
   clear hb
   go_wp2_with fail
   go_ret
   exact ⟨rfl, WB.out⟩
 | ok ss =>
  obtain ⟨ll, _, hsen⟩ := read_sen hr
  have HSEN := Lib.hid hsen
  have HR := Lib.hid hr
  clear hr hsen
  go_enter Tryz.func4, Tryz.ntmps4
  go_wp2_with fail
  refine C1.out.mono ?_
  rintro e w1 ⟨⟨v, p, er, rfl, hq⟩, hb1⟩
  unfold ReadPQ at hq
  rw [HR.out] at hq
  obtain ⟨rfl, rfl, xs, hown, hsr, hl1000⟩ := hq
  obtain ⟨A, cp, rfl, _, _, _, hx⟩ := own_open hown
  have HX := Lib.hid hx
  have SR := Lib.hid hsr
  have B1 := Lib.hid hb1
  clear hb1 C1 hown hsr hx
  go_wp2_with fail
  refine (C2.out _).mono ?_
  rintro e w2 ⟨⟨v2, p2, er2, rfl, hq⟩, hb2⟩
  unfold ReadQ at hq
  rw [HR.out] at hq
  obtain ⟨rfl, rfl, _⟩ := hq
  have K2 := Lib.hid hb2
  have hw1 := B1.out.size
  clear hb2 C2
  go_wp2_with fail
  go_loopw [9] (fun iv wr => ∃ i : Nat, iv = .int .i64 (i : Int) ∧ i ≤ ss.length ∧ Below w1.heap.size w1 wr) (fun iv _ => ss.length - (intOf iv).toNat)
  case atStart => exact ⟨0, rfl, Nat.zero_le _, K2.out⟩
  case round =>
   obtain ⟨i, rfl, hi, hb⟩ := hrel
   have KB := Lib.hid hb
   clear K2
   by_cases him : i < ss.length
   ·have him' : (i : Int) < (ss.length : Int) := by omega
    obtain ⟨g, cur, rfl, _, hh, hcur⟩ := HX.out (by omega)
    obtain ⟨x, hx⟩ : ∃ x, ss[i]? = some x := ⟨_, List.getElem?_eq_getElem him⟩
    obtain ⟨ho, honce, _⟩ := HSEN.out x (List.mem_of_getElem? hx)
    obtain ⟨k0, k1, k2, A2, m2, c2, NA, nc, q0, q1, q2, q3, q4, ht, _, hnd, hnl, hnm⟩ := SR.out i x hx
    have hgl := heap_lt hh
    have hat : ∀ j, j < 5 → wr.cell? ⟨g, i * 5 + j, none⟩ = xs[5 * i + j]? := fun j hj => by
     rw [Nat.mul_comm i 5]
     exact (hb.cell (p := ⟨g, 5 * i + j, none⟩) hgl).trans ((cell_of_row _ _ _ _ _ _ hh).trans (hcur _ (by omega)))
    have z0 : wr.cell? ⟨g, i * 5, none⟩ = _ := (hat 0 (by omega)).trans q0
    have z1 := (hat 1 (by omega)).trans q1
    have z2 := (hat 2 (by omega)).trans q2
    have z3 := (hat 3 (by omega)).trans q3
    have z4 := (hat 4 (by omega)).trans q4
    have hgw : g < wr.heap.size := Nat.lt_of_lt_of_le hgl hb.size
    have CT := Lib.hid (top_any x.1 _ 0 x.2.length wr (ht.at_ hb) ho (by omega) (by omega))
    have HON := Lib.hid honce
    obtain ⟨NA', nc', e, hncc, hNA, _, hnx⟩ := own_open hnm
    injection e with e1 _ e2
    subst e1 e2
    have HNX := Lib.hid hnx
    have Z4 := Lib.hid z4
    clear hat q0 q1 q2 q3 q4 ht hnm hnx hcur hb ho honce
    have hz : ((0 : Nat) : Int) = 0 := rfl
    go_wp2_with fail
    refine CT.out.mono ?_
    rintro e w3 ⟨rfl, hb3⟩
    have K3 := Lib.hid (KB.out.trans (hb3.mono KB.out.size))
    have z43 := (hb3.cell (p := ⟨g, i * 5 + 4, none⟩) hgw).trans Z4.out
    have Z43 := Lib.hid z43
    clear z0 z1 z2 z3 z4 hb3 CT
    go_wp2_with fail
    go_loopw [11] (fun kv wr => ∃ k : Nat, kv = .int .i64 (k : Int) ∧ k ≤ x.2.length ∧ Below w3.heap.size w3 wr) (fun kv _ => x.2.length - (intOf kv).toNat)
    case atStart => exact ⟨0, rfl, Nat.zero_le _, Below.refl _ _⟩
    case round =>
     obtain ⟨k, rfl, hk, hb⟩ := hrel
     have KC := Lib.hid hb
     have z4 := (hb.cell (p := ⟨g, i * 5 + 4, none⟩) (Nat.lt_of_lt_of_le hgl K3.out.size)).trans Z43.out
     have Z4k := Lib.hid z4
     clear hb z43
     by_cases hkm : k < x.2.length
     ·have hkm' : (k : Int) < (x.2.length : Int) := by omega
      obtain ⟨gn, curn, rfl, _, hhn, hcn⟩ := HNX.out (by omega)
      have HHN := Lib.hid hhn
      have HCN := Lib.hid hcn
      have hgn := heap_lt hhn
      clear hhn hcn
      go_wp2_with fail
      go_loopw [12] (fun jv wr => ∃ j : Nat, jv = .int .i64 (j : Int) ∧ j ≤ k ∧ Below w3.heap.size w3 wr) (fun jv _ => k - (intOf jv).toNat)
      case atStart => exact ⟨0, rfl, Nat.zero_le _, KC.out⟩
      case round =>
       obtain ⟨j, rfl, hj, hb⟩ := hrel
       have KD := Lib.hid hb
       have K1 := Lib.hid (K3.out.trans (hb.mono K3.out.size))
       have z4 := (hb.cell (p := ⟨g, i * 5 + 4, none⟩) (Nat.lt_of_lt_of_le hgl K3.out.size)).trans Z43.out
       clear hb
       by_cases hjk : j < k
       ·have hjk' : (j : Int) < (k : Int) := by omega
        obtain ⟨y, hy⟩ : ∃ y, x.2[j]? = some y := ⟨_, List.getElem?_eq_getElem (by omega)⟩
        obtain ⟨z, hz'⟩ : ∃ z, x.2[k]? = some z := ⟨_, List.getElem?_eq_getElem hkm⟩
        have zy : wr.cell? ⟨gn, j, none⟩ = some (.string y) := (K1.out.cell (p := ⟨gn, j, none⟩) hgn).trans ((cell_of_row _ _ _ _ _ _ HHN.out).trans ((HCN.out j (by omega)).trans (by rw [List.getElem?_map, hy]; rfl)))
        have zz : wr.cell? ⟨gn, k, none⟩ = some (.string z) := (K1.out.cell (p := ⟨gn, k, none⟩) hgn).trans ((cell_of_row _ _ _ _ _ _ HHN.out).trans ((HCN.out k (by omega)).trans (by rw [List.getElem?_map, hz']; rfl)))
        have hgl1 : g < wr.heap.size := Nat.lt_of_lt_of_le hgl K1.out.size
        have hgl2 : gn < wr.heap.size := Nat.lt_of_lt_of_le hgn K1.out.size
        by_cases hyz : y = z
        ·subst hyz
         have hus := HON.out j k y hjk hy hz'
         obtain rfl : y = ⟨#[95]⟩ := hus
         clear hy hz'
         go_wp2_with fail
         go_region
         all_goals
          go_wp2_with fail
          go_roundw
          case rel => exact ⟨j + 1, by go_num, hjk, KD.out.drew⟩
          case measure => simp [intOf]; omega
        ·have hyz1 : (y.toList == z.toList) = false := beq_eq_false_iff_ne.2 fun e => hyz (by apply ByteArray.ext; apply Array.ext'; rw [← ByteArray.toList_eq, ← ByteArray.toList_eq] <;> exact e)
         clear hy hz'
         go_wp2_with fail
         go_region
         all_goals
          go_wp2_with fail
          go_roundw
          case rel => exact ⟨j + 1, by go_num, hjk, KD.out.drew⟩
          case measure => simp [intOf]; omega
       ·obtain rfl : j = k := by omega
        go_wp2_with fail
        go_roundw
        case rel => exact ⟨j + 1, by go_num, hkm, KD.out⟩
        case measure => simp [intOf]; omega
     ·obtain rfl : k = x.2.length := by omega
      have KE := Lib.hid (K3.out.trans (KC.out.mono K3.out.size))
      go_wp2_with fail
      go_roundw
      case rel => exact ⟨i + 1, by go_num, him, KE.out⟩
      case measure => simp [intOf]; omega
   ·obtain rfl : i = ss.length := by omega
    go_wp2_with fail
    go_ret
    exact ⟨rfl, B1.out.trans (KB.out.mono hw1)⟩
end Go.Proofs.YtlogcealmiokkaaGreatDoor
