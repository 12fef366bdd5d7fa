/- What WriteNames asks, plain: a term that was read, written by its names, is read back with the same names and the same numbers. -/
import Derived.Test.YtiefbdblefliaaaDoorOr0
import Derived.Test.YtiefbdblefliaaaDoorWt5
namespace Go.Proofs.YtiefbdblefliaaaDoor
open Go.RowKit

theorem oneN_var {s : ByteArray} {f : Nat} {l : List Tk} {x : Tk} (h : oneN s f l = .ok x) (hf : f < s.size) (hk : x.k = 2) : varTok x.t.data.toList := by
  unfold oneN at h
  cases hh : headN s f l.getLast? with
  | none => rw [hh] at h; cases h
  | some q =>
    obtain ⟨K, j⟩ := q
    rw [hh] at h
    dsimp only at h
    have hK : K = 2 → greatB (bn s f) = true ∧ j = runN 1 s f := by
      intro hK
      subst hK
      unfold headN at hh
      split at hh
      · injection hh with hh; injection hh with h1 h2; exact absurd h1 (by decide)
      · split at hh
        · injection hh with hh; injection hh with h1 h2; exact absurd h1 (by decide)
        · split at hh
          · rename_i hg
            injection hh with hh; injection hh with h1 h2
            exact ⟨hg, h2.symm⟩
          · split at hh
            · injection hh with hh; injection hh with h1 h2; exact absurd h1 (by decide)
            · split at hh
              · injection hh with hh; injection hh with h1 h2; exact absurd h1 (by decide)
              · split at hh
                · injection hh with hh; injection hh with h1 h2; exact absurd h1 (by decide)
                · split at hh
                  · injection hh with hh; injection hh with h1 h2; exact absurd h1 (by decide)
                  · split at hh
                    · injection hh with hh; injection hh with h1 h2
                      split at h1 <;> exact absurd h1 (by decide)
                    · cases hh
    split at h
    · cases h
    · split at h
      · rename_i h39
        split at h
        · injection h with h
          subst h
          obtain ⟨hg, _⟩ := hK hk
          have := (great_facts hg).2.2.1
          rw [this] at h39
          cases h39
        · cases h
      · injection h with h
        subst h
        obtain ⟨hg, rfl⟩ := hK hk
        have hk1 : kindB 1 (bn s f) = true := by unfold kindB namedB; rw [hg]; simp
        have hgt := runN_gt hf hk1
        have hle := runN_le (k := 1) (Nat.le_of_lt hf)
        have hall : ∀ i, f ≤ i → i < runN 1 s f → kindB 1 (bn s i) = true := fun i h1 h2 => runF_all _ 1 s f i h1 h2
        have hlen : (s.extract f (runN 1 s f)).data.toList = (s.data.toList.drop f).take (runN 1 s f - f) := by
          simp only [ByteArray.data_extract, Array.toList_extract, List.extract]
        have hsz := len_u s
        have hat : ∀ n, n < runN 1 s f - f → ((s.data.toList.drop f).take (runN 1 s f - f))[n]? = some (bu s (f + n)) := fun n hn => by
          rw [List.getElem?_take, if_pos hn, List.getElem?_drop]
          unfold bu
          rw [List.getD_eq_getElem?_getD, List.getElem?_eq_getElem (by omega)]
          rfl
        show varTok (s.extract f (runN 1 s f)).data.toList
        rw [hlen]
        have h0 := hat 0 (by omega)
        cases hL : (s.data.toList.drop f).take (runN 1 s f - f) with
        | nil => rw [hL] at h0; cases h0
        | cons c r =>
          rw [hL] at h0
          refine ⟨c, r, rfl, ?_, fun d hd => ?_⟩
          · have e : c = bu s f := by simpa using h0
            rw [e]
            exact hg
          · rw [← hL] at hd
            obtain ⟨n, hn⟩ := List.mem_iff_getElem?.1 hd
            have hn2 : n < runN 1 s f - f := by
              have := (List.getElem?_eq_some_iff.1 hn).1
              simp at this
              omega
            rw [hat n hn2] at hn
            injection hn with hn
            rw [← hn]
            exact hall _ (by omega) (by omega)
theorem lexN_vars {s : ByteArray} {r : List Tk} (h : lexN s = .ok r) : ∀ x ∈ r, x.k = 2 → varTok x.t.data.toList := by
  unfold lexN at h
  split at h
  · cases h
  · obtain ⟨_, hP, _⟩ := toks_ind (s := s) (fun _ l => ∀ x ∈ l, x.k = 2 → varTok x.t.data.toList) (fun k l f x _ hl _ hf ho y hy => by
      rcases List.mem_append.1 hy with hy | hy
      · exact hl y hy
      · rw [List.mem_singleton.1 hy]
        exact oneN_var ho hf) (s.size - 0) 0 [] r (Nat.le_refl _) (fun x hx => by cases hx) h
    exact hP
/-- The names of a sentence are good ones. -/
theorem sent_names {s : ByteArray} {t : T} {ns : List ByteArray} (h : sentN s = .ok (t, ns)) : t.ord 0 ns.length ∧ onceN ns ∧ ∀ x ∈ ns, varTok x.data.toList ∧ x.size ≤ 4096 := by
  obtain ⟨u, hu⟩ := sent_read h
  obtain ⟨l, hl, hP⟩ := read_sen hu
  obtain ⟨h1, h2, h3⟩ := hP (t, ns) (by simp)
  refine ⟨h1, h2, fun x hx => ?_⟩
  obtain ⟨y, hy, hk, rfl⟩ := h3 x hx
  refine ⟨lexN_vars hl y hy hk, ?_⟩
  obtain ⟨_, hsz, hok⟩ := lexN_ok hl
  have := (hok y hy).2.2.1
  omega
def idP (c : Nat) : Prs := (List.range c).map fun (i : Nat) => ((i : Int), (i : Int))
theorem idP_at (c j : Nat) : (idP c)[j]? = if j < c then some ((j : Int), (j : Int)) else none := by
  unfold idP
  rw [List.getElem?_map]
  by_cases h : j < c
  · rw [if_pos h, List.getElem?_range h]; rfl
  · rw [if_neg h, List.getElem?_eq_none (by simp; omega)]; rfl
theorem idP_snoc (c : Nat) : idP (c + 1) = idP c ++ [((c : Int), (c : Int))] := by
  unfold idP
  rw [List.range_succ, List.map_append]
  rfl
theorem ordR_fun {f : Nat → Nat → Nat → Prop} : ∀ (r j c c' : Nat), ordR f j r c c' → ∃ C : Nat → Nat, C 0 = c ∧ C r = c' ∧ ∀ i, i < r → f (j + i) (C i) (C (i + 1))
  | 0, j, c, c', h => ⟨fun _ => c, rfl, h.symm, fun i hi => absurd hi (by omega)⟩
  | r + 1, j, c, c', h => by
    obtain ⟨d, h1, h2⟩ := h
    obtain ⟨C, g1, g2, g3⟩ := ordR_fun r (j + 1) d c' h2
    refine ⟨fun i => match i with | 0 => c | i + 1 => C i, rfl, g2, fun i hi => ?_⟩
    cases i with
    | zero => dsimp only; rw [g1]; exact h1
    | succ i =>
      have := g3 i (by omega)
      rw [show j + 1 + i = j + (i + 1) by omega] at this
      exact this
theorem ord_le : ∀ {t : T} {c c' : Nat}, t.ord c c' → c ≤ c' := by
  intro t
  induction t with
  | nil => exact fun h => h.elim
  | mk k n s m a ih =>
    intro c c' h
    rcases h with ⟨_, i, _, h | h⟩ | ⟨_, _, h⟩ | ⟨_, h⟩
    · omega
    · omega
    · omega
    · obtain ⟨C, h1, h2, h3⟩ := ordR_fun _ _ _ _ h
      have key : ∀ i, i ≤ m → C 0 ≤ C i := by
        intro i
        induction i with
        | zero => exact fun _ => Nat.le_refl _
        | succ i ihi =>
          intro hi
          have g1 := ihi (by omega)
          have g2 := h3 i (by omega)
          rw [Nat.zero_add] at g2
          have := ih i g2
          omega
      have := key m (Nat.le_refl _)
      omega
theorem ba_back (s : ByteArray) : ba s.data.toList = s := by
  obtain ⟨l⟩ := s
  simp [ba]
theorem varI_first {x : ByteArray} (hx : x ≠ ⟨#[95]⟩) : ∀ (ns : List ByteArray) (k i : Nat), ns[i]? = some x → (∀ j, j < i → ns[j]? ≠ some x) → varI x ns k = some (k + i)
  | [], _, _, h, _ => by cases h
  | y :: ns, k, 0, h, _ => by
    have e : y = x := by simpa using h
    unfold varI
    rw [if_pos ⟨e, hx⟩]
    rfl
  | y :: ns, k, i + 1, h, hj => by
    have h0 := hj 0 (by omega)
    unfold varI
    rw [if_neg (fun e => h0 (by simp [e.1]))]
    rw [varI_first hx ns (k + 1) i (by simpa using h) fun j hji => by
      have := hj (j + 1) (by omega)
      simpa using this]
    congr 1
    omega
theorem varI_no {x : ByteArray} : ∀ (ns : List ByteArray) (k : Nat), x ∉ ns → varI x ns k = none
  | [], _, _ => rfl
  | y :: ns, k, h => by
    unfold varI
    rw [if_neg (fun e => h (by simp [e.1]))]
    exact varI_no ns (k + 1) fun hm => h (List.mem_cons_of_mem _ hm)
theorem alk_id {ns : List ByteArray} (hon : onceN ns) (hus : usS ∉ ns) (hne : ∀ x ∈ ns, x.size ≠ 0) : ∀ t : T, t.wr → ∀ (c c' : Nat), t.ord c c' → c' ≤ ns.length →
    (rnT (nmV ns) t (ns.take c)).2 = ns.take c' ∧ Alk t (rnT (nmV ns) t (ns.take c)).1 (idP c) (idP c') := by
  intro t
  induction t with
  | nil => exact fun h => h.elim
  | mk k n s m a ih =>
    intro hw c c' ho hc
    rcases wr_cases hw with rfl | rfl | rfl | rfl
    · rw [rn_var]
      rcases ho with ⟨_, i, rfl, ho⟩ | ⟨h, _⟩ | ⟨h, _⟩
      · have hi : i < ns.length := by omega
        have hx : ns[i]? = some ns[i] := List.getElem?_eq_getElem hi
        obtain ⟨x, hxx⟩ : ∃ x, ns[i] = x := ⟨_, rfl⟩
        rw [hxx] at hx
        have hmem : x ∈ ns := List.mem_of_getElem? hx
        have hxu : x ≠ usS := fun e => hus (e ▸ hmem)
        have hV : ba (nmV ns (i : Int)) = x := by
          unfold nmV
          rw [Int.toNat_natCast, hx]
          dsimp only
          rw [if_neg (fun h => h.elim (hne x hmem) hxu), ba_back]
        have hfirst : ∀ j, j < i → ns[j]? ≠ some x := fun j hj e => hxu (hon j i x hj e hx)
        rw [hV]
        rcases ho with ⟨hic, rfl⟩ | ⟨rfl, rfl⟩
        · have hv : varI x (ns.take c') 0 = some i := by
            have := varI_first hxu (ns.take c') 0 i (by rw [List.getElem?_take, if_pos hic]; exact hx) fun j hj e => by
              rw [List.getElem?_take, if_pos (by omega)] at e
              exact hfirst j hj e
            rw [this, Nat.zero_add]
          have e : varN x (ns.take c') = (i, ns.take c') := by unfold varN; rw [hv]
          rw [e]
          refine ⟨rfl, rfl, .inl ⟨rfl, .inl ⟨i, by rw [idP_at, if_pos hic], fun j y hj hy => ?_, rfl⟩⟩⟩
          rw [idP_at] at hy
          split at hy
          · injection hy with hy
            subst hy
            exact ⟨by show (j : Int) ≠ (i : Int); omega, by show (j : Int) ≠ (i : Int); omega⟩
          · cases hy
        · have hv : varI x (ns.take i) 0 = none := varI_no _ _ fun hm => by
            obtain ⟨j, hj⟩ := List.mem_iff_getElem?.1 hm
            rw [List.getElem?_take] at hj
            split at hj
            · exact hfirst j (by assumption) hj
            · cases hj
          have e : varN x (ns.take i) = ((ns.take i).length, ns.take i ++ [x]) := by unfold varN; rw [hv]
          have hl : (ns.take i).length = i := by rw [List.length_take]; omega
          rw [e, hl]
          refine ⟨?_, rfl, .inl ⟨rfl, .inr ⟨fun j y hy => ?_, idP_snoc i⟩⟩⟩
          · dsimp only
            rw [List.take_add_one, hx]
            rfl
          · rw [idP_at] at hy
            split at hy
            · injection hy with hy
              subst hy
              exact ⟨by show (j : Int) ≠ (i : Int); omega, by show (j : Int) ≠ (i : Int); omega⟩
            · cases hy
      · exact absurd h (by decide)
      · exact absurd h (by decide)
    · rw [rn_int]
      rcases ho with ⟨h, _⟩ | ⟨_, _, rfl⟩ | ⟨h, _⟩
      · exact absurd h (by decide)
      · exact ⟨rfl, rfl, .inr (.inl ⟨rfl, rfl, rfl⟩)⟩
      · exact absurd h (by decide)
    · rw [rn_atom]
      rcases ho with ⟨h, _⟩ | ⟨_, _, rfl⟩ | ⟨h, _⟩
      · exact absurd h (by decide)
      · exact ⟨rfl, rfl, .inr (.inr (.inl ⟨rfl, rfl, rfl⟩))⟩
      · exact absurd h (by decide)
    · obtain ⟨_, hm, hwa⟩ := wr_cmp hw
      rcases ho with ⟨h, _⟩ | ⟨h, _⟩ | ⟨_, ho⟩
      · exact absurd h (by decide)
      · exact absurd h (by decide)
      · obtain ⟨C, h1, h2, h3⟩ := ordR_fun _ _ _ _ ho
        have h3 : ∀ i, i < m → (a i).ord (C i) (C (i + 1)) := fun i hi => by
          have := h3 i hi
          rw [Nat.zero_add] at this
          exact this
        have up : ∀ r i, i + r ≤ m → C i ≤ C (i + r) := by
          intro r
          induction r with
          | zero => exact fun i _ => Nat.le_refl _
          | succ r ihr =>
            intro i hi
            have g1 := ihr i (by omega)
            have g2 := ord_le (h3 (i + r) (by omega))
            rw [show i + (r + 1) = i + r + 1 by omega]
            omega
        have top : ∀ i, i ≤ m → C i ≤ ns.length := fun i hi => by
          have := up (m - i) i (by omega)
          rw [show i + (m - i) = m by omega] at this
          omega
        obtain ⟨b, e1, e2, e3⟩ := rn_args (nmV ns) (n := n) (s := s) (a := a) hm (ns.take c)
        have st : ∀ r, r ≤ m → stN (fun i => rnT (nmV ns) (a i)) 0 (ns.take c) r = ns.take (C r) := by
          intro r
          induction r with
          | zero => intro _; rw [h1]; rfl
          | succ r ihr =>
            intro hr
            rw [stN, Nat.zero_add, ihr (by omega)]
            exact (ih r (hwa r (by omega)) (C r) (C (r + 1)) (h3 r (by omega)) (top (r + 1) hr)).1
        refine ⟨by rw [e3, st m (Nat.le_refl _), h2], ?_⟩
        rw [e1]
        refine ⟨rfl, .inr (.inr (.inr ⟨rfl, rfl, rfl, fun i => idP (C i), by dsimp only; rw [h1], by dsimp only; rw [h2], fun i hi => ?_⟩))⟩
        rw [e2 i hi, st i (by omega)]
        exact (ih i (hwa i hi) (C i) (C (i + 1)) (h3 i hi) (top (i + 1) hi)).2
theorem nmV_ok {ns : List ByteArray} (h : ∀ x ∈ ns, varTok x.data.toList) : VarOk (nmV ns) := fun n hn => by
  unfold nmV
  cases hx : ns[n.toNat]? with
  | none => exact var_plain n hn
  | some s =>
    dsimp only
    split
    · exact var_plain n hn
    · exact h s (List.mem_of_getElem? hx)
theorem varTok_ne {s : ByteArray} (h : varTok s.data.toList) : s.size ≠ 0 := by
  obtain ⟨c, r, e, _⟩ := h
  intro h0
  have := len_u s
  rw [e, h0] at this
  cases this
theorem names_back {s s0 : ByteArray} {t : T} {ns : List ByteArray} (h : sentN s = .ok (t, ns)) (hw : t.wr) (hus : usS ∉ ns) (h0 : s0 = ba (txB (nmV ns) t).1) :
    (∃ p e, sentN s0 = .error (p, e) ∧ (e = 33 ∨ e = 34 ∨ e = 52)) ∨ ∃ u, sentN s0 = .ok (u, ns) ∧ Alk t u [] (idP ns.length) := by
  obtain ⟨h1, h2, h3⟩ := sent_names h
  rcases sent_back (X := False) (nmV_ok fun x hx => (h3 x hx).1) hw h0 (fun h => h.elim) with h | ⟨p, e, h, he⟩
  · obtain ⟨g1, g2⟩ := alk_id h2 hus (fun x hx => varTok_ne (h3 x hx).1) t hw 0 ns.length h1 (Nat.le_refl _)
    rw [List.take_zero] at g1 g2
    rw [List.take_length] at g1
    refine .inr ⟨(rnT (nmV ns) t []).1, by rw [h]; exact congrArg Except.ok (Prod.ext rfl g1), ?_⟩
    exact g2
  · exact .inl ⟨p, e, h, he.imp (·.1) fun h => h.imp (·.1) (·.1)⟩
end Go.Proofs.YtiefbdblefliaaaDoor
