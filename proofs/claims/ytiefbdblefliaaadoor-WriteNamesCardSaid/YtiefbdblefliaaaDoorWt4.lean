/- Alike: a term and the one that it is read back as; plain. -/
import Derived.Test.YtiefbdblefliaaaDoorWt3
import Derived.Test.YtiefbdblefliaaaDoorWrr
namespace Go.Proofs.YtiefbdblefliaaaDoor
open Go.RowKit

abbrev Prs := List (Int × Int)
/-- Two terms are the same but for the numbers of variables, which pair them one to one: the pairs so far, and behind. -/
def Alk : T → T → Prs → Prs → Prop
  | .mk k n s m a, .mk k' n' s' m' b, ps, qs => k = k' ∧ (
      (k = 1 ∧ ((∃ i : Nat, ps[i]? = some (n, n') ∧ (∀ (j : Nat) (x : Int × Int), j < i → ps[j]? = some x → x.1 ≠ n ∧ x.2 ≠ n') ∧ qs = ps) ∨ ((∀ (j : Nat) (x : Int × Int), ps[j]? = some x → x.1 ≠ n ∧ x.2 ≠ n') ∧ qs = ps ++ [(n, n')]))) ∨
      (k = 2 ∧ n = n' ∧ qs = ps) ∨ (k = 3 ∧ s = s' ∧ qs = ps) ∨
      (k = 4 ∧ s = s' ∧ m = m' ∧ ∃ c : Nat → Prs, c 0 = ps ∧ c m = qs ∧ ∀ i, i < m → Alk (a i) (b i) (c i) (c (i + 1))))
  | _, _, _, _ => False
section
variable (V : Int → List UInt8)
def nmL (l : List Int) : List ByteArray := l.map fun n => ba (V n)
def prL (l : List Int) : Prs := l.zipIdx.map fun x => (x.1, (x.2 : Int))
end
theorem prL_at (l : List Int) (j : Nat) : (prL l)[j]? = (l[j]?).map fun n => (n, (j : Int)) := by
  unfold prL
  rw [List.getElem?_map, List.getElem?_zipIdx]
  cases l[j]? <;> simp
theorem prL_snoc (l : List Int) (n : Int) : prL (l ++ [n]) = prL l ++ [(n, (l.length : Int))] := by
  unfold prL
  rw [List.zipIdx_append]
  simp
theorem varI_some {x : ByteArray} (hx : x ≠ ⟨#[95]⟩) : ∀ (ns : List ByteArray) (i r : Nat), varI x ns i = some r → i ≤ r ∧ ns[r - i]? = some x ∧ ∀ j, j < r - i → ns[j]? ≠ some x
  | [], _, _, h => by cases h
  | y :: ns, i, r, h => by
    unfold varI at h
    split at h
    · rename_i h1
      injection h with h
      subst h
      refine ⟨Nat.le_refl _, by simp [h1.1], fun j hj => by omega⟩
    · rename_i h1
      obtain ⟨h2, h3, h4⟩ := varI_some hx ns (i + 1) r h
      obtain ⟨d, hd⟩ : ∃ d, r - i = d + 1 := ⟨r - i - 1, by omega⟩
      have hd2 : r - (i + 1) = d := by omega
      rw [hd2] at h3 h4
      rw [hd]
      refine ⟨by omega, by simpa using h3, fun j hj e => ?_⟩
      cases j with
      | zero =>
        simp at e
        exact h1 ⟨e, hx⟩
      | succ j => exact h4 j (by omega) (by simpa using e)
theorem varI_none {x : ByteArray} (hx : x ≠ ⟨#[95]⟩) : ∀ (ns : List ByteArray) (i : Nat), varI x ns i = none → x ∉ ns
  | [], _, _ => by simp
  | y :: ns, i, h => by
    unfold varI at h
    split at h
    · cases h
    · rename_i h1
      intro hm
      rcases List.mem_cons.1 hm with rfl | hm
      · exact h1 ⟨rfl, hx⟩
      · exact varI_none hx ns (i + 1) h hm
/-- The names behind some arguments. -/
def stN (f : Nat → List ByteArray → T × List ByteArray) (j : Nat) (ns : List ByteArray) : Nat → List ByteArray
  | 0 => ns
  | k + 1 => (f (j + k) (stN f j ns k)).2
theorem stN_head (f : Nat → List ByteArray → T × List ByteArray) (j : Nat) (ns : List ByteArray) : ∀ k, stN f (j + 1) (f j ns).2 k = stN f j ns (k + 1)
  | 0 => rfl
  | k + 1 => by
    show (f (j + 1 + k) (stN f (j + 1) (f j ns).2 k)).2 = (f (j + (k + 1)) (stN f j ns (k + 1))).2
    rw [stN_head f j ns k, show j + 1 + k = j + (k + 1) by omega]
theorem rnRow_at (f : Nat → List ByteArray → T × List ByteArray) : ∀ (r j : Nat) (ns : List ByteArray), (rnRow f j r ns).1.length = r ∧ (∀ k, k < r → (rnRow f j r ns).1[k]? = some (f (j + k) (stN f j ns k)).1) ∧ (rnRow f j r ns).2 = stN f j ns r
  | 0, _, _ => ⟨rfl, fun k h => absurd h (by omega), rfl⟩
  | r + 1, j, ns => by
    obtain ⟨h1, h2, h3⟩ := rnRow_at f r (j + 1) (f j ns).2
    refine ⟨by simp only [rnRow, List.length_cons, h1], fun k hk => ?_, ?_⟩
    · cases k with
      | zero => rfl
      | succ k =>
        simp only [rnRow, List.getElem?_cons_succ]
        rw [h2 k (by omega), stN_head]
        rw [show j + 1 + k = j + (k + 1) by omega]
    · simp only [rnRow]
      rw [h3, stN_head]
theorem rn_args (V : Int → List UInt8) {n : Int} {s : ByteArray} {m : Nat} {a : Nat → T} (hm : 0 < m) (ns : List ByteArray) :
    ∃ b : Nat → T, (rnT V (.mk 4 n s m a) ns).1 = .mk 4 0 s m b ∧ (∀ i, i < m → b i = (rnT V (a i) (stN (fun i => rnT V (a i)) 0 ns i)).1) ∧ (rnT V (.mk 4 n s m a) ns).2 = stN (fun i => rnT V (a i)) 0 ns m := by
  by_cases hp : s = dotS ∧ m = 2
  · obtain ⟨rfl, rfl⟩ := hp
    rw [rn_pair]
    refine ⟨_, rfl, fun i hi => ?_, rfl⟩
    rcases i with _ | _ | i
    · rfl
    · rfl
    · omega
  · rw [rn_cmp _ hp]
    obtain ⟨h1, h2, h3⟩ := rnRow_at (fun i => rnT V (a i)) (m - 1) 1 (rnT V (a 0) ns).2
    obtain ⟨q, rfl⟩ : ∃ q, m = q + 1 := ⟨m - 1, by omega⟩
    simp only [Nat.add_sub_cancel] at h1 h2 h3 ⊢
    have hd : ∀ k, stN (fun i => rnT V (a i)) 1 (rnT V (a 0) ns).2 k = stN (fun i => rnT V (a i)) 0 ns (k + 1) := stN_head (fun i => rnT V (a i)) 0 ns
    refine ⟨fun k => (((rnT V (a 0) ns).1 :: (rnRow (fun i => rnT V (a i)) 1 q (rnT V (a 0) ns).2).1)).getD k .nil, ?_, fun i hi => ?_, ?_⟩
    · unfold cmpT
      simp [h1]
    · cases i with
      | zero => rfl
      | succ i =>
        have := h2 i (by omega)
        rw [hd] at this
        simp only [List.getD_eq_getElem?_getD, List.getElem?_cons_succ, this, Option.getD_some]
        rw [Nat.add_comm 1 i]
    · rw [h3, hd]
/-- A term's variables are such. -/
def T.varsIn (D : Int → Prop) : T → Prop
  | .nil => True
  | .mk k n _ m a => (k = 1 → D n) ∧ (k = 4 → ∀ i, i < m → (a i).varsIn D)
theorem wr_vars : ∀ {t : T}, t.wr → t.varsIn fun n => 0 ≤ n
  | .nil, h => h.elim
  | .mk k n s m a, h => ⟨fun e => by subst e; exact wr_var h, fun e i hi => by subst e; exact wr_vars ((wr_cmp h).2.2 i hi)⟩
theorem alk_rn {V : Int → List UInt8} {D : Int → Prop} (hinj : ∀ n n', D n → D n' → V n = V n' → n = n') (h95 : ∀ n, D n → ba (V n) ≠ ⟨#[95]⟩) : ∀ t : T, t.wr → t.varsIn D → ∀ l : List Int, (∀ n ∈ l, D n) →
    ∃ l', (∀ n ∈ l', D n) ∧ (rnT V t (nmL V l)).2 = nmL V l' ∧ Alk t (rnT V t (nmL V l)).1 (prL l) (prL l') ∧ l'.length ≤ l.length + t.nodes := by
  have hba : ∀ n n', D n → D n' → ba (V n) = ba (V n') → n = n' := fun n n' h h' e => hinj n n' h h' (by rw [← ba_list (V n), e, ba_list])
  intro t
  induction t with
  | nil => exact fun h => h.elim
  | mk k n s m a ih =>
    intro hw hv l hl
    rcases wr_cases hw with rfl | rfl | rfl | rfl
    · have hD := hv.1 rfl
      rw [rn_var]
      cases hx : varI (ba (V n)) (nmL V l) 0 with
      | some i =>
        obtain ⟨_, h1, h2⟩ := varI_some (h95 n hD) _ _ _ hx
        rw [Nat.sub_zero] at h1 h2
        have e : varN (ba (V n)) (nmL V l) = (i, nmL V l) := by unfold varN; rw [hx]
        rw [e]
        unfold nmL at h1 h2
        rw [List.getElem?_map] at h1
        obtain ⟨n0, h3, h4⟩ := Option.map_eq_some_iff.1 h1
        have hn0 := hba _ _ (hl n0 (List.mem_of_getElem? h3)) hD h4
        subst hn0
        refine ⟨l, hl, rfl, ⟨rfl, .inl ⟨rfl, .inl ⟨i, by rw [prL_at, h3]; rfl, fun j x hj hx => ?_, rfl⟩⟩⟩, by omega⟩
        rw [prL_at] at hx
        obtain ⟨n1, h5, rfl⟩ := Option.map_eq_some_iff.1 hx
        refine ⟨fun e => h2 j hj (by rw [List.getElem?_map, h5, ← show n1 = n0 from e]; rfl), ?_⟩
        show (j : Int) ≠ (i : Int)
        omega
      | none =>
        have h1 := varI_none (h95 n hD) _ _ hx
        have e : varN (ba (V n)) (nmL V l) = (l.length, nmL V l ++ [ba (V n)]) := by unfold varN; rw [hx]; simp [nmL]
        rw [e]
        refine ⟨l ++ [n], fun x hx => ?_, by simp [nmL], ⟨rfl, .inl ⟨rfl, .inr ⟨fun j x hx => ?_, by rw [prL_snoc]⟩⟩⟩, by simp only [List.length_append, List.length_singleton, T.nodes]; omega⟩
        · rcases List.mem_append.1 hx with h | h
          · exact hl x h
          · obtain rfl : x = n := by simpa using h
            exact hD
        · rw [prL_at] at hx
          obtain ⟨n1, h5, rfl⟩ := Option.map_eq_some_iff.1 hx
          have hj : j < l.length := (List.getElem?_eq_some_iff.1 h5).1
          refine ⟨fun e => h1 ?_, ?_⟩
          · have e : n1 = n := e
            subst e
            exact List.mem_map.2 ⟨n1, List.mem_of_getElem? h5, rfl⟩
          · show (j : Int) ≠ (l.length : Int)
            omega
    · rw [rn_int]
      exact ⟨l, hl, rfl, ⟨rfl, .inr (.inl ⟨rfl, rfl, rfl⟩)⟩, by omega⟩
    · rw [rn_atom]
      exact ⟨l, hl, rfl, ⟨rfl, .inr (.inr (.inl ⟨rfl, rfl, rfl⟩))⟩, by omega⟩
    · obtain ⟨_, hm, hwa⟩ := wr_cmp hw
      have hva := hv.2 rfl
      obtain ⟨b, e1, e2, e3⟩ := rn_args V (n := n) (s := s) (a := a) hm (nmL V l)
      have key : ∀ r, r ≤ m → ∃ L : Nat → List Int, L 0 = l ∧ (∀ i, i < r → Alk (a i) (b i) (prL (L i)) (prL (L (i + 1)))) ∧ (∀ n ∈ L r, D n) ∧ stN (fun i => rnT V (a i)) 0 (nmL V l) r = nmL V (L r) ∧ (L r).length ≤ l.length + sumTo r fun i => (a i).nodes := by
        intro r
        induction r with
        | zero => exact fun _ => ⟨fun _ => l, rfl, fun i h => absurd h (by omega), hl, rfl, by simp [sumTo]⟩
        | succ r ihr =>
          intro hr
          obtain ⟨L, h1, h2, h3, h4, h5⟩ := ihr (by omega)
          obtain ⟨l', g1, g2, g3, g4⟩ := ih r (hwa r (by omega)) (hva r (by omega)) (L r) h3
          have en : (if r + 1 ≤ r then L (r + 1) else l') = l' := if_neg (by omega)
          refine ⟨fun i => if i ≤ r then L i else l', by simp [h1], fun i hi => ?_, by dsimp only; rw [en]; exact g1, ?_, ?_⟩
          · rcases Nat.lt_or_ge i r with h | h
            · dsimp only
              rw [if_pos (by omega), if_pos (by omega)]
              exact h2 i h
            · obtain rfl : i = r := by omega
              dsimp only
              rw [if_pos (Nat.le_refl _), if_neg (by omega), e2 i (by omega), h4]
              exact g3
          · rw [stN, Nat.zero_add, h4, g2]
            dsimp only
            rw [en]
          · simp only [sumTo]
            rw [if_neg (by omega)]
            omega
      obtain ⟨L, h1, h2, h3, h4, h5⟩ := key m (Nat.le_refl _)
      refine ⟨L m, h3, by rw [e3, h4], ?_, by simp only [T.nodes]; omega⟩
      rw [e1]
      exact ⟨rfl, .inr (.inr (.inr ⟨rfl, rfl, rfl, fun i => prL (L i), by dsimp only; rw [h1], rfl, h2⟩))⟩
end Go.Proofs.YtiefbdblefliaaaDoor
