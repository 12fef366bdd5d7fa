/- Tokens, plain: what the marks are, digits; when a prefix operator has no argument; the infix loop's equations. -/
import Derived.Test.YtlogcealmiokkaaGreatDoorKGb
namespace Go.Proofs.YtlogcealmiokkaaGreatDoor
open Go.RowKit
def marksL : List UInt8 := [40, 41, 91, 93, 123, 125, 44, 124]
def Tk.fine (x : Tk) : Prop := (x.k = 5 → ∃ c, c ∈ marksL ∧ x.t = ba [c]) ∧ (x.k = 3 → x.t.data.toList ≠ [] ∧ ∀ c ∈ x.t.data.toList, 48 ≤ c.toNat ∧ c.toNat ≤ 57)
theorem fine_of {k : Int} {t : ByteArray} {a b : Nat} (h5 : k ≠ 5) (h3 : k ≠ 3) : Tk.fine ⟨k, t, a, b⟩ := ⟨fun e => absurd e h5, fun e => absurd e h3⟩
theorem extract_run {s : ByteArray} {f j : Nat} (hj : j ≤ s.size) (hf : f < j) : (s.extract f j).data.toList ≠ [] ∧ ∀ c ∈ (s.extract f j).data.toList, ∃ i, f ≤ i ∧ i < j ∧ c = bu s i := by
 have hl : (s.extract f j).data.toList = (s.data.toList.drop f).take (j - f) := by
  simp only [ByteArray.data_extract, Array.toList_extract, List.extract]
 have hs : s.data.toList.length = s.size := Array.length_toList
 rw [hl]
 constructor
 ·intro h
  have := congrArg List.length h
  rw [List.length_take, List.length_drop] at this
  simp only [List.length_nil] at this
  omega
 ·intro c hc
  obtain ⟨i, hi, rfl⟩ := List.mem_iff_getElem.1 hc
  rw [List.length_take, List.length_drop] at hi
  refine ⟨f + i, by omega, by omega, ?_⟩
  rw [List.getElem_take, List.getElem_drop]
  unfold bu
  rw [List.getD_eq_getElem?_getD, List.getElem?_eq_getElem (by omega)]
  rfl
theorem runF_kind : ∀ (f : Nat) (k : Int) (s : ByteArray) (j i : Nat), j ≤ i → i < runF f k s j → kindB k (bn s i) = true
 | 0, k, s, j, i, h, h2 => by unfold runF at h2; omega
 | f + 1, k, s, j, i, h, h2 => by
  unfold runF at h2
  split at h2
  ·rename_i hk
   rcases Nat.eq_or_lt_of_le h with rfl | h3
   ·exact hk
   ·exact runF_kind f k s (j + 1) i h3 h2
  ·omega
theorem runN_kind {k : Int} {s : ByteArray} {j i : Nat} (h : j ≤ i) (h2 : i < runN k s j) : kindB k (bn s i) = true := runF_kind _ k s j i h h2
theorem one_fine {s : ByteArray} {f : Nat} {l : List Tk} {x : Tk} (h : oneN s f l = .ok x) (hf : f < s.size) : x.fine := by
 unfold oneN at h
 cases hh : headN s f l.getLast? with
 | none => rw [hh] at h; cases h
 | some q =>
  obtain ⟨K, j⟩ := q
  rw [hh] at h
  dsimp only at h
  split at h
  ·cases h
  ·split at h
   ·rename_i h39
    have hK : K = 1 := by
     unfold headN at hh
     have e : (bn s f : Int) = 39 := by simpa using h39
     rw [e] at hh
     have e1 : smallB 39 = false := by decide
     have e2 : greatB 39 = false := by decide
     have e3 : digitB 39 = false := by decide
     have e4 : signB 39 = false := by decide
     rw [e1, e2, e3, e4] at hh
     simp at hh
     exact hh.1.symm
    cases hq : quoN s f (f + 1) [] with
    | bad p e => rw [hq] at h; cases h
    | ok t p =>
     rw [hq] at h
     injection h with h
     subst h
     subst hK
     exact fine_of (by decide) (by decide)
   ·rename_i h39
    injection h with h
    subst h
    unfold headN at hh
    split at hh
    ·injection hh with hh; injection hh with h1 h2; subst h1; exact fine_of (by decide) (by decide)
    ·split at hh
     ·injection hh with hh; injection hh with h1 h2; subst h1; exact fine_of (by decide) (by decide)
     ·split at hh
      ·injection hh with hh; injection hh with h1 h2; subst h1; exact fine_of (by decide) (by decide)
      ·split at hh
       ·rename_i hs
        injection hh with hh; injection hh with h1 h2; subst h1
        refine ⟨fun e => absurd (show (3 : Int) = 5 from e) (by decide), fun _ => ?_⟩
        have hk : kindB 2 (bn s f) = true := by simp [kindB, hs]
        have hgt := runN_gt hf hk
        obtain ⟨g1, g2⟩ := extract_run (s := s) (f := f) (runN_le (k := 2) (Nat.le_of_lt hf)) hgt
        subst h2
        refine ⟨g1, fun c hc => ?_⟩
        obtain ⟨i, hi1, hi2, rfl⟩ := g2 c hc
        have := runN_kind hi1 hi2
        rw [bn_bu] at this
        simp [kindB, digitB] at this
        omega
       ·split at hh
        ·injection hh with hh; injection hh with h1 h2; subst h1; exact fine_of (by decide) (by decide)
        ·split at hh
         ·injection hh with hh; injection hh with h1 h2; subst h1; exact fine_of (by decide) (by decide)
         ·split at hh
          ·rename_i hm
           injection hh with hh; injection hh with h1 h2
           subst h2
           have hx : s.extract f (f + 1) = ba [bu s f] := by
            apply ByteArray.ext
            apply Array.toList_inj.1
            obtain ⟨g1, g2⟩ := extract_run (s := s) (f := f) (j := f + 1) (by omega) (by omega)
            have hlen : (s.extract f (f + 1)).data.toList.length = 1 := by
             have : (s.extract f (f + 1)).data.toList.length = (s.extract f (f + 1)).size := Array.length_toList
             rw [this, ByteArray.size_extract]; omega
            obtain ⟨c, hc⟩ := List.length_eq_one_iff.1 hlen
            rw [hc]
            obtain ⟨i, hi1, hi2, rfl⟩ := g2 c (by rw [hc]; exact List.mem_singleton.2 rfl)
            obtain rfl : i = f := by omega
            rfl
           refine ⟨fun _ => ⟨bu s f, ?_, hx⟩, fun e => ?_⟩
           ·simp only [markB, Bool.or_eq_true, beq_iff_eq, bn_bu] at hm
            have hb : ∀ (c : UInt8) (n : Nat), (c.toNat : Int) = n → n < 256 → c = UInt8.ofNat n := fun c n h hn => by
             apply UInt8.toNat_inj.1
             rw [UInt8.toNat_ofNat']
             omega
            unfold marksL
            rcases hm with ((((((h | h) | h) | h) | h) | h) | h) | h <;> rw [hb _ _ h (by decide)] <;> decide
           ·subst h1
            simp only at e
            split at e <;> cases e
          ·cases hh
theorem lex_fine {s : ByteArray} {r : List Tk} (h : lexN s = .ok r) : ∀ x ∈ r, x.fine := by
 unfold lexN at h
 split at h
 ·cases h
 ·obtain ⟨_, hP, _⟩ := toks_ind (s := s) (fun _ l => ∀ x ∈ l, x.fine) (fun k l f x _ hl _ hf ho y hy => by
   rcases List.mem_append.1 hy with hy | hy
   ·exact hl y hy
   ·rw [List.mem_singleton.1 hy]
    exact one_fine ho hf) (s.size - 0) 0 [] r (Nat.le_refl _) (fun x hx => by cases hx) h
  exact hP
def aloneP (t : Tk) : Bool :=
 if t.k = 1 then (opIn t.t).isSome && !(opPre t.t).isSome
 else if t.k = 5 then !(t.t.toList == [40]) && !(t.t.toList == [91]) && !(t.t.toList == [123])
 else if t.k = 2 ∨ t.k = 3 ∨ t.k = 4 then false
 else true
theorem ba_one (c : UInt8) : (ba [c]).toList = [c] := by rw [ByteArray.toList_eq]; rfl
theorem alone_ends {tk : List Tk} {sz i : Nat} (hf : ∀ x ∈ tk, x.fine) (hk : ∀ x ∈ tk, 1 ≤ x.k ∧ x.k ≤ 6) : aloneP (nxT tk sz i) = endsP tk sz i := by
 unfold aloneP endsP
 by_cases hlt : i < tk.length
 ·have e : nxT tk sz i = tk[i] := by unfold nxT; rw [dif_pos hlt]
  rw [e]
  have h1 := hf _ (List.getElem_mem hlt)
  have h2 := hk _ (List.getElem_mem hlt)
  generalize tk[i] = x at h1 h2
  have h3 : x.k = 1 ∨ x.k = 2 ∨ x.k = 3 ∨ x.k = 4 ∨ x.k = 5 ∨ x.k = 6 := by omega
  dsimp only
  rcases h3 with h3 | h3 | h3 | h3 | h3 | h3
  ·simp [h3]
  ·simp [h3]
  ·simp [h3]
  ·simp [h3]
  ·obtain ⟨c, hc, hx⟩ := h1.1 h3
   rw [h3, hx, ba_one]
   simp only [marksL, List.mem_cons, List.not_mem_nil, or_false] at hc
   rcases hc with rfl | rfl | rfl | rfl | rfl | rfl | rfl | rfl <;> decide
  ·simp [h3]
 ·have e : nxT tk sz i = ⟨0, ⟨#[]⟩, sz, 0⟩ := by unfold nxT; rw [dif_neg hlt]
  rw [e]
  rfl
end Go.Proofs.YtlogcealmiokkaaGreatDoor
