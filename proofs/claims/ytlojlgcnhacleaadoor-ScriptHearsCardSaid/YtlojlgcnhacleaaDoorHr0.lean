/- Outcomes told and heard, plainly. -/
import Derived.Test.YtlojlgcnhacleaaDoorSr0
namespace Go.Proofs.YtlojlgcnhacleaaDoor

/-- A text, masked. -/
def maskL : List UInt8 → List UInt8
  | [] => []
  | c :: l => if c = 92 then 92 :: 92 :: maskL l else if c = 10 then 92 :: 110 :: maskL l else c :: maskL l
/-- A text, its mask taken off. -/
def unmL : List UInt8 → Option (List UInt8)
  | [] => some []
  | [c] => if c = 92 then none else some [c]
  | c :: d :: l => if c = 92 then (if d = 110 then (unmL l).map (10 :: ·) else if d = 92 then (unmL l).map (92 :: ·) else none) else (unmL (d :: l)).map (c :: ·)
theorem unm_other {c : UInt8} (h : c ≠ 92) : ∀ l : List UInt8, unmL (c :: l) = (unmL l).map (c :: ·)
  | [] => by simp [unmL, h]
  | d :: l => by rw [unmL, if_neg h]
theorem unm_mask : ∀ l : List UInt8, unmL (maskL l) = some l
  | [] => rfl
  | c :: l => by
    unfold maskL
    by_cases h1 : c = 92
    · subst h1
      rw [if_pos rfl, unmL, if_pos rfl, if_neg (by decide), if_pos rfl, unm_mask l]
      rfl
    · rw [if_neg h1]
      by_cases h2 : c = 10
      · subst h2
        rw [if_pos rfl, unmL, if_pos rfl, if_pos rfl, unm_mask l]
        rfl
      · rw [if_neg h2, unm_other h1, unm_mask l]
        rfl
theorem mask_no : ∀ (l : List UInt8), ∀ c ∈ maskL l, c ≠ 10
  | [], _, h => by cases h
  | x :: l, c, h => by
    unfold maskL at h
    by_cases h1 : x = 92
    · rw [if_pos h1] at h
      rcases List.mem_cons.1 h with rfl | h
      · decide
      · rcases List.mem_cons.1 h with rfl | h
        · decide
        · exact mask_no l c h
    · rw [if_neg h1] at h
      by_cases h2 : x = 10
      · rw [if_pos h2] at h
        rcases List.mem_cons.1 h with rfl | h
        · decide
        · rcases List.mem_cons.1 h with rfl | h
          · decide
          · exact mask_no l c h
      · rw [if_neg h2] at h
        rcases List.mem_cons.1 h with rfl | h
        · exact h2
        · exact mask_no l c h
theorem mask_len : ∀ l : List UInt8, (maskL l).length ≤ 2 * l.length
  | [] => Nat.le_refl _
  | c :: l => by
    have := mask_len l
    unfold maskL
    split
    · simp only [List.length_cons]; omega
    · split <;> simp only [List.length_cons] <;> omega
theorem mask_same : ∀ {l : List UInt8}, 92 ∉ l → 10 ∉ l → maskL l = l
  | [], _, _ => rfl
  | c :: l, h1, h2 => by
    rw [maskL, if_neg (fun e => h1 (by rw [e]; exact List.mem_cons_self)), if_neg (fun e => h2 (by rw [e]; exact List.mem_cons_self)), mask_same (fun h => h1 (List.mem_cons_of_mem _ h)) (fun h => h2 (List.mem_cons_of_mem _ h))]
/-- The words of the kinds. -/
def kindL : Nat → List UInt8
  | 1 => [97, 110, 115, 119, 101, 114, 32]
  | 2 => [110, 111]
  | 3 => [101, 114, 114, 111, 114, 32]
  | 4 => [98, 97, 100, 32]
  | 5 => [102, 117, 101, 108]
  | 6 => [114, 111, 111, 109]
  | 7 => [115, 116, 97, 99, 107]
  | 8 => [101, 110, 111, 117, 103, 104]
  | _ => [63]
/-- Has a kind a text? -/
def hasT (k : Nat) : Bool := k == 1 || k == 3 || k == 4
/-- An outcome's line. -/
def lineO (o : Nat × List UInt8) : List UInt8 := kindL o.1 ++ if hasT o.1 then maskL o.2 else []
def tellL (os : List (Nat × List UInt8)) : List UInt8 := joinL (os.map lineO)
theorem kind_no : ∀ k, k < 9 → ∀ c ∈ kindL k, c ≠ 10 := by decide
theorem line_no {o : Nat × List UInt8} (h : o.1 < 9) : ∀ c ∈ lineO o, c ≠ 10 := fun c hc => by
  rcases List.mem_append.1 hc with hc | hc
  · exact kind_no o.1 h c hc
  · split at hc
    · exact mask_no _ c hc
    · cases hc
theorem lines_tell {os : List (Nat × List UInt8)} (h : ∀ o ∈ os, o.1 < 9) : linesL (tellL os) = os.map lineO := by
  have := lines_join (os.map lineO) [] fun l hl => by
    obtain ⟨o, ho, rfl⟩ := List.mem_map.1 hl
    exact line_no (h o ho)
  rw [List.append_nil, lines_nil, List.append_nil] at this
  exact this
/-- What a line is heard as: the kinds one by one. -/
def heardF (l : List UInt8) : List Nat → Option (Nat × List UInt8)
  | [] => none
  | k :: ks => match behL (kindL k) l with
    | none => heardF l ks
    | some r => if hasT k then (unmL r).map fun t => (k, t) else if r = [] then some (k, []) else none
def heardL (l : List UInt8) : Option (Nat × List UInt8) := heardF l [1, 2, 3, 4, 5, 6, 7, 8]
theorem heard_line {o : Nat × List UInt8} (h1 : 1 ≤ o.1) (h9 : o.1 < 9) (ht : hasT o.1 = false → o.2 = []) : heardL (lineO o) = some o := by
  obtain ⟨k, t⟩ := o
  have hb : ∀ (w l : List UInt8), behL w (w ++ l) = some l := behL_app
  simp only at h1 h9 ht
  match k, h1, h9, ht with
  | 1, _, _, _ => simp [heardL, heardF, lineO, kindL, hasT, behL, unm_mask]
  | 2, _, _, ht => simp [heardL, heardF, lineO, kindL, hasT, behL, ht rfl]
  | 3, _, _, _ => simp [heardL, heardF, lineO, kindL, hasT, behL, unm_mask]
  | 4, _, _, _ => simp [heardL, heardF, lineO, kindL, hasT, behL, unm_mask]
  | 5, _, _, ht => simp [heardL, heardF, lineO, kindL, hasT, behL, ht rfl]
  | 6, _, _, ht => simp [heardL, heardF, lineO, kindL, hasT, behL, ht rfl]
  | 7, _, _, ht => simp [heardL, heardF, lineO, kindL, hasT, behL, ht rfl]
  | 8, _, _, ht => simp [heardL, heardF, lineO, kindL, hasT, behL, ht rfl]
end Go.Proofs.YtlojlgcnhacleaaDoor
