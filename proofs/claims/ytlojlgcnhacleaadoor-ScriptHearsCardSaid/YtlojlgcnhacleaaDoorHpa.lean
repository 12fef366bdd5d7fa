/- The Replacer beside a builder. -/
import Derived.Test.YtlojlgcnhacleaaDoorHp6
import Derived.Test.YtlojlgcnhacleaaDoorBk
import Derived.Test.YtlojlgcnhacleaaDoorHp9
namespace Go.Proofs.YtlojlgcnhacleaaDoor
open Go.RowKit Go.Shelf
theorem RpH.far {B : Nat} {w w' : World} {b : Nat} (h : RpH w b) (hk : KB B w w') : RpH w' b := h.keep fun k cs t f hb ht => hk.keep k _ hb fun cs' t' f' e => by
  injection e with e1 e2 e3
  subst e2 e3
  rcases ht with rfl | rfl | ⟨rfl, hf⟩
  · exact ⟨by decide, fun e => absurd e (by decide)⟩
  · exact ⟨by decide, fun e => absurd e (by decide)⟩
  · exact ⟨by decide, fun _ => hf⟩
theorem FourX.far {B : Nat} {w w' : World} {y : Nat} (h : FourX w y) (hk : KB B w w') : FourX w' y := by
  obtain ⟨cs, f, hh, hr⟩ := h
  exact ⟨cs, f, hk.keep y _ hh (fun cs' t' f' e => by injection e with e1 e2 e3; subst e2; exact ⟨by decide, fun e => absurd e (by decide)⟩), hr⟩
/-- The Replacer, built or not yet. -/
def RpS (w : World) (p y : Nat) : Prop := (∃ cc, w.heap[p]? = some (repC 0 0 .nilIface (.slice (some ⟨y, 0, none⟩) 4 cc)) ∧ y ≠ p ∧ FourX w y) ∨ ∃ b, RpD w p b
theorem RpS.far {B : Nat} {w w' : World} {p y : Nat} (h : RpS w p y) (hk : KB B w w') : RpS w' p y := by
  have hf : ∀ d l r o, w.heap[p]? = some (repC d l r o) → w'.heap[p]? = some (repC d l r o) := fun d l r o h => hk.keep p _ h (fun cs' t' f' e => by injection e with e1 e2 e3; subst e2; exact ⟨by decide, fun e => absurd e (by decide)⟩)
  rcases h with ⟨cc, h1, h2, h3⟩ | ⟨b, h1, h2⟩
  · exact .inl ⟨cc, hf _ _ _ _ h1, h2, h3.far hk⟩
  · exact .inr ⟨b, hf _ _ _ _ h1, h2.far hk⟩
theorem RpS.low {w w' : World} {p y : Nat} (h : RpS w p y) (hk : Below w.heap.size w w') : RpS w' p y := by
  rcases h with ⟨cc, h1, h2, h3⟩ | ⟨b, h1, h2⟩
  · obtain ⟨cs, f, hh, hr⟩ := h3
    exact .inl ⟨cc, (hk.block p (heap_lt h1)).trans h1, h2, cs, f, (hk.block y (heap_lt hh)).trans hh, hr⟩
  · exact .inr ⟨b, (hk.block p (heap_lt h1)).trans h1, h2.below hk⟩
theorem RpS.box {w : World} {p y : Nat} (h : RpS w p y) : ∃ d l r o, w.heap[p]? = some (repC d l r o) := by
  rcases h with ⟨cc, h1, h2, h3⟩ | ⟨b, h1, h2⟩
  · exact ⟨_, _, _, _, h1⟩
  · exact ⟨_, _, _, _, h1⟩
theorem RpS.isb {w w' : World} {p y B b : Nat} {bs : List Value} (h : RpS w p y) (hb : Lib.IsBuilder TB 5 B b bs w) (hk : ∀ k, k < w.heap.size → k ≠ p → w'.heap[k]? = w.heap[k]?) : Lib.IsBuilder TB 5 B b bs w' := by
  obtain ⟨d, l, r, o, hx⟩ := h.box
  exact isb_keep hb fun k cs t f hh ht => (hk k (heap_lt hh) fun e => by
    subst e
    rw [hx] at hh
    injection hh with hh
    injection hh with _ hh
    subst hh
    rcases ht with ht | ht <;> exact absurd ht (by decide)).trans hh
theorem rep_any (w : World) (p y B b : Nat) (bs : List Value) (s : ByteArray) (hs : s.size ≤ 100000000) (h : RpS w p y) (hb : Lib.IsBuilder TB 5 B b bs w) (hB : B ≤ p) :
    Calls Tryd.prog 12 #[.pointer (some ⟨p, 0, none⟩), .string s] w fun e w' => e = .returned (.string (ba (maskL s.data.toList))) ∧ RpS w' p y ∧ Lib.IsBuilder TB 5 B b bs w' ∧ Below B w w' := by
  have h0 := h
  have hpl : p < w.heap.size := by
    obtain ⟨d, l, r, o, hx⟩ := h.box
    exact heap_lt hx
  rcases h with ⟨cc, h1, h2, h3⟩ | ⟨b', h1⟩
  · refine (replace_first w p y cc s hs h1 h2 h3).mono ?_
    rintro e w' ⟨rfl, b', k1, k2, k3⟩
    exact ⟨rfl, .inr ⟨b', k1⟩, h0.isb hb k3, k2.mono hB⟩
  · refine (replace_again w p b' s hs h1).mono ?_
    rintro e w' ⟨rfl, k2⟩
    exact ⟨rfl, .inr ⟨b', (k2.block p hpl).trans h1.box, h1.tab.below k2⟩, h0.isb hb (fun k hk _ => k2.block k hk), k2.mono (by omega)⟩
/-- The table of kinds. -/
def KindsX (w : World) : Prop := ∀ k, k < 9 → w.cell? ⟨0, k, none⟩ = some (.string (ba (kindL k)))
theorem KindsX.below {w w' : World} {B : Nat} (h : KindsX w) (hb : Below B w w') (hB : 0 < B) : KindsX w' := fun k hk => (hb.cell (p := ⟨0, k, none⟩) hB).trans (h k hk)
end Go.Proofs.YtlojlgcnhacleaaDoor
