/- Terms: as plain trees, and as they lie in memory. -/
import Derived.WalkKit
import Derived.Lib.Hide
import Derived.Below
import Derived.Laws.Rows
namespace Go.Proofs.Ytlgeepjlnjlgdaa
open Go.RowKit

/-- A term: its kind, number, name, how many arguments, and these (beyond the count: whatever). -/
inductive T where
  | nil
  | mk (k n : Int) (s : ByteArray) (m : Nat) (a : Nat → T)

/-- The value 'v' is the term; all that it leads to lies in blocks below 'B'. -/
def TIn (w : World) (B : Nat) : T → Value → Prop
  | .nil, _ => False
  | .mk k n s m a, v => ∃ A c, v = .agg #[.int .i64 k, .int .i64 n, .string s, .slice A m c] ∧ m ≤ c ∧ (A = none → c = 0) ∧
      (0 < m → ∃ b off, A = some ⟨b, off, none⟩ ∧ b < B ∧ ∀ i, i < m → ∃ v0 v1 v2 v3, w.cell? ⟨b, off + 4 * i, none⟩ = some v0 ∧ w.cell? ⟨b, off + 4 * i + 1, none⟩ = some v1 ∧
        w.cell? ⟨b, off + 4 * i + 2, none⟩ = some v2 ∧ w.cell? ⟨b, off + 4 * i + 3, none⟩ = some v3 ∧ TIn w B (a i) (.agg #[v0, v1, v2, v3]))

theorem TIn.below {w w' : World} {B : Nat} (h : Below B w w') : ∀ {t : T} {v : Value}, TIn w B t v → TIn w' B t v := by
  intro t
  induction t with
  | nil => exact fun h => h.elim
  | mk k n s m a ih =>
    rintro v ⟨A, c, rfl, hmc, hA, hx⟩
    refine ⟨A, c, rfl, hmc, hA, fun hm => ?_⟩
    obtain ⟨b, off, rfl, hb, hc⟩ := hx hm
    refine ⟨b, off, rfl, hb, fun i hi => ?_⟩
    obtain ⟨v0, v1, v2, v3, h0, h1, h2, h3, ht⟩ := hc i hi
    exact ⟨v0, v1, v2, v3, (h.cell hb).trans h0, (h.cell hb).trans h1, (h.cell hb).trans h2, (h.cell hb).trans h3, ih i ht⟩
theorem TIn.more {w : World} {B B' : Nat} (h : B ≤ B') : ∀ {t : T} {v : Value}, TIn w B t v → TIn w B' t v := by
  intro t
  induction t with
  | nil => exact fun h => h.elim
  | mk k n s m a ih =>
    rintro v ⟨A, c, rfl, hmc, hA, hx⟩
    refine ⟨A, c, rfl, hmc, hA, fun hm => ?_⟩
    obtain ⟨b, off, rfl, hb, hc⟩ := hx hm
    refine ⟨b, off, rfl, by omega, fun i hi => ?_⟩
    obtain ⟨v0, v1, v2, v3, h0, h1, h2, h3, ht⟩ := hc i hi
    exact ⟨v0, v1, v2, v3, h0, h1, h2, h3, ih i ht⟩

/-- A term's own four parts, opened. -/
structure TAt (w : World) (B : Nat) (k n : Int) (s : ByteArray) (m : Nat) (a : Nat → T) (A : Option Addr) (c : Nat) : Prop where
  cap : m ≤ c
  nil : A = none → c = 0
  cells : 0 < m → ∃ b off, A = some ⟨b, off, none⟩ ∧ b < B ∧ ∀ i, i < m → ∃ v0 v1 v2 v3, w.cell? ⟨b, off + 4 * i, none⟩ = some v0 ∧ w.cell? ⟨b, off + 4 * i + 1, none⟩ = some v1 ∧
        w.cell? ⟨b, off + 4 * i + 2, none⟩ = some v2 ∧ w.cell? ⟨b, off + 4 * i + 3, none⟩ = some v3 ∧ TIn w B (a i) (.agg #[v0, v1, v2, v3])
theorem TIn.open_ {w : World} {B : Nat} {k n : Int} {s : ByteArray} {m : Nat} {a : Nat → T} {v : Value} (h : TIn w B (.mk k n s m a) v) :
    ∃ A c, v = .agg #[.int .i64 k, .int .i64 n, .string s, .slice A m c] ∧ TAt w B k n s m a A c := by
  obtain ⟨A, c, rfl, hmc, hA, hx⟩ := h
  exact ⟨A, c, rfl, hmc, hA, hx⟩
theorem TAt.shut {w : World} {B : Nat} {k n : Int} {s : ByteArray} {m : Nat} {a : Nat → T} {A : Option Addr} {c : Nat} (h : TAt w B k n s m a A c) :
    TIn w B (.mk k n s m a) (.agg #[.int .i64 k, .int .i64 n, .string s, .slice A m c]) := ⟨A, c, rfl, h.cap, h.nil, h.cells⟩
theorem box4 {w : World} {g : Nat} {t : TypeId} {f : Nat × Nat} {a b c d : Value} (h : w.heap[g]? = some (.cells #[a, b, c, d] t f)) :
    w.cell? ⟨g, 0, none⟩ = some a ∧ w.cell? ⟨g, 1, none⟩ = some b ∧ w.cell? ⟨g, 2, none⟩ = some c ∧ w.cell? ⟨g, 3, none⟩ = some d :=
  ⟨cell_of_row w g 0 _ _ _ h, cell_of_row w g 1 _ _ _ h, cell_of_row w g 2 _ _ _ h, cell_of_row w g 3 _ _ _ h⟩
end Go.Proofs.Ytlgeepjlnjlgdaa
