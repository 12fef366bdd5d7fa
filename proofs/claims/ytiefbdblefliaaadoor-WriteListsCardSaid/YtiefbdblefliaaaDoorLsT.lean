/- Lists of integers: plain. -/
import Derived.Test.YtiefbdblefliaaaDoorWt5
namespace Go.Proofs.YtiefbdblefliaaaDoor
open Go.RowKit

/-- The list of some integers, with a rest. -/
def lsT (b : T) : List Int → T
  | [] => b
  | x :: l => .mk 4 0 dotS 2 fun i => if i = 0 then inT x else lsT b l
def nilT : T := .mk 3 0 nilS 0 fun _ => .nil
def restV : T := .mk 1 7 ⟨#[]⟩ 0 fun _ => .nil
def restT (b : T) : Prop := b = nilT ∨ b = restV
theorem quote_dot : (quoteN dotS).size ≠ 0 := by decide +kernel
theorem quote_nil : (quoteN nilS).size ≠ 0 := by decide +kernel
theorem rest_wr {b : T} (h : restT b) : b.wr ∧ b.fit ∧ b.nodes = 1 ∧ b.legal ∧ b.sizeK = 1 ∧ (lvB b).1 = 1 ∧ (lvB b).2 ≤ 1 := by
  rcases h with rfl | rfl
  · exact ⟨.inr (.inr (.inl ⟨rfl, quote_nil⟩)), ⟨⟨by decide, by decide⟩, by decide, fun i h => absurd h (by omega)⟩, rfl, .inr (.inr (.inl ⟨rfl, quote_nil⟩)), rfl, by simp [nilT, lvB], by simp [nilT, lvB]⟩
  · exact ⟨.inl ⟨rfl, by decide⟩, ⟨⟨by decide, by decide⟩, by decide, fun i h => absurd h (by omega)⟩, rfl, .inl ⟨rfl, by decide⟩, rfl, by simp [restV, lvB], by simp [restV, lvB]⟩
theorem ls_ok {b : T} (hb : restT b) : ∀ l : List Int, (∀ x ∈ l, I64 x) → (lsT b l).wr ∧ (lsT b l).fit ∧ (lsT b l).nodes = 2 * l.length + 1 ∧ (lsT b l).legal ∧ (lsT b l).sizeK = 2 * l.length + 1 ∧ (lvB (lsT b l)).1 ≤ 2 ∧ (lvB (lsT b l)).2 ≤ 1
  | [], _ => by
    obtain ⟨h1, h2, h3, h4, h5, h6, h7⟩ := rest_wr hb
    exact ⟨h1, h2, h3, h4, h5, by show (lvB b).1 ≤ 2; omega, h7⟩
  | x :: l, hx => by
    obtain ⟨h1, h2, h3, h4, h5, h6, h7⟩ := ls_ok hb l fun y hy => hx y (List.mem_cons_of_mem _ hy)
    have hi := hx x List.mem_cons_self
    have key : ∀ (P : T → Prop), P (inT x) → P (lsT b l) → ∀ i, i < 2 → P (if i = 0 then inT x else lsT b l) := fun P p0 p1 i hi => by
      rcases i with _ | _ | i
      · exact p0
      · exact p1
      · omega
    have l0 : lvB (inT x) = (1, 1) := by simp [inT, lvB]
    refine ⟨.inr (.inr (.inr ⟨rfl, quote_dot, by omega, key T.wr (.inr (.inl ⟨rfl, hi.1, hi.2⟩)) h1⟩)), ⟨⟨by decide, by decide⟩, by decide, key T.fit ⟨hi, by decide, fun i h => absurd h (by omega)⟩ h2⟩, ?_, .inr (.inr (.inr ⟨rfl, quote_dot, by omega, key T.legal (.inr (.inl rfl)) h4⟩)), ?_, ?_, ?_⟩
    · simp only [lsT, T.nodes, sumTo, inT, List.length_cons, if_true, show ¬ (1 = 0) by decide, if_false, h3]
      omega
    · simp only [lsT, T.sizeK, sumTo, inT, List.length_cons, if_true, show ¬ (1 = 0) by decide, show ¬ ((2 : Int) = 4) by decide, if_false, h5]
      omega
    · rw [lsT, lv_pair]
      simp only [if_true, show ¬ (1 = 0) by decide, if_false, l0]
      omega
    · rw [lsT, lv_pair]
      simp only [if_true, show ¬ (1 = 0) by decide, if_false, l0]
      omega
theorem ls_text {b : T} {l : List Int} (hl : l = [] → b = nilT) : ∃ r, (txB (nmV []) (lsT b l)).1 = 91 :: (r ++ [93]) := by
  cases l with
  | nil =>
    rw [hl rfl]
    refine ⟨[], ?_⟩
    rw [lsT, nilT, tx_nil]
    rfl
  | cons x l =>
    rw [lsT, tx_pair]
    exact ⟨_, by rw [← List.append_assoc]⟩
theorem ls_good {b : T} (hb : restT b) {l : List Int} (hx : ∀ x ∈ l, I64 x) (h : l.length ≤ 200) : (lsT b l).goodW := by
  obtain ⟨_, _, _, h4, h5, _⟩ := ls_ok hb l hx
  exact ⟨h4, by omega⟩
end Go.Proofs.YtiefbdblefliaaaDoor
