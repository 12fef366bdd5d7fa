/- Nested terms: the plain law of UnifyNests. -/
import Derived.Test.YtjjkigphfijnbaaFails0
import Derived.Test.YtjjkigphfijnbaaRes0
import Derived.Test.YtjjkigphfijnbaaCmp0
namespace Go.Proofs.Ytjjkigphfijnbaa
open Go.RowKit

def nameF : ByteArray := ⟨#[102]⟩
def nestT : Nat → T
  | 0 => varT 0
  | n + 1 => .mk 4 0 nameF 1 fun _ => nestT n
theorem nestT_good : ∀ n, (nestT n).good
  | 0 => ⟨.inl ⟨rfl, by omega, by omega, rfl, rfl⟩, fun i hi => absurd hi (by omega)⟩
  | n + 1 => ⟨.inr (.inr (.inr ⟨rfl, rfl, by decide, by omega⟩)), fun _ _ => nestT_good n⟩
theorem nestT_nodes : ∀ n, (nestT n).nodes = n + 1
  | 0 => rfl
  | n + 1 => by simp only [nestT, T.nodes, sumTo, nestT_nodes n]; omega
theorem nestT_ok {n : Nat} (h : n ≤ 100) : (nestT n).ok := ⟨nestT_good n, by rw [nestT_nodes]; omega⟩
theorem nestT_reach (L : Bs) : ∀ n, Reach L 0 (nestT n)
  | 0 => .var rfl
  | n + 1 => .arg (i := 0) (by omega) (nestT_reach L n)
theorem nestT_has {v : Int} : ∀ {n : Nat}, (nestT n).hasV v → v = 0
  | 0, h => by rcases h with ⟨_, h⟩ | ⟨h, _⟩; exact h.symm; cases h
  | n + 1, h => by
    rcases h with ⟨h, _⟩ | ⟨_, i, _, h⟩
    · cases h
    · exact nestT_has h
theorem nestT_free {v : Int} (hv : v ≠ 0) (n : Nat) : ¬ Reach [] v (nestT n) := fun h => by
  obtain ⟨u, x, h1, h2, h3⟩ := reach_has h
  have := nestT_has h1
  subst this
  cases h3 with
  | var e => rw [h2] at e; injection e with e; exact hv e.symm
  | bind e hf _ => cases hf
  | arg _ _ => rw [var_iff] at h2; exact absurd h2.1 (by decide)
theorem nestT_succ (n : Nat) : ∃ a, nestT (n + 1) = .mk 4 0 nameF 1 a := ⟨_, rfl⟩
theorem uni_nest1 {n : Nat} : uniF 2000 [] [(varT 0, nestT (n + 1))] = .unlike := by
  have h := nestT_reach [] (n + 1)
  simp only [uniF, walkN_nil]
  simp only [nestT] at h
  simp [stepU, varT, nestT, h]
theorem uni_nest2 {n : Nat} {v : Int} (hv : v ≠ 0) : uniF 2000 [] [(varT v, nestT (n + 1))] = .ok [(v, nestT (n + 1))] 1999 := by
  have h := nestT_free hv (n + 1)
  simp only [uniF, walkN_nil]
  simp only [nestT] at h
  simp [stepU, varT, nestT, h]
theorem walk_free {L : Bs} {t : T} (h : doneW L t) : walkN L t = t := walkF_more (i := 0) h _ (Nat.zero_le _)
theorem walk_one {v : Int} {x : T} : walkN [(v, x)] (varT v) = x := by
  simp [walkN, walkF, stepW, varT_var, findB]
theorem find_one {v u : Int} (x : T) (h : v ≠ u) : findB [(v, x)] u = none := by simp [findB, h]
theorem uni_nest3 {n : Nat} {v : Int} (hv : v ≠ 0) : uniF 2000 [(v, nestT (n + 1))] [(varT 0, varT v)] = .unlike := by
  have h := nestT_reach [(v, nestT (n + 1))] (n + 1)
  have w0 : walkN [(v, nestT (n + 1))] (varT 0) = varT 0 := walk_free fun u hu => by rw [varT_var] at hu; injection hu with hu; subst hu; exact find_one _ hv
  have w1 : walkN [(v, nestT (n + 1))] (varT v) = nestT (n + 1) := walk_one
  simp only [uniF, w0, w1]
  simp only [nestT] at h
  simp [stepU, varT, nestT, h]
theorem res_nest {L : Bs} (h0 : findB L 0 = none) : ∀ {n f : Nat}, Deep L f (nestT n) → eqT (resF L f (nestT n)) (nestT n)
  | _, 0, h => h.elim
  | 0, f + 1, _ => by
    have w0 : walkN L (nestT 0) = nestT 0 := walk_free fun u hu => by simp only [nestT] at hu; rw [varT_var] at hu; injection hu with hu; subst hu; exact h0
    rw [resF_leaf (k := 1) (n := 0) (s := ⟨#[]⟩) (m := 0) (a := fun _ => .nil) w0 (by decide)]
    exact ⟨rfl, fun _ => rfl, fun _ => rfl, fun h => absurd rfl h⟩
  | n + 1, f + 1, h => by
    have w0 : walkN L (nestT (n + 1)) = .mk 4 0 nameF 1 fun _ => nestT n := walk_free fun u hu => by cases hu
    rw [resF_cmp w0]
    exact ⟨rfl, fun h => by rcases h with h | h <;> exact absurd h (by decide), fun h => absurd h (by decide), fun _ _ _ => ⟨rfl, rfl, fun i hi => res_nest h0 (h.args w0 i hi)⟩⟩
theorem res_nestv {n f : Nat} {v : Int} (hv : v ≠ 0) (h : Deep [(v, nestT (n + 1))] f (varT v)) : eqT (resF [(v, nestT (n + 1))] f (varT v)) (nestT (n + 1)) := by
  have w1 : walkN [(v, nestT (n + 1))] (varT v) = nestT (n + 1) := walk_one
  have w2 : walkN [(v, nestT (n + 1))] (nestT (n + 1)) = nestT (n + 1) := walk_free fun u hu => by cases hu
  cases f with
  | zero => exact h.elim
  | succ f =>
    have e : resF [(v, nestT (n + 1))] (f + 1) (varT v) = resF [(v, nestT (n + 1))] (f + 1) (nestT (n + 1)) := by simp only [resF, w1, w2]
    have d : Deep [(v, nestT (n + 1))] (f + 1) (nestT (n + 1)) := by simp only [Deep, w1] at h; simp only [Deep, w2]; exact h
    rw [e]
    exact res_nest (find_one _ hv) d
end Go.Proofs.Ytjjkigphfijnbaa
