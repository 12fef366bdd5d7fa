/- The reference's reach: plain laws of the sets of variables that it gathers. -/
import Derived.Test.YtgoedlbdnmhppaaRu2
namespace Go.Proofs.Ytgoedlbdnmhppaa
open Go.RowKit

/-- What 'reach' has gathered behind ns. -/
structure RSet (L : Bs) (t : T) (ns ns' : List Int) : Prop where
  sub : ∀ x ∈ ns, x ∈ ns'
  rch : ∀ x ∈ ns', x ∈ ns ∨ Reach L x t
  has : ∀ x, t.hasV x → x ∈ ns'
  clo : ∀ x ∈ ns', x ∉ ns → ∀ y, findB L x = some y → ∀ z, y.hasV z → z ∈ ns'
  nd : ns'.Nodup
  inr : ∀ x ∈ ns', 0 ≤ x ∧ x < 1000
theorem var_hasV {t : T} {n x : Int} (hv : t.var? = some n) (h : t.hasV x) : x = n := by
  cases t with
  | nil => exact h.elim
  | mk k n' s m a =>
    obtain ⟨h1, h2⟩ := var_iff.mp hv
    rcases h with ⟨_, h⟩ | ⟨h, _⟩
    · omega
    · omega
theorem RSet.old {L : Bs} {t : T} {n : Int} {ns : List Int} (hv : t.var? = some n) (hn : n ∈ ns) (nd : ns.Nodup) (inr : ∀ x ∈ ns, 0 ≤ x ∧ x < 1000) : RSet L t ns ns :=
  ⟨fun _ h => h, fun _ h => .inl h, fun x hx => by rw [var_hasV hv hx]; exact hn, fun _ h h' => absurd h h', nd, inr⟩
theorem nodup_snoc {ns : List Int} {n : Int} (nd : ns.Nodup) (hn : n ∉ ns) : (ns ++ [n]).Nodup := by
  rw [List.nodup_append]
  refine ⟨nd, by simp, fun a ha b hb => ?_⟩
  simp at hb
  subst hb
  rintro rfl
  exact hn ha
theorem inr_snoc {ns : List Int} {n : Int} (inr : ∀ x ∈ ns, 0 ≤ x ∧ x < 1000) (h0 : 0 ≤ n) (h1 : n < 1000) : ∀ x ∈ ns ++ [n], 0 ≤ x ∧ x < 1000 := fun x hx => by
  rcases List.mem_append.mp hx with hx | hx
  · exact inr x hx
  · simp at hx; subst hx; exact ⟨h0, h1⟩
theorem RSet.unbound {L : Bs} {t : T} {n : Int} {ns : List Int} (hv : t.var? = some n) (hn : n ∉ ns) (hf : findB L n = none) (nd : ns.Nodup) (inr : ∀ x ∈ ns, 0 ≤ x ∧ x < 1000) (h0 : 0 ≤ n) (h1 : n < 1000) : RSet L t ns (ns ++ [n]) :=
  ⟨fun _ h => List.mem_append_left _ h, fun x hx => by
    rcases List.mem_append.mp hx with hx | hx
    · exact .inl hx
    · simp at hx; subst hx; exact .inr (.var hv), fun x hx => by rw [var_hasV hv hx]; simp, (fun x hx hx' y hy => by
    rcases List.mem_append.mp hx with hx | hx
    · exact absurd hx hx'
    · simp at hx; subst hx; rw [hf] at hy; cases hy), nodup_snoc nd hn, inr_snoc inr h0 h1⟩
theorem RSet.bound {L : Bs} {t x : T} {n : Int} {ns ns' : List Int} (hv : t.var? = some n) (hf : findB L n = some x) (h : RSet L x (ns ++ [n]) ns') : RSet L t ns ns' :=
  ⟨fun y hy => h.sub y (List.mem_append_left _ hy), fun y hy => by
    rcases h.rch y hy with h1 | h1
    · rcases List.mem_append.mp h1 with h1 | h1
      · exact .inl h1
      · simp at h1; subst h1; exact .inr (.var hv)
    · exact .inr (.bind hv hf h1), fun y hy => by rw [var_hasV hv hy]; exact h.sub n (by simp), fun y hy hy' z hz => by
    by_cases hyn : y = n
    · subst hyn; rw [hf] at hz; injection hz with hz; subst hz; exact h.has
    · exact h.clo y hy (by simp [hy', hyn]) z hz, h.nd, h.inr⟩
/-- .. of the first i arguments. -/
structure RArgs (L : Bs) (a : Nat → T) (i : Nat) (ns ns' : List Int) : Prop where
  sub : ∀ x ∈ ns, x ∈ ns'
  rch : ∀ x ∈ ns', x ∈ ns ∨ ∃ q, q < i ∧ Reach L x (a q)
  has : ∀ q, q < i → ∀ x, (a q).hasV x → x ∈ ns'
  clo : ∀ x ∈ ns', x ∉ ns → ∀ y, findB L x = some y → ∀ z, y.hasV z → z ∈ ns'
  nd : ns'.Nodup
  inr : ∀ x ∈ ns', 0 ≤ x ∧ x < 1000
theorem RArgs.zero {L : Bs} {a : Nat → T} {ns : List Int} (nd : ns.Nodup) (inr : ∀ x ∈ ns, 0 ≤ x ∧ x < 1000) : RArgs L a 0 ns ns :=
  ⟨fun _ h => h, fun _ h => .inl h, fun q hq => absurd hq (by omega), fun _ h h' => absurd h h', nd, inr⟩
theorem RArgs.succ {L : Bs} {a : Nat → T} {i : Nat} {ns n1 n2 : List Int} (h : RArgs L a i ns n1) (k : RSet L (a i) n1 n2) : RArgs L a (i + 1) ns n2 :=
  ⟨fun x hx => k.sub x (h.sub x hx), fun x hx => by
    rcases k.rch x hx with h1 | h1
    · rcases h.rch x h1 with h2 | ⟨q, hq, h2⟩
      · exact .inl h2
      · exact .inr ⟨q, by omega, h2⟩
    · exact .inr ⟨i, by omega, h1⟩, fun q hq x hx => by
    by_cases hqi : q = i
    · subst hqi; exact k.has x hx
    · exact k.sub x (h.has q (by omega) x hx), fun x hx hx' y hy z hz => by
    by_cases h1 : x ∈ n1
    · exact k.sub z (h.clo x h1 hx' y hy z hz)
    · exact k.clo x hx h1 y hy z hz, k.nd, k.inr⟩
theorem RArgs.done {L : Bs} {n : Int} {s : ByteArray} {m : Nat} {a : Nat → T} {ns ns' : List Int} (h : RArgs L a m ns ns') : RSet L (.mk 4 n s m a) ns ns' :=
  ⟨h.sub, fun x hx => (h.rch x hx).imp id fun ⟨_, hq, h⟩ => .arg hq h, fun x hx => by
    rcases hx with ⟨h1, _⟩ | ⟨_, i, hi, h2⟩
    · exact absurd h1 (by decide)
    · exact h.has i hi x h2, h.clo, h.nd, h.inr⟩
theorem RSet.plain {L : Bs} {t : T} {ns : List Int} (hno : ∀ x, ¬ t.hasV x) (nd : ns.Nodup) (inr : ∀ x ∈ ns, 0 ≤ x ∧ x < 1000) : RSet L t ns ns :=
  ⟨fun _ h => h, fun _ h => .inl h, fun x hx => absurd hx (hno x), fun _ h h' => absurd h h', nd, inr⟩
/-- From nothing: what is gathered is what is within. -/
theorem RSet.all {L : Bs} {t : T} {ns : List Int} (h : RSet L t [] ns) (n : Int) : n ∈ ns ↔ Reach L n t := by
  refine ⟨fun hn => by
    rcases h.rch n hn with h1 | h1
    · exact absurd h1 List.not_mem_nil
    · exact h1, fun hr => ?_⟩
  have key : ∀ {u : T}, Reach L n u → (∀ x, u.hasV x → x ∈ ns) → n ∈ ns := by
    intro u hu
    induction hu with
    | var e => exact fun h1 => h1 n (var_has e)
    | bind e hf _ ih => exact fun h1 => ih fun x hx => h.clo _ (h1 _ (var_has e)) List.not_mem_nil _ hf x hx
    | arg hi _ ih => exact fun h1 => ih fun x hx => h1 x (.inr ⟨rfl, _, hi, hx⟩)
  exact key hr h.has
end Go.Proofs.Ytgoedlbdnmhppaa
