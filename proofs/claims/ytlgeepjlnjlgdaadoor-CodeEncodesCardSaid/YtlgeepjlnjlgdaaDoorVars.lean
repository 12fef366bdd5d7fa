/- The walks through coneyref07.has, Vars; coneyref10.Name, Is. -/
import Derived.Lib.OwnKind
import Derived.Test.YtlgeepjlnjlgdaaDoorGd
import Derived.Deep.QuietTactic
import Derived.BigQuiet
namespace Go.Proofs.YtlgeepjlnjlgdaaDoor
open Go.RowKit

theorem grownFar {w1 w2 : World} {B k : Nat} {e : TypeId} {n : Nat} {v : Value} {xs : List Value} (hx : w1.ownsRow B e k v n xs) (hg : w1.grownBy w2 v.ownBlock) {b : Nat} {o : Obj} (hb : w1.heap[b]? = some o) (hne : ∀ cs f, o ≠ .cells cs e f) : w2.heap[b]? = some o := by
  refine (hg.block b (heap_lt hb) fun h => ?_).trans hb
  obtain ⟨c, fz, h2⟩ := Go.Lib.ownsRow_kind hx b h.symm
  rw [hb] at h2
  injection h2 with h2
  exact hne _ _ h2
theorem cellsNe {cs cs' : Array Value} {t t' : TypeId} {m m' : Nat × Nat} (h : t ≠ t') : Obj.cells cs t m ≠ Obj.cells cs' t' m' := fun e => by injection e with _ e; exact h e
/-- A row of integers of one's own (base B). -/
def ORow (w : World) (B : Nat) (v : Value) (ns : List Int) : Prop := w.ownsRow B 3 1 v ns.length (ns.map (Value.int .i64))
theorem ORow.irow {w : World} {B : Nat} {v : Value} {ns : List Int} (h : ORow w B v ns) : IRow w v ns := ownsRow_more h (Nat.zero_le _)
theorem ORow.below {w w' : World} {B : Nat} {v : Value} {ns : List Int} (h : ORow w B v ns) (hb : Below w.heap.size w w') : ORow w' B v ns := own_below h hb
theorem ORow.push {w1 : World} {B : Nat} {v' : Value} {ns : List Int} {x : Int} (hown : w1.ownsRow B 3 1 v' (ns.length + 1) (ns.map (Value.int .i64) ++ [.int .i64 x])) : ORow w1 B v' (ns ++ [x]) := by
  unfold ORow
  rw [List.length_append, List.map_append]
  exact hown
def NameP (t : T) (w : World) (e : Ending) (w' : World) : Prop := (∃ (s : ByteArray) (m : Nat) (b : Bool), e = .returned (.tuple #[.string s, .int .i64 (m : Int), .bool b]) ∧ (b = true → ∃ k n a, t = .mk k n s m a ∧ (k = 3 ∨ k = 4)) ∧ (b = false → ∀ k n s m a, t = .mk k n s m a → k ≠ 3 ∧ k ≠ 4)) ∧ Below w.heap.size w w'
set_option maxRecDepth 100000 in
theorem name_any {t : T} (hok : t.ok) {v : Value} {w : World} {S : Nat → Prop} (hv : TP w S t v) :
    Calls Tryd.prog 41 #[v] w fun e w' => NameP t w e w' := by
  obtain ⟨k, n, s, m, a, rfl⟩ : ∃ k n s m a, t = .mk k n s m a := by
    cases t with
    | nil => exact hv.elim
    | mk k n s m a => exact ⟨k, n, s, m, a, rfl⟩
  obtain ⟨A, c, rfl, hmc, hA, hx⟩ := hv
  have HK := Lib.hid hok.1.1
  clear hx hA hok
  cases h3 : (k == 3) with
  | true =>
    have E := Lib.hid (show k = 3 by simpa using h3)
    have hm0 : m = 0 := by have := HK.out; have := E.out; omega
    subst hm0
    go_enter Tryd.func41, Tryd.ntmps41
    go_wp2_with fail
    go_ret3
    exact ⟨⟨s, 0, true, rfl, fun _ => ⟨k, n, a, rfl, .inl E.out⟩, fun h => by cases h⟩, (Below.refl _ _).alloc (Nat.le_refl _) _⟩
  | false =>
    have E := Lib.hid (show k ≠ 3 by simpa using h3)
    cases h4 : (k == 4) with
    | true =>
      have E4 := Lib.hid (show k = 4 by simpa using h4)
      go_enter Tryd.func41, Tryd.ntmps41
      go_wp2_with fail
      go_quiet (fail)
      go_wp2_with fail
      go_ret3
      exact ⟨⟨s, m, true, rfl, fun _ => ⟨k, n, a, rfl, .inr E4.out⟩, fun h => by cases h⟩, bel_drewN ((Below.refl _ _).alloc (Nat.le_refl _) _) _⟩
    | false =>
      have E4 := Lib.hid (show k ≠ 4 by simpa using h4)
      go_enter Tryd.func41, Tryd.ntmps41
      go_wp2_with fail
      go_ret3
      exact ⟨⟨⟨#[]⟩, 0, false, rfl, (fun h => by cases h), fun _ k' n' s' m' a' e => by injection e with e; subst e; exact ⟨E.out, E4.out⟩⟩, (Below.refl _ _).alloc (Nat.le_refl _) _⟩
/-- Is it one of a name and so many arguments? -/
def isT (t : T) (nm : List UInt8) (q : Nat) : Prop := ∃ k n s a, t = .mk k n s q a ∧ (k = 3 ∨ k = 4) ∧ s.toList = nm
set_option maxRecDepth 100000 in
theorem is_any {t : T} (hok : t.ok) {v : Value} {w : World} {S : Nat → Prop} (hv : TP w S t v) (nm : ByteArray) (q : Nat) {b : Bool} (hb : b = true ↔ isT t nm.toList q) :
    Calls Tryd.prog 40 #[v, .string nm, .int .i64 (q : Int)] w fun e w' => e = .returned (.bool b) ∧ Below w.heap.size w w' := by
  obtain ⟨k0, n0, s0, A0, m0, c0, rfl⟩ := hv.agg
  have BX := Lib.hid (belA (Below.refl w.heap.size w) (Obj.cells #[.int .i64 k0, .int .i64 n0, .string s0, .slice A0 m0 c0] 24))
  have CN := Lib.hid (name_any hok (hv.below BX.out))
  have HB := Lib.hid hb
  clear hv hb
  go_enter Tryd.func40, Tryd.ntmps40
  go_wp2_with fail
  refine CN.out.mono ?_
  rintro e w5 ⟨⟨s, m, b2, rfl, h1, h2⟩, h5⟩
  have H5 := Lib.hid (BX.out.trans (h5.mono BX.out.size))
  have H1 := Lib.hid h1
  have H2 := Lib.hid h2
  clear h1 h2 h5 CN
  cases b2 with
  | false =>
    have E := Lib.hid (show b = false from by
      cases b with
      | false => rfl
      | true =>
        obtain ⟨k, n, s', a, e, hk, _⟩ := HB.out.mp rfl
        have := H2.out rfl k n s' q a e
        omega)
    go_wp2_with fail
    go_ret
    exact ⟨by rw [E.out]; rfl, H5.out⟩
  | true =>
    obtain ⟨k, n, a, e, hk⟩ := H1.out rfl
    have HE := Lib.hid e
    clear e
    cases hs : (s.toList == nm.toList) with
    | false =>
      have E := Lib.hid (show b = false from by
        cases b with
        | false => rfl
        | true =>
          obtain ⟨k', n', s', a', e, _, hs'⟩ := HB.out.mp rfl
          rw [HE.out] at e
          injection e with _ _ e3 _ _
          subst e3
          have : s.toList ≠ nm.toList := by simpa using hs
          exact absurd hs' this)
      go_wp2_with fail
      go_ret
      exact ⟨by rw [E.out]; rfl, H5.out⟩
    | true =>
      cases hm : ((m : Int) == (q : Int)) with
      | false =>
        have E := Lib.hid (show b = false from by
          cases b with
          | false => rfl
          | true =>
            obtain ⟨k', n', s', a', e, _, _⟩ := HB.out.mp rfl
            rw [HE.out] at e
            injection e with _ _ _ e4 _
            subst e4
            simp at hm)
        go_wp2_with fail
        go_ret
        exact ⟨by rw [E.out]; rfl, H5.out⟩
      | true =>
        have E := Lib.hid (show b = true from HB.out.mpr ⟨k, n, s, a, by rw [HE.out, show q = m by have h9 : (m : Int) = (q : Int) := (by simpa using hm); omega], hk, by simpa using hs⟩)
        go_wp2_with fail
        go_ret
        exact ⟨by rw [E.out]; rfl, H5.out⟩
end Go.Proofs.YtlgeepjlnjlgdaaDoor
