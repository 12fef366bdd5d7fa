/- A row of outcomes that a law is given: opened; heavy; same. -/
import Derived.Test.YtlojlgcnhacleaaDoorHpe
import Derived.Deep.Slices
import Derived.ChangeSame
import Derived.OpenShut
namespace Go.Proofs.YtlojlgcnhacleaaDoor
open Go.RowKit
def I64 (x : Int) : Prop := -9223372036854775808 ≤ x ∧ x ≤ 9223372036854775807
/-- A row of outcomes that a law is given. -/
structure Outs (w : World) (A : Option Addr) (m c : Nat) (z : Nat → Int × ByteArray) : Prop where
  cap : m ≤ c
  rng : ∀ i, i < m → I64 (z i).1
  few : (m : Int) ≤ 9223372036854775807
  at_ : 0 < m → ∃ b off, A = some ⟨b, off, none⟩ ∧ b < w.heap.size ∧ ∀ i, i < m → w.cell? ⟨b, off + i * 2, none⟩ = some (.int .i64 (z i).1) ∧ w.cell? ⟨b, off + i * 2 + 1, none⟩ = some (.string (z i).2)
theorem Outs.below {w w' : World} {A : Option Addr} {m c : Nat} {z : Nat → Int × ByteArray} (h : Outs w A m c z) (hb : Below w.heap.size w w') : Outs w' A m c z :=
  ⟨h.cap, h.rng, h.few, fun h0 => by
    obtain ⟨b, off, e, hl, hc⟩ := h.at_ h0
    exact ⟨b, off, e, Nat.lt_of_lt_of_le hl hb.size, fun i hi => ⟨(hb.cell (p := ⟨b, _, none⟩) hl).trans (hc i hi).1, (hb.cell (p := ⟨b, _, none⟩) hl).trans (hc i hi).2⟩⟩⟩
set_option maxRecDepth 100000 in
theorem open_outs {H : Type} {enc : TypeId × Value → H} {w : World} {base : Nat} {spare : Nat → Bool} {held : Bool} {fuel : Nat} {A : Option Addr} {len cap : Nat} {x : DataW H × List MemPlace}
    (h : DataW.trod enc Tryd.prog w base spare held fuel 22 [.slice A len cap] = some x) : ∃ z, Outs w A len cap z := by
  have ce : Tryd.prog.cellsOf 25 = 2 := by kernel_rfl
  have ci : Tryd.prog.cellsOf 3 = 1 := by kernel_rfl
  have cs1 : Tryd.prog.cellsOf 9 = 1 := by kernel_rfl
  rcases Go.Deep.open_slice Tryd.underlying22 h with ⟨h0, _⟩ | ⟨a, l, c, m, n, D, Pl, h0, hb, hl, hm, hmm, _, hx⟩
  · simp at h0
    obtain ⟨rfl, rfl, rfl⟩ := h0
    exact ⟨fun _ => (0, ⟨#[]⟩), Nat.le_refl _, fun i hi => absurd hi (by omega), by omega, fun hi => absurd hi (by omega)⟩
  · simp at h0
    obtain ⟨rfl, rfl, rfl⟩ := h0
    have hlm : len ≤ m := by rw [hmm]; split <;> omega
    have each : ∀ i, i < m → ∃ q : Int × ByteArray, w.cell? (a.add (i * 2)) = some (.int .i64 q.1) ∧ w.cell? (a.add (i * 2 + 1)) = some (.string q.2) ∧ I64 q.1 := by
      intro i hi
      obtain ⟨cs', h1, h2⟩ := hx i hi
      rw [ce] at h1
      obtain ⟨_, hlen, hcell⟩ := World.cells?_some h1
      obtain ⟨xs, k, hk, hxy, _, hxl, hf⟩ := DataW.trod_struct Tryd.underlying25 h2
      match cs', hlen with
      | [v0, v1], _ =>
        have g0 := hf 0 _ rfl
        have g1 := hf 1 _ rfl
        simp [ci, cs1] at g0 g1
        have hx3 : xs.length = 2 := hxl
        rw [List.getElem?_eq_getElem (by omega)] at g0 g1
        obtain ⟨n0, e0, _, w0⟩ := DataW.trod_int Tryd.underlying3 g0
        obtain ⟨s1, e1, _, _⟩ := DataW.trod_string Tryd.underlying9 g1
        simp at e0 e1
        subst e0; subst e1
        have f0 := hcell 0 (by omega)
        have f1 := hcell 1 (by omega)
        rw [Go.Deep.add_add] at f0 f1
        have b0 := bounds_i64 w0
        have i0 : I64 n0 := ⟨by omega, by omega⟩
        exact ⟨(n0, s1), by simpa using f0, by simpa using f1, i0⟩
    obtain ⟨q, hq⟩ := Go.Deep.choose_lt each
    refine ⟨q, hl, fun i hi => (hq i (by omega)).2.2, ?_, fun h0 => ?_⟩
    · have : maxLen ≤ 9223372036854775807 := by decide
      omega
    · obtain ⟨b, off, spot⟩ := a
      have hspot : spot = none := by simpa [Addr.add] using World.cell?_spot (hq 0 (by omega)).1
      subst hspot
      refine ⟨b, off, rfl, ?_, fun i hi => ?_⟩
      · have h1 := (hq 0 (by omega)).1
        rw [Go.WideShapes.add_plain] at h1
        rcases Nat.lt_or_ge b w.heap.size with hlt | hge
        · exact hlt
        · simp [World.cell?, Array.getElem?_eq_none hge] at h1
      · obtain ⟨h1, h2, _⟩ := hq i (by omega)
        rw [Go.WideShapes.add_plain] at h1 h2
        exact ⟨h1, by rw [Nat.add_assoc]; exact h2⟩
/-- The texts' sizes. -/
def sumZ (z : Nat → Int × ByteArray) : Nat → Nat
  | 0 => 0
  | k + 1 => sumZ z k + (z k).2.size
def HeavyP (m : Nat) (z : Nat → Int × ByteArray) (w : World) (e : Ending) (w' : World) : Prop := (∃ b : Bool, e = .returned (.bool b) ∧ (b = false → m + sumZ z m ≤ 4096)) ∧ Below w.heap.size w w'
theorem heavy_t (m : Nat) (z : Nat → Int × ByteArray) (w : World) : HeavyP m z w (.returned (.bool true)) w := ⟨⟨true, rfl, fun h => by cases h⟩, Below.refl _ _⟩
theorem heavy_d {m : Nat} {z : Nat → Int × ByteArray} {n : Int} {w : World} (h : decide ((4096 : Int) < n) = false → m + sumZ z m ≤ 4096) : HeavyP m z w (.returned (.bool (decide (4096 < n)))) w := ⟨⟨_, rfl, h⟩, Below.refl _ _⟩
set_option maxRecDepth 100000 in
set_option maxHeartbeats 4000000 in
theorem heavy_any {w : World} {A : Option Addr} {m c : Nat} {z : Nat → Int × ByteArray} (h : Outs w A m c z) :
    Calls Tryd.prog 4 #[.slice A m c] w fun e w' => HeavyP m z w e w' := by
  have H := Lib.hid h
  have hmc := h.cap
  have hfew := h.few
  clear h
  go_enter Tryd.func4, Tryd.ntmps4
  go_wp2_with fail
  go_loopw [3, 4] (fun nv iv wr => ∃ (n : Int) (i : Nat), nv = .int .i64 n ∧ iv = .int .i64 (i : Int) ∧ i ≤ m ∧ 0 ≤ n ∧ (n ≤ 1052672 ∨ n ≤ m) ∧ Hid (n ≤ 4096 → n = m + sumZ z i) ∧ wr = w) (fun _ iv _ => m - (intOf iv).toNat)
  case atStart => exact ⟨m, 0, rfl, rfl, Nat.zero_le _, by omega, .inr (Int.le_refl _), Lib.hid (fun _ => by simp [sumZ]), rfl⟩
  case round =>
    obtain ⟨n, i, rfl, rfl, hi, hn0, hn1, HS, rfl⟩ := hrel
    have HN := Lib.hid hn1
    clear hn1
    have fin : (decide ((4096 : Int) < n) = false) → (¬ i < m) → m + sumZ z m ≤ 4096 := fun h h2 => by
      have h3 : n ≤ 4096 := by simpa using h
      have h4 := HS.out h3
      obtain rfl : i = m := by omega
      omega
    have FIN := Lib.hid fin
    clear fin
    by_cases him : (i : Int) < (m : Int)
    · by_cases hle : n ≤ 4096
      · obtain ⟨b, off, rfl, hbl, hcz⟩ := H.out.at_ (by omega)
        obtain ⟨_, z2⟩ := hcz i (by omega)
        have HSZ := Lib.hid (show sumZ z (i + 1) = sumZ z i + (z i).2.size from rfl)
        obtain ⟨s, hs⟩ : ∃ s, s = (z i).2 := ⟨_, rfl⟩
        rw [← hs] at z2 HSZ
        clear hcz hs
        go_wp2_with fail
        obtain ⟨v, hv, hv0, hv1, hv2⟩ : ∃ v : Int, v = min (s.size : Int) 1048576 ∧ 0 ≤ v ∧ v ≤ 1048576 ∧ (v ≤ 4096 → v = s.size) := ⟨_, rfl, by omega, by omega, by omega⟩
        rw [← hv]
        have h4 := HS.out hle
        exact ⟨⟨n + v, i + 1, rfl, by go_num, by omega, by omega, .inl (by omega), Lib.hid (fun h => by have := hv2 (by omega); rw [HSZ.out]; omega), trivial⟩, by simp only [intOf]; omega⟩
      · have hd : decide ((4096 : Int) < n) = true := by simp; omega
        go_wp2_with fail
        all_goals (go_ret; first | exact heavy_t m z wr | exact heavy_d fun h => by rw [hd] at h; cases h)
    · go_wp2_with fail
      all_goals (go_ret; exact heavy_d fun h => FIN.out h (by omega))
end Go.Proofs.YtlojlgcnhacleaaDoor
