/- The walks through coneyref07.has, Vars; coneyref10.Name, Is. The walks through coneyref11.place, Same; code.Slots. -/
import Derived.Lib.OwnKind
import Derived.Test.YtlgeepjlnjlgdaaDoorEF
import Derived.Deep.QuietTactic
import Derived.BigQuiet
import Derived.Test.YtlgeepjlnjlgdaaDoorEH
namespace Go.Proofs.YtlgeepjlnjlgdaaDoor
open Go.RowKit

theorem grownFar {w1 w2 : World} {B k : Nat} {e : TypeId} {n : Nat} {v : Value} {xs : List Value} (hx : w1.ownsRow B e k v n xs) (hg : w1.grownBy w2 v.ownBlock) {b : Nat} {o : Obj} (hb : w1.heap[b]? = some o) (hne : ∀ cs f, o ≠ .cells cs e f) : w2.heap[b]? = some o := by
  refine (hg.block b (heap_lt hb) fun h => ?_).trans hb
  obtain ⟨c, fz, h2⟩ := Go.Lib.ownsRow_kind hx b h.symm
  rw [hb] at h2
  injection h2 with h2
  exact hne _ _ h2
theorem cellsNe {cs cs' : Array Value} {t t' : TypeId} {m m' : Nat × Nat} (h : t ≠ t') : Obj.cells cs t m ≠ Obj.cells cs' t' m' := fun e => by injection e with _ e; exact h e
/-- A row of integers of one's own (base B). -/
def ORow (w : World) (B : Nat) (v : Value) (ns : List Int) : Prop := w.ownsRow B 3 1 v ns.length (ns.map (Value.int .i64))
theorem ORow.irow {w : World} {B : Nat} {v : Value} {ns : List Int} (h : ORow w B v ns) : IRow w v ns := ownsRow_more h (Nat.zero_le _)
theorem ORow.below {w w' : World} {B : Nat} {v : Value} {ns : List Int} (h : ORow w B v ns) (hb : Below w.heap.size w w') : ORow w' B v ns := own_below h hb
theorem ORow.push {w1 : World} {B : Nat} {v' : Value} {ns : List Int} {x : Int} (hown : w1.ownsRow B 3 1 v' (ns.length + 1) (ns.map (Value.int .i64) ++ [.int .i64 x])) : ORow w1 B v' (ns ++ [x]) := by
  unfold ORow
  rw [List.length_append, List.map_append]
  exact hown
def NameP (t : T) (w : World) (e : Ending) (w' : World) : Prop := (∃ (s : ByteArray) (m : Nat) (b : Bool), e = .returned (.tuple #[.string s, .int .i64 (m : Int), .bool b]) ∧ (b = true → ∃ k n a, t = .mk k n s m a ∧ (k = 3 ∨ k = 4)) ∧ (b = false → ∀ k n s m a, t = .mk k n s m a → k ≠ 3 ∧ k ≠ 4)) ∧ Below w.heap.size w w'
set_option maxRecDepth 100000 in
theorem name_any {t : T} (hok : t.ok) {v : Value} {w : World} {S : Nat → Prop} (hv : TP w S t v) :
    Calls Tryd.prog 41 #[v] w fun e w' => NameP t w e w' := by
  obtain ⟨k, n, s, m, a, rfl⟩ : ∃ k n s m a, t = .mk k n s m a := by
    cases t with
    | nil => exact hv.elim
    | mk k n s m a => exact ⟨k, n, s, m, a, rfl⟩
  obtain ⟨A, c, rfl, hmc, hA, hx⟩ := hv
  have HK := Lib.hid hok.1.1
  clear hx hA hok
  cases h3 : (k == 3) with
  | true =>
    have E := Lib.hid (show k = 3 by simpa using h3)
    have hm0 : m = 0 := by have := HK.out; have := E.out; omega
    subst hm0
    go_enter Tryd.func41, Tryd.ntmps41
    go_wp2_with fail
    go_ret3
    exact ⟨⟨s, 0, true, rfl, fun _ => ⟨k, n, a, rfl, .inl E.out⟩, fun h => by cases h⟩, (Below.refl _ _).alloc (Nat.le_refl _) _⟩
  | false =>
    have E := Lib.hid (show k ≠ 3 by simpa using h3)
    cases h4 : (k == 4) with
    | true =>
      have E4 := Lib.hid (show k = 4 by simpa using h4)
      go_enter Tryd.func41, Tryd.ntmps41
      go_wp2_with fail
      go_quiet (fail)
      go_wp2_with fail
      go_ret3
      exact ⟨⟨s, m, true, rfl, fun _ => ⟨k, n, a, rfl, .inr E4.out⟩, fun h => by cases h⟩, bel_drewN ((Below.refl _ _).alloc (Nat.le_refl _) _) _⟩
    | false =>
      have E4 := Lib.hid (show k ≠ 4 by simpa using h4)
      go_enter Tryd.func41, Tryd.ntmps41
      go_wp2_with fail
      go_ret3
      exact ⟨⟨⟨#[]⟩, 0, false, rfl, (fun h => by cases h), fun _ k' n' s' m' a' e => by injection e with e; subst e; exact ⟨E.out, E4.out⟩⟩, (Below.refl _ _).alloc (Nat.le_refl _) _⟩
/-- Is it one of a name and so many arguments? -/
def isT (t : T) (nm : List UInt8) (q : Nat) : Prop := ∃ k n s a, t = .mk k n s q a ∧ (k = 3 ∨ k = 4) ∧ s.toList = nm
set_option maxRecDepth 100000 in
theorem is_any {t : T} (hok : t.ok) {v : Value} {w : World} {S : Nat → Prop} (hv : TP w S t v) (nm : ByteArray) (q : Nat) {b : Bool} (hb : b = true ↔ isT t nm.toList q) :
    Calls Tryd.prog 40 #[v, .string nm, .int .i64 (q : Int)] w fun e w' => e = .returned (.bool b) ∧ Below w.heap.size w w' := by
  obtain ⟨k0, n0, s0, A0, m0, c0, rfl⟩ := hv.agg
  have BX := Lib.hid (belA (Below.refl w.heap.size w) (Obj.cells #[.int .i64 k0, .int .i64 n0, .string s0, .slice A0 m0 c0] 24))
  have CN := Lib.hid (name_any hok (hv.below BX.out))
  have HB := Lib.hid hb
  clear hv hb
  go_enter Tryd.func40, Tryd.ntmps40
  go_wp2_with fail
  refine CN.out.mono ?_
  rintro e w5 ⟨⟨s, m, b2, rfl, h1, h2⟩, h5⟩
  have H5 := Lib.hid (BX.out.trans (h5.mono BX.out.size))
  have H1 := Lib.hid h1
  have H2 := Lib.hid h2
  clear h1 h2 h5 CN
  cases b2 with
  | false =>
    have E := Lib.hid (show b = false from by
      cases b with
      | false => rfl
      | true =>
        obtain ⟨k, n, s', a, e, hk, _⟩ := HB.out.mp rfl
        have := H2.out rfl k n s' q a e
        omega)
    go_wp2_with fail
    go_ret
    exact ⟨by rw [E.out]; rfl, H5.out⟩
  | true =>
    obtain ⟨k, n, a, e, hk⟩ := H1.out rfl
    have HE := Lib.hid e
    clear e
    cases hs : (s.toList == nm.toList) with
    | false =>
      have E := Lib.hid (show b = false from by
        cases b with
        | false => rfl
        | true =>
          obtain ⟨k', n', s', a', e, _, hs'⟩ := HB.out.mp rfl
          rw [HE.out] at e
          injection e with _ _ e3 _ _
          subst e3
          have : s.toList ≠ nm.toList := by simpa using hs
          exact absurd hs' this)
      go_wp2_with fail
      go_ret
      exact ⟨by rw [E.out]; rfl, H5.out⟩
    | true =>
      cases hm : ((m : Int) == (q : Int)) with
      | false =>
        have E := Lib.hid (show b = false from by
          cases b with
          | false => rfl
          | true =>
            obtain ⟨k', n', s', a', e, _, _⟩ := HB.out.mp rfl
            rw [HE.out] at e
            injection e with _ _ _ e4 _
            subst e4
            simp at hm)
        go_wp2_with fail
        go_ret
        exact ⟨by rw [E.out]; rfl, H5.out⟩
      | true =>
        have E := Lib.hid (show b = true from HB.out.mpr ⟨k, n, s, a, by rw [HE.out, show q = m by have h9 : (m : Int) = (q : Int) := (by simpa using hm); omega], hk, by simpa using hs⟩)
        go_wp2_with fail
        go_ret
        exact ⟨by rw [E.out]; rfl, H5.out⟩
end Go.Proofs.YtlgeepjlnjlgdaaDoor
namespace Go.Proofs.YtlgeepjlnjlgdaaDoor
open Go.RowKit

def plV (o : Option Nat) : Int := match o with
  | some i => (i : Int)
  | none => -1
theorem plN_at {l : List Int} {x : Int} {i : Nat} (h : l[i]? = some x) (hq : ∀ q, q < i → l[q]? ≠ some x) : plN l x 0 = some i := by
  cases hp : plN l x 0 with
  | none => exact absurd (List.mem_of_getElem? h) (plN_none.1 hp)
  | some j =>
    obtain ⟨_, _, h3, h4⟩ := plN_lt hp
    rw [Nat.sub_zero] at h3 h4
    congr 1
    rcases Nat.lt_trichotomy j i with h1 | h1 | h1
    · exact absurd h3 (hq j h1)
    · exact h1
    · exact absurd h (h4 i h1)
set_option maxRecDepth 100000 in
set_option maxHeartbeats 4000000 in
theorem place_any {ns : List Int} {A : Option Addr} {c : Nat} {w : World} (ha : IRow w (.slice A ns.length c) ns) (hl : ns.length ≤ 1000000) (x : Int) :
    Calls Tryd.prog 45 #[.slice A ns.length c, .int .i64 x] w fun e w' => e = .returned (.int .i64 (plV (plN ns x 0))) ∧ Below w.heap.size w w' := by
  obtain ⟨_, _, e1, ha1, ha2, hax⟩ := ha.open_
  injection e1 with e1 _ e2
  subst e1; subst e2
  have HA := Lib.hid hax
  clear hax ha ha2
  go_enter Tryd.func45, Tryd.ntmps45
  go_wp2_with fail
  go_loopw [4, 5] (fun _ iv wr => ∃ i : Nat, iv = .int .i64 (i : Int) ∧ i ≤ ns.length ∧ (∀ q, q < i → ns[q]? ≠ some x) ∧ Below w.heap.size w wr) (fun _ iv _ => ns.length - (intOf iv).toNat)
  case atStart => exact ⟨0, rfl, Nat.zero_le _, fun q hq => absurd hq (by omega), Below.refl _ _⟩
  case round =>
    obtain ⟨i, rfl, hi, hq, hb⟩ := hrel
    have HQ := Lib.hid hq
    have HW := Lib.hid hb
    clear hb hq
    by_cases him : i < ns.length
    · have him' : (i : Int) < (ns.length : Int) := by omega
      obtain ⟨y, hy⟩ : ∃ y, ns[i]? = some y := ⟨_, List.getElem?_eq_getElem him⟩
      obtain ⟨ga, rfl, hgl, ca⟩ := HA.out i y hy
      have da := (HW.out.cell (p := ⟨ga, i, none⟩) hgl).trans ca
      have HY := Lib.hid hy
      clear ca hy
      cases hyx : (y == x) with
      | true =>
        have E := Lib.hid (show plN ns x 0 = some i from plN_at (by rw [HY.out]; congr 1; simpa using hyx) HQ.out)
        go_wp2_with fail
        go_ret
        exact ⟨by rw [E.out]; rfl, HW.out⟩
      | false =>
        have HN := Lib.hid (show y ≠ x by simpa using hyx)
        go_wp2_with fail
        go_roundw
        case rel => exact ⟨i + 1, by go_num, him, fun q hq h => by
          rcases Nat.lt_or_ge q i with h1 | h1
          · exact HQ.out q h1 h
          · obtain rfl : q = i := by omega
            rw [HY.out] at h
            injection h with h
            exact HN.out h, HW.out⟩
        case measure => simp [intOf]; omega
    · have him' : ¬ (i : Int) < (ns.length : Int) := by omega
      have E := Lib.hid (show plN ns x 0 = none from plN_none.2 fun hm => by
        obtain ⟨q, hq⟩ := List.getElem?_of_mem hm
        exact HQ.out q (by
          rcases Nat.lt_or_ge q ns.length with h | h
          · omega
          · rw [List.getElem?_eq_none h] at hq; cases hq) hq)
      go_wp2_with fail
      go_ret
      exact ⟨by rw [E.out]; rfl, HW.out⟩
/-- A row of instructions of one's own. -/
def IRw (w : World) (B : Nat) (v : Value) (l : List Ins) : Prop := w.ownsRow B 50 3 v l.length (insCells l)
theorem insrow {w : World} {B : Nat} {A : Option Addr} {c n i : Nat} {l : List Ins} (h : IRw w B (.slice A n c) l) (hn : n = l.length) (hi : i < l.length) : ∃ g, A = some ⟨g, 0, none⟩ ∧ g < w.heap.size ∧ ∀ j, j < 3 → w.cell? ⟨g, i * 3 + j, none⟩ = (l[i]'hi).cells[j]? := by
  subst hn
  obtain ⟨A', c', he, _, _, _, hx⟩ := own_open h
  injection he with e1 _ e3
  subst e1; subst e3
  obtain ⟨g, cur, rfl, _, hh, hc⟩ := hx (by omega)
  exact ⟨g, rfl, heap_lt hh, fun j hj => by rw [cell_of_row w g (i * 3 + j) _ _ _ hh, hc _ (by omega), Nat.mul_comm i 3]; exact insCells_at l i hi j hj⟩
/-- A row of instructions that stands below B (given, or made before). -/
def GRw (w : World) (B : Nat) (v : Value) (l : List Ins) : Prop :=
  ∃ A c, v = .slice A l.length c ∧ (0 < l.length → ∃ g o, A = some ⟨g, o, none⟩ ∧ g < B ∧ g < w.heap.size ∧ ∀ (i : Nat) (hi : i < l.length) (j : Nat), j < 3 → w.cell? ⟨g, o + i * 3 + j, none⟩ = (l[i]'hi).cells[j]?)
theorem GRw.all {w : World} {B : Nat} {v : Value} {l : List Ins} (h : GRw w B v l) : ∃ A c, v = .slice A l.length c ∧ True ∧ True ∧ True := by
  obtain ⟨A, c, e, _⟩ := h
  exact ⟨A, c, e, trivial, trivial, trivial⟩
theorem GRw.open4 {w : World} {B : Nat} {v : Value} {l : List Ins} (h : GRw w B v l) : ∃ A c, v = .slice A l.length c ∧ True ∧ True ∧ True ∧ True := by
  obtain ⟨A, c, e, _⟩ := h
  exact ⟨A, c, e, trivial, trivial, trivial, trivial⟩
theorem GRw.keep {w w' : World} {B : Nat} {v : Value} {l : List Ins} (h : GRw w B v l) (hs : w.heap.size ≤ w'.heap.size) (hk : ∀ b, b < B → b < w.heap.size → w'.heap[b]? = w.heap[b]?) : GRw w' B v l := by
  obtain ⟨A, c, e, hx⟩ := h
  refine ⟨A, c, e, fun h0 => ?_⟩
  obtain ⟨g, o, e1, h1, h2, h3⟩ := hx h0
  exact ⟨g, o, e1, h1, by omega, fun i hi j hj => (World.cell?_of_block (hk g h1 h2)).trans (h3 i hi j hj)⟩
theorem GRw.below {w w' : World} {B : Nat} {v : Value} {l : List Ins} (h : GRw w B v l) (hb : Below w.heap.size w w') : GRw w' B v l := h.keep hb.size fun b _ hb' => hb.block b hb'
theorem GRw.more {w : World} {B B' : Nat} {v : Value} {l : List Ins} (h : GRw w B v l) (hB : w.heap.size ≤ B') : GRw w B' v l := by
  obtain ⟨A, c, e, hx⟩ := h
  refine ⟨A, c, e, fun h0 => ?_⟩
  obtain ⟨g, o, e1, h1, h2, h3⟩ := hx h0
  exact ⟨g, o, e1, by omega, h2, h3⟩
theorem grow {w : World} {B : Nat} {A : Option Addr} {c n i : Nat} {l : List Ins} (h : GRw w B (.slice A n c) l) (hn : n = l.length) (hi : i < l.length) : ∃ g o, A = some ⟨g, o, none⟩ ∧ g < w.heap.size ∧ ∀ j, j < 3 → w.cell? ⟨g, o + i * 3 + j, none⟩ = (l[i]'hi).cells[j]? := by
  subst hn
  obtain ⟨A', c', he, hx⟩ := h
  injection he with e1 _ e3
  subst e1; subst e3
  obtain ⟨g, o, rfl, _, h2, h3⟩ := hx (by omega)
  exact ⟨g, o, rfl, h2, fun j hj => h3 i hi j hj⟩
theorem growB {w : World} {B : Nat} {A : Option Addr} {c n i : Nat} {l : List Ins} (h : GRw w B (.slice A n c) l) (hn : n = l.length) (hi : i < l.length) : ∃ g o, A = some ⟨g, o, none⟩ ∧ g < w.heap.size ∧ g < B ∧ ∀ j, j < 3 → w.cell? ⟨g, o + i * 3 + j, none⟩ = (l[i]'hi).cells[j]? := by
  subst hn
  obtain ⟨A', c', he, hx⟩ := h
  injection he with e1 _ e3
  subst e1; subst e3
  obtain ⟨g, o, rfl, h1, h2, h3⟩ := hx (by omega)
  exact ⟨g, o, rfl, h2, h1, fun j hj => h3 i hi j hj⟩
theorem IRw.g {w : World} {B : Nat} {v : Value} {l : List Ins} (h : IRw w B v l) : GRw w w.heap.size v l := by
  obtain ⟨A, c, rfl, _⟩ := own_open h
  refine ⟨A, c, rfl, fun h0 => ?_⟩
  obtain ⟨g, e, hg, _⟩ := insrow h rfl h0
  refine ⟨g, 0, e, hg, hg, fun i hi j hj => ?_⟩
  obtain ⟨g', e', _, h3⟩ := insrow h rfl hi
  rw [e] at e'
  injection e' with e'
  injection e' with e' _
  subst e'
  rw [Nat.zero_add]
  exact h3 j hj
theorem ins_ne {x y : Ins} (h : ¬ x = y) (h0 : x.o = y.o) (h1 : x.a = y.a) : ¬ x.s.toList = y.s.toList := by
  intro h2
  apply h
  obtain ⟨o, a, s⟩ := x
  obtain ⟨o', a', s'⟩ := y
  dsimp only at h0 h1 h2
  have : s = s' := by
    apply ByteArray.ext
    apply Array.toList_inj.1
    simpa [ByteArray.toList_eq] using h2
  subst h0; subst h1; subst this
  rfl
set_option maxHeartbeats 4000000 in
set_option maxRecDepth 100000 in
theorem isame_any {a b : List Ins} (w : World) {va vb : Value} {B B' : Nat} (ha : GRw w B va a) (hb : GRw w B' vb b) (hfew : a.length ≤ 100000) :
    Calls Tryd.prog 8 #[va, vb] w fun e w' => (∃ r, e = .returned (.bool r) ∧ (r = true ↔ a = b)) ∧ Below w.heap.size w w' := by
  have OA := Lib.hid ha
  have OB := Lib.hid hb
  obtain ⟨A, c, rfl, _, _, _, _⟩ := GRw.open4 ha
  obtain ⟨A', c', rfl, _, _, _, _⟩ := GRw.open4 hb
  clear ha hb
  by_cases hl : a.length = b.length
  · have HL := Lib.hid hl
    have hli : (a.length : Int) = (b.length : Int) := by omega
    clear hl
    go_enter Tryd.func8, Tryd.ntmps8
    go_wp2_with fail
    go_loopw [5] (fun iv wr => ∃ i : Nat, iv = .int .i64 (i : Int) ∧ i ≤ a.length ∧ a.take i = b.take i ∧ Below w.heap.size w wr) (fun iv _ => a.length - (intOf iv).toNat)
    case atStart => exact ⟨0, rfl, Nat.zero_le _, rfl, Below.refl _ _⟩
    case round =>
      obtain ⟨i, rfl, hi, hab, hbw⟩ := hrel
      have HAB := Lib.hid hab
      have BW := Lib.hid hbw
      have OA' := Lib.hid (OA.out.below hbw)
      have OB' := Lib.hid (OB.out.below hbw)
      clear hab hbw
      by_cases hil : i < a.length
      · have hil' : (i : Int) < (a.length : Int) := by omega
        have hjl' : (i : Int) < (b.length : Int) := by omega
        have hjl : i < b.length := by omega
        obtain ⟨g, og, rfl, hg, hcell⟩ := grow OA'.out rfl hil
        obtain ⟨x, hx⟩ : ∃ x, a[i]'hil = x := ⟨_, rfl⟩
        rw [hx] at hcell
        have h0 := hcell 0 (by omega)
        have h1 := hcell 1 (by omega)
        have h2 := hcell 2 (by omega)
        obtain ⟨g', og', rfl, hg', kcell⟩ := grow OB'.out rfl hjl
        obtain ⟨y, hy⟩ : ∃ y, b[i]'hjl = y := ⟨_, rfl⟩
        rw [hy] at kcell
        have k0 := kcell 0 (by omega)
        have k1 := kcell 1 (by omega)
        have k2 := kcell 2 (by omega)
        simp [Ins.cells] at h0 h1 h2 k0 k1 k2
        have X0 := Lib.hid hx
        have Y0 := Lib.hid hy
        clear hcell kcell hx hy
        by_cases hxy : x = y
        · subst hxy
          go_wp2_with fail
          go_region
          go_wp2_with fail
          go_roundw
          case rel =>
            refine ⟨i + 1, by go_num, by omega, ?_, by first | exact BW.out.drew | exact BW.out⟩
            rw [List.take_succ_eq_append_getElem hil, List.take_succ_eq_append_getElem hjl, X0.out, Y0.out, HAB.out]
          case measure => simp [intOf]; omega
        · have HXY := Lib.hid hxy
          clear hxy
          have HNE := Lib.hid (show ¬ a = b from fun h => HXY.out (by rw [← X0.out, ← Y0.out]; simp only [h]))
          have done : ∀ (w' : World), (w' = wr ∨ w' = wr.drew) → (∃ r, Ending.returned (Value.bool false) = .returned (.bool r) ∧ (r = true ↔ a = b)) ∧ Below w.heap.size w w' := by
            intro w' hw
            refine ⟨⟨false, rfl, fun h => (by cases h), fun h => absurd h HNE.out⟩, ?_⟩
            rcases hw with rfl | rfl
            · exact BW.out
            · exact BW.out.drew
          have DONE := Lib.hid done
          clear done
          by_cases e0 : x.o = y.o
          · by_cases e1 : x.a = y.a
            · have e2 : ¬ x.s.toList = y.s.toList := ins_ne HXY.out e0 e1
              go_wp2_with fail
              go_region
              go_wp2_with fail
              go_ret
              first | exact DONE.out _ (.inl rfl) | exact DONE.out _ (.inr rfl)
            · go_wp2_with fail
              go_region
              go_wp2_with fail
              go_ret
              first | exact DONE.out _ (.inl rfl) | exact DONE.out _ (.inr rfl)
          · go_wp2_with fail
            go_region
            go_wp2_with fail
            go_ret
            first | exact DONE.out _ (.inl rfl) | exact DONE.out _ (.inr rfl)
      · go_wp2_with fail
        go_ret
        have hi2 : i = a.length := by omega
        subst hi2
        have he : a = b := by
          have h1 := HAB.out
          rw [List.take_length, HL.out, List.take_length] at h1
          exact h1
        exact ⟨⟨true, rfl, fun _ => he, fun _ => rfl⟩, BW.out⟩
  · have hli : ¬ (a.length : Int) = (b.length : Int) := by omega
    go_enter Tryd.func8, Tryd.ntmps8
    go_wp2_with fail
    go_ret
    exact ⟨⟨false, rfl, fun h => (by cases h), fun h => absurd (by rw [h]) hl⟩, Below.refl _ _⟩
set_option maxHeartbeats 4000000 in
set_option maxRecDepth 100000 in
theorem pslots_any {l : List Ins} (w : World) {va : Value} {B : Nat} (ha : GRw w B va l) (hfew : l.length ≤ 100000) :
    Calls Tryd.prog 11 #[va] w fun e w' => e = .returned (.int .i64 ((countO 2 l : Nat) : Int)) ∧ Below w.heap.size w w' := by
  have OA := Lib.hid ha
  obtain ⟨A, c, rfl, _, _, _, _⟩ := GRw.open4 ha
  clear ha
  go_enter Tryd.func11, Tryd.ntmps11
  go_wp2_with fail
  go_loopw [3, 8] (fun nv iv wr => ∃ i : Nat, nv = .int .i64 ((countO 2 (l.take i) : Nat) : Int) ∧ iv = .int .i64 (i : Int) ∧ i ≤ l.length ∧ Below w.heap.size w wr) (fun _ iv _ => l.length - (intOf iv).toNat)
  case atStart => exact ⟨0, rfl, rfl, Nat.zero_le _, Below.refl _ _⟩
  case round =>
    obtain ⟨i, rfl, rfl, hi, hbw⟩ := hrel
    have BW := Lib.hid hbw
    have OA' := Lib.hid (OA.out.below hbw)
    clear hbw
    have hcn : countO 2 (l.take i) ≤ 100000 := by
      have h1 : (l.take i).length ≤ i := by rw [List.length_take]; omega
      have h2 : countO 2 (l.take i) ≤ (l.take i).length := List.length_filter_le _ _
      omega
    by_cases hil : i < l.length
    · have hil' : (i : Int) < (l.length : Int) := by omega
      obtain ⟨g, og, rfl, hg, hcell⟩ := grow OA'.out rfl hil
      obtain ⟨x, hx⟩ : ∃ x, l[i]'hil = x := ⟨_, rfl⟩
      rw [hx] at hcell
      have h0 := hcell 0 (by omega)
      have h1 := hcell 1 (by omega)
      have h2 := hcell 2 (by omega)
      simp [Ins.cells] at h0 h1 h2
      have HT := Lib.hid (show countO 2 (l.take (i + 1)) = countO 2 (l.take i) + countO 2 [x] by rw [List.take_succ_eq_append_getElem hil, countO_app, hx])
      clear hcell hx
      obtain ⟨n, hn⟩ : ∃ n, countO 2 (l.take i) = n := ⟨_, rfl⟩
      rw [hn] at HT hcn
      rw [hn]
      clear hn
      cases h2' : (x.o == 2) with
      | true =>
        have H1 := Lib.hid (show countO 2 [x] = 1 by simp [countO, h2'])
        go_wp2_with fail
        go_roundw
        case rel => exact ⟨i + 1, by rw [HT.out, H1.out]; go_num, by go_num, by omega, BW.out.alloc BW.out.size _⟩
        case measure => simp [intOf]; omega
      | false =>
        have H1 := Lib.hid (show countO 2 [x] = 0 by simp [countO, h2'])
        go_wp2_with fail
        go_roundw
        case rel => exact ⟨i + 1, by rw [HT.out, H1.out]; rfl, by go_num, by omega, BW.out.alloc BW.out.size _⟩
        case measure => simp [intOf]; omega
    · have hi2 : i = l.length := by omega
      have H1 := Lib.hid (show l.take i = l by rw [hi2, List.take_length])
      rw [H1.out] at hcn ⊢
      clear hi2
      go_wp2_with fail
      go_ret
      exact ⟨rfl, BW.out⟩
end Go.Proofs.YtlgeepjlnjlgdaaDoor
