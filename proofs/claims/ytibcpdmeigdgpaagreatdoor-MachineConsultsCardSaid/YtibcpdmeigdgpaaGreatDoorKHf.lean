/- The walks through coneyref07.has, Vars; coneyref10.Name, Is. Rows of terms of one's own. The walks through coneyref10: Control, callable: they come to an end, with some answer. The walks through coneyref10: gather: a row of terms of one's own. -/
import Derived.Lib.OwnKind
import Derived.Test.YtibcpdmeigdgpaaGreatDoorKHd
import Derived.Deep.QuietTactic
import Derived.BigQuiet
import Derived.Test.YtibcpdmeigdgpaaGreatDoorKHa
import Derived.Maps.AppendAt
import Derived.Test.YtibcpdmeigdgpaaGreatDoorKHe
namespace Go.Proofs.YtibcpdmeigdgpaaGreatDoor
open Go.RowKit
def ORow (w : World) (B : Nat) (v : Value) (ns : List Int) : Prop := w.ownsRow B 3 1 v ns.length (ns.map (Value.int .i64))
theorem ORow.below {w w' : World} {B : Nat} {v : Value} {ns : List Int} (h : ORow w B v ns) (hb : Below w.heap.size w w') : ORow w' B v ns := own_below h hb
theorem ORow.push {w1 : World} {B : Nat} {v' : Value} {ns : List Int} {x : Int} (hown : w1.ownsRow B 3 1 v' (ns.length + 1) (ns.map (Value.int .i64) ++ [.int .i64 x])) : ORow w1 B v' (ns ++ [x]) := by
 unfold ORow
 rw [List.length_append, List.map_append]
 exact hown
def NameP (t : T) (w : World) (e : Ending) (w' : World) : Prop := (∃ (s : ByteArray) (m : Nat) (b : Bool), e = .returned (.tuple #[.string s, .int .i64 (m : Int), .bool b]) ∧ (b = true → ∃ k n a, t = .mk k n s m a ∧ (k = 3 ∨ k = 4)) ∧ (b = false → ∀ k n s m a, t = .mk k n s m a → k ≠ 3 ∧ k ≠ 4)) ∧ Below w.heap.size w w'
set_option maxRecDepth 100000 in
theorem name_any {t : T} (hok : t.ok) {v : Value} {w : World} {S : Nat → Prop} (hv : TP w S t v) :
 Calls Tryz.prog 15 #[v] w fun e w' => NameP t w e w' := by
 obtain ⟨k, n, s, m, a, rfl⟩ : ∃ k n s m a, t = .mk k n s m a := by
  cases t with
  | nil => exact hv.elim
  | mk k n s m a => exact ⟨k, n, s, m, a, rfl⟩
 obtain ⟨A, c, rfl, hmc, hA, hx⟩ := hv
 have HK := Lib.hid hok.1.1
 clear hx hA hok
 cases h3 : (k == 3) with
 | true =>
  have E := Lib.hid (show k = 3 by simpa using h3)
  have hm0 : m = 0 := by have := HK.out; have := E.out; omega
  subst hm0
  go_enter Tryz.func15, Tryz.ntmps15
  go_wp2_with fail
  go_ret3
  exact ⟨⟨s, 0, true, rfl, fun _ => ⟨k, n, a, rfl, .inl E.out⟩, fun h => by cases h⟩, (Below.refl _ _).alloc (Nat.le_refl _) _⟩
 | false =>
  have E := Lib.hid (show k ≠ 3 by simpa using h3)
  cases h4 : (k == 4) with
  | true =>
   have E4 := Lib.hid (show k = 4 by simpa using h4)
   go_enter Tryz.func15, Tryz.ntmps15
   go_wp2_with fail
   go_quiet (fail)
   go_wp2_with fail
   go_ret3
   exact ⟨⟨s, m, true, rfl, fun _ => ⟨k, n, a, rfl, .inr E4.out⟩, fun h => by cases h⟩, bel_drewN ((Below.refl _ _).alloc (Nat.le_refl _) _) _⟩
  | false =>
   have E4 := Lib.hid (show k ≠ 4 by simpa using h4)
   go_enter Tryz.func15, Tryz.ntmps15
   go_wp2_with fail
   go_ret3
   exact ⟨⟨⟨#[]⟩, 0, false, rfl, (fun h => by cases h), fun _ k' n' s' m' a' e => by injection e with e; subst e; exact ⟨E.out, E4.out⟩⟩, (Below.refl _ _).alloc (Nat.le_refl _) _⟩
def isT (t : T) (nm : List UInt8) (q : Nat) : Prop := ∃ k n s a, t = .mk k n s q a ∧ (k = 3 ∨ k = 4) ∧ s.toList = nm
set_option maxRecDepth 100000 in
theorem is_any {t : T} (hok : t.ok) {v : Value} {w : World} {S : Nat → Prop} (hv : TP w S t v) (nm : ByteArray) (q : Nat) {b : Bool} (hb : b = true ↔ isT t nm.toList q) :
 Calls Tryz.prog 29 #[v, .string nm, .int .i64 (q : Int)] w fun e w' => e = .returned (.bool b) ∧ Below w.heap.size w w' := by
 obtain ⟨k0, n0, s0, A0, m0, c0, rfl⟩ := hv.agg
 have BX := Lib.hid (belA (Below.refl w.heap.size w) (Obj.cells #[.int .i64 k0, .int .i64 n0, .string s0, .slice A0 m0 c0] 39))
 have CN := Lib.hid (name_any hok (hv.below BX.out))
 have HB := Lib.hid hb
 clear hv hb
 go_enter Tryz.func29, Tryz.ntmps29
 go_wp2_with fail
 refine CN.out.mono ?_
 rintro e w5 ⟨⟨s, m, b2, rfl, h1, h2⟩, h5⟩
 have H5 := Lib.hid (BX.out.trans (h5.mono BX.out.size))
 have H1 := Lib.hid h1
 have H2 := Lib.hid h2
 clear h1 h2 h5 CN
 cases b2 with
 | false =>
  have E := Lib.hid (show b = false from by
   cases b with
   | false => rfl
   | true =>
    obtain ⟨k, n, s', a, e, hk, _⟩ := HB.out.mp rfl
    have := H2.out rfl k n s' q a e
    omega)
  go_wp2_with fail
  go_ret
  exact ⟨by rw [E.out]; rfl, H5.out⟩
 | true =>
  obtain ⟨k, n, a, e, hk⟩ := H1.out rfl
  have HE := Lib.hid e
  clear e
  cases hs : (s.toList == nm.toList) with
  | false =>
   have E := Lib.hid (show b = false from by
    cases b with
    | false => rfl
    | true =>
     obtain ⟨k', n', s', a', e, _, hs'⟩ := HB.out.mp rfl
     rw [HE.out] at e
     injection e with _ _ e3 _ _
     subst e3
     have : s.toList ≠ nm.toList := by simpa using hs
     exact absurd hs' this)
   go_wp2_with fail
   go_ret
   exact ⟨by rw [E.out]; rfl, H5.out⟩
  | true =>
   cases hm : ((m : Int) == (q : Int)) with
   | false =>
    have E := Lib.hid (show b = false from by
     cases b with
     | false => rfl
     | true =>
      obtain ⟨k', n', s', a', e, _, _⟩ := HB.out.mp rfl
      rw [HE.out] at e
      injection e with _ _ _ e4 _
      subst e4
      simp at hm)
    go_wp2_with fail
    go_ret
    exact ⟨by rw [E.out]; rfl, H5.out⟩
   | true =>
    have E := Lib.hid (show b = true from HB.out.mpr ⟨k, n, s, a, by rw [HE.out, show q = m by have h9 : (m : Int) = (q : Int) := (by simpa using hm); omega], hk, by simpa using hs⟩)
    go_wp2_with fail
    go_ret
    exact ⟨by rw [E.out]; rfl, H5.out⟩
end Go.Proofs.YtibcpdmeigdgpaaGreatDoor
namespace Go.Proofs.YtibcpdmeigdgpaaGreatDoor
open Go.RowKit
structure Q6 where
 k : Int
 n : Int
 s : ByteArray
 A : Option Addr
 m : Nat
 c : Nat
def Q6.cells (q : Q6) : List Value := [.int .i64 q.k, .int .i64 q.n, .string q.s, .slice q.A q.m q.c]
def Q6.val (q : Q6) : Value := .agg #[.int .i64 q.k, .int .i64 q.n, .string q.s, .slice q.A q.m q.c]
def qCells (l : List Q6) : List Value := l.flatMap Q6.cells
theorem qCells_length (l : List Q6) : (qCells l).length = l.length * 4 := by
 induction l with
 | nil => rfl
 | cons x l ih => simp only [qCells, List.flatMap_cons, List.length_append, List.length_cons] at ih ⊢; rw [ih]; simp [Q6.cells]; omega
theorem qCells_at : ∀ (l : List Q6) (i : Nat) (h : i < l.length) (j : Nat), j < 4 → (qCells l)[i * 4 + j]? = (l[i]'h).cells[j]?
 | x :: l, 0, _, j, hj => by
  simp only [qCells, List.flatMap_cons, Nat.zero_mul, Nat.zero_add, List.getElem_cons_zero]
  exact List.getElem?_append_left (by simpa [Q6.cells] using hj)
 | x :: l, i + 1, h, j, hj => by
  have ih := qCells_at l i (by simpa using h) j hj
  simp only [qCells, List.flatMap_cons, List.getElem_cons_succ] at ih ⊢
  rw [List.getElem?_append_right (by simp [Q6.cells]; omega), ← ih]
  congr 1
  simp [Q6.cells]; omega
theorem qCells_one (q : Q6) : q.cells = qCells [q] := by simp [qCells]
theorem qCells_small (l : List Q6) : ∀ u ∈ qCells l, u.oneCell' = true := by
 intro u hu
 simp only [qCells, List.mem_flatMap] at hu
 obtain ⟨q, _, hu⟩ := hu
 simp only [Q6.cells, List.mem_cons, List.not_mem_nil, or_false] at hu
 rcases hu with rfl | rfl | rfl | rfl <;> rfl
theorem TP.q6 {w : World} {S : Nat → Prop} {t : T} {v : Value} (h : TP w S t v) : ∃ q : Q6, v = q.val := by
 obtain ⟨k, n, s, A, m, c, rfl⟩ := h.agg
 exact ⟨⟨k, n, s, A, m, c⟩, rfl⟩
structure TL (w : World) (B : Nat) (S P : Nat → Prop) (v : Value) (l : List T) (qs : List Q6) : Prop where
 len : qs.length = l.length
 own : w.ownsRow B 39 4 v l.length (qCells qs)
 tp : ∀ i (h : i < l.length) (h' : i < qs.length), TP w (fun b => S b ∨ P b) (l[i]) (qs[i]).val
 lo : ∀ b, P b → B ≤ b ∧ b < w.heap.size
 off : ∀ g, v.ownBlock = some g → ¬ P g
 NB : ∀ b, S b → b < B
theorem TL.below {w w' : World} {B : Nat} {S P : Nat → Prop} {v : Value} {l : List T} {qs : List Q6} (h : TL w B S P v l qs) (hb : Below w.heap.size w w') : TL w' B S P v l qs :=
 ⟨h.len, own_below h.own hb, fun i h1 h2 => (h.tp i h1 h2).below hb, fun b hP => ⟨(h.lo b hP).1, Nat.lt_of_lt_of_le (h.lo b hP).2 hb.size⟩, h.off, h.NB⟩
theorem TL.empty {w : World} {B : Nat} {S : Nat → Prop} {v : Value} (h : w.ownsRow B 39 4 v 0 []) (hN : ∀ b, S b → b < B) : TL w B S (fun _ => False) v [] [] :=
 ⟨rfl, h, fun i h1 => absurd h1 (by simp), fun _ h => h.elim, fun _ _ h => h, hN⟩
theorem TL.app {w w' : World} {B : Nat} {S P P2 : Nat → Prop} {v v' : Value} {l l2 : List T} {qs q2 : List Q6} (h : TL w B S P v l qs) (hlen : q2.length = l2.length) (hown : w'.ownsRow B 39 4 v' (l.length + l2.length) (qCells qs ++ qCells q2))
 (hg : w.grownBy w' v.ownBlock) (hat : v'.ownBlock = v.ownBlock ∨ v'.ownBlock = some w.heap.size) (ht : ∀ i (h : i < l2.length) (h' : i < q2.length), TP w (fun b => S b ∨ P2 b) (l2[i]) (q2[i]).val)
 (hlo : ∀ b, P2 b → B ≤ b ∧ b < w.heap.size) (hoff : ∀ g, v.ownBlock = some g → ¬ P2 g) : TL w' B S (fun b => P b ∨ P2 b) v' (l ++ l2) (qs ++ q2) := by
 have hne : ∀ b, (S b ∨ P b ∨ P2 b) → some b ≠ v.ownBlock := by
  intro b hb he
  rcases hb with hb | hb | hb
  ·have h1 := (h.own.lt b he.symm).1
   have := h.NB b hb
   omega
  ·exact h.off b he.symm hb
  ·exact hoff b he.symm hb
 have keep : ∀ {t : T} {x : Value} {S0 : Nat → Prop}, (∀ b, S0 b → S b ∨ P b ∨ P2 b) → TP w S0 t x → TP w' (fun b => S b ∨ P b ∨ P2 b) t x := fun hS hx => hx.keep fun b cs f hb hh => by
  refine ⟨(hg.block b (heap_lt hh) fun e => hne b (hS b hb) e).trans hh, hS b hb⟩
 refine ⟨by simp [h.len, hlen], by simpa [qCells] using hown, ?_, ?_, ?_, h.NB⟩
 ·intro i h1 h2
  by_cases hi : i < l.length
  ·rw [List.getElem_append_left hi, List.getElem_append_left (by rw [h.len]; exact hi)]
   exact keep (fun b hb => by rcases hb with hb | hb; exact .inl hb; exact .inr (.inl hb)) (h.tp i hi _)
  ·rw [List.getElem_append_right (by omega), List.getElem_append_right (by rw [h.len]; omega)]
   have := ht (i - l.length) (by simp at h1; omega) (by simp at h1; omega)
   simp only [h.len] at this ⊢
   exact keep (fun b hb => by rcases hb with hb | hb; exact .inl hb; exact .inr (.inr hb)) this
 ·intro b hb
  rcases hb with hb | hb
  ·exact ⟨(h.lo b hb).1, Nat.lt_of_lt_of_le (h.lo b hb).2 hg.size⟩
  ·exact ⟨(hlo b hb).1, Nat.lt_of_lt_of_le (hlo b hb).2 hg.size⟩
 ·intro g hv hP
  rcases hat with hat | hat
  ·rw [hat] at hv
   rcases hP with hP | hP
   ·exact h.off g hv hP
   ·exact hoff g hv hP
  ·rw [hat] at hv
   injection hv with hv
   subst hv
   rcases hP with hP | hP
   ·have := (h.lo _ hP).2; omega
   ·have := (hlo _ hP).2; omega
theorem TL.at_ {w : World} {B : Nat} {S P : Nat → Prop} {A : Option Addr} {n c : Nat} {l : List T} {qs : List Q6} (h : TL w B S P (.slice A n c) l qs) (hn : n = l.length) {i : Nat} (hi : i < l.length) :
 ∃ (g : Nat) (q : Q6), A = some ⟨g, 0, none⟩ ∧ B ≤ g ∧ g < w.heap.size ∧ ¬ P g ∧ w.cell? ⟨g, i * 4, none⟩ = some (.int .i64 q.k) ∧ w.cell? ⟨g, i * 4 + 1, none⟩ = some (.int .i64 q.n) ∧ w.cell? ⟨g, i * 4 + 2, none⟩ = some (.string q.s) ∧ w.cell? ⟨g, i * 4 + 3, none⟩ = some (.slice q.A q.m q.c) ∧
  TP w (fun b => S b ∨ P b) (l[i]) q.val := by
 subst hn
 have hq : i < qs.length := by rw [h.len]; exact hi
 obtain ⟨A', c', he, _, _, _, hx⟩ := own_open h.own
 injection he with e1 _ e3
 subst e1; subst e3
 obtain ⟨g, cur, rfl, hB, hh, hc⟩ := hx (by omega)
 have hc' : ∀ j, j < 4 → w.cell? ⟨g, i * 4 + j, none⟩ = (qs[i]).cells[j]? := fun j hj => by
  rw [cell_of_row w g (i * 4 + j) _ _ _ hh, hc _ (by omega)]
  exact qCells_at qs i hq j hj
 exact ⟨g, qs[i], rfl, hB, heap_lt hh, h.off g rfl, hc' 0 (by omega), hc' 1 (by omega), hc' 2 (by omega), hc' 3 (by omega), h.tp i hi hq⟩
theorem TL.all {w : World} {B : Nat} {S P : Nat → Prop} {v : Value} {l : List T} {qs : List Q6} (h : TL w B S P v l qs) : ∃ A c, v = .slice A l.length c ∧ l.length ≤ c ∧ (A = none → c = 0) ∧ (0 < l.length → ∃ b off, A = some ⟨b, off, none⟩ ∧ ∀ j u, (qCells qs)[j]? = some u → w.cell? ⟨b, off + j, none⟩ = some u) := by
 obtain ⟨A, c, rfl, hc, hA, _, hx⟩ := own_open h.own
 refine ⟨A, c, rfl, hc, hA, fun h0 => ?_⟩
 obtain ⟨g, cur, rfl, _, hh, hcur⟩ := hx h0
 refine ⟨g, 0, rfl, fun j u hu => ?_⟩
 have hj : j < l.length * 4 := by
  rcases Nat.lt_or_ge j (qCells qs).length with h1 | h1
  ·rw [qCells_length, h.len] at h1; exact h1
  ·rw [List.getElem?_eq_none h1] at hu; cases hu
 rw [Nat.zero_add, cell_of_row w g j _ _ _ hh, hcur j hj, hu]
theorem wpList_append_at {P : Program} (w : World) {ops : Array Oper} {rest : List Oper} {o : Oper} {a : Act} {Q : Exit → Act → World → Prop} (hgd : o.guard = none) (s x : Operand) (t : TypeId)
 (ho : o.op = .call { callee := .builtin .append, args := #[s, x], argTypes := #[t, t] })
 {e : TypeId} {z : Value} {size bytes : Nat} (E : El P t e z size bytes) (base : Nat)
 (v : Value) (n : Nat) (xs : List Value) (hs : a.eval s = v) (hown : w.ownsRow base e size v n xs)
 (A : Option Addr) (m c : Nat) (us : List Value) (hx : a.eval x = .slice A m c) (hA : A = none → c = 0) (hmc : m ≤ c) (hl : us.length = m * size)
 (hu : 0 < m → ∃ b off, A = some ⟨b, off, none⟩ ∧ ∀ j u, us[j]? = some u → w.cell? ⟨b, off + j, none⟩ = some u) (h1 : ∀ u ∈ us, u.oneCell' = true)
 (hn : (n + m) * bytes ≤ 140737488355328) (hm : n + m ≤ maxLen) (hbase : base ≤ w.heap.size)
 (h : ∀ v' w', w'.ownsRow base e size v' (n + m) (xs ++ us) → w.grownBy w' v.ownBlock → (v'.ownBlock = v.ownBlock ∨ v'.ownBlock = some w.heap.size) → wpList P ops Q rest (a.put o.dst v') w') : wpList P ops Q (o :: rest) a w := by
 obtain ⟨i, hi, hz, hsz, hby⟩ := E.hi
 rcases A with _ | ad
 ·have hc := hA rfl
  subst hc
  obtain rfl : m = 0 := by omega
  have hus : us = [] := List.eq_nil_of_length_eq_zero (by omega)
  subst hus
  exact wpList_append_own_none hgd s x t ho base e i size E.ht hi v n xs hs hown hx (h v w (by simpa using hown) (World.grownBy.refl w _) (.inl rfl))
 ·refine wpList_append_own_at w hgd s x t ho base e i z size bytes E.ht hi hz hsz hby E.hzs E.pos v n xs hs hown ad m c us hx hl ?_ h1 hm hn hbase fun v' w' h2 h3 _ h4 => h v' w' h2 h3 h4
  intro j u hj
  rcases Nat.eq_zero_or_pos m with h0 | h0
  ·subst h0
   have hus : us = [] := List.eq_nil_of_length_eq_zero (by omega)
   subst hus
   simp at hj
  ·obtain ⟨b, off, he, hc⟩ := hu h0
   injection he with he
   subst he
   have := hc j u hj
   unfold Addr.add
   split
   ·rename_i h0; subst h0; exact this
   ·simpa using this
end Go.Proofs.YtibcpdmeigdgpaaGreatDoor
namespace Go.Proofs.YtibcpdmeigdgpaaGreatDoor
open Go.RowKit
theorem someIs (t : T) (nm : ByteArray) (q : Nat) : ∃ b : Bool, b = true ↔ isT t nm.toList q := by
 by_cases h : isT t nm.toList q
 ·exact ⟨true, fun _ => h, fun _ => rfl⟩
 ·exact ⟨false, fun h1 => (by cases h1), fun h1 => absurd h1 h⟩
def T.callT : T → Prop
 | .nil => True
 | .mk k _ s m a => k ≠ 2 ∧ ((k = 3 ∨ k = 4) → s.toList = [44] → m = 2 → ∀ i, i < m → (a i).callT)
theorem comma_list : (⟨#[44]⟩ : ByteArray).toList = [44] := by rw [ByteArray.toList_eq]
end Go.Proofs.YtibcpdmeigdgpaaGreatDoor
namespace Go.Proofs.YtibcpdmeigdgpaaGreatDoor
open Go.RowKit
def nodesL (l : List T) : Nat := (l.map T.nodes).sum
theorem nodesL_app (a b : List T) : nodesL (a ++ b) = nodesL a + nodesL b := by simp [nodesL]
theorem nodesL_len : ∀ (l : List T), (∀ g ∈ l, g.good) → l.length ≤ nodesL l
 | [], _ => Nat.le_refl _
 | g :: l, h => by
  have h1 := (h g (by simp)).pos
  have h2 := nodesL_len l fun x hx => h x (by simp [hx])
  simp only [nodesL, List.map_cons, List.sum_cons, List.length_cons] at h2 ⊢
  omega
def GatK (t : T) (gs : List T) : Prop := (∀ g ∈ gs, g.nodes ≤ max t.nodes 2) ∧ (t.callT → ∀ g ∈ gs, g.kindC) ∧ gs.length ≤ t.nodes
theorem gat_nil (t : T) : GatK t [] := ⟨fun _ h => (by cases h), fun _ _ h => (by cases h), Nat.zero_le _⟩
theorem gat_app {n : Int} {s : ByteArray} {a : Nat → T} {l1 l2 : List T} (hs : s.toList = [44]) (h1 : GatK (a 0) l1) (h2 : GatK (a 1) l2) : GatK (.mk 4 n s 2 a) ([] ++ l1 ++ l2) := by
 have e : (T.mk 4 n s 2 a).nodes = 1 + (0 + (a 0).nodes + (a 1).nodes) := rfl
 refine ⟨fun g hg => ?_, fun hc g hg => ?_, by have := h1.2.2; have := h2.2.2; rw [e]; simp only [List.nil_append, List.length_append]; omega⟩
 ·rw [e]
  rcases List.mem_append.1 hg with hg | hg
  ·have := h1.1 g (by simpa using hg); omega
  ·have := h2.1 g hg; omega
 ·have ha := hc.2 (.inr rfl) hs rfl
  rcases List.mem_append.1 hg with hg | hg
  ·exact h1.2.1 (ha 0 (by omega)) g (by simpa using hg)
  ·exact h2.2.1 (ha 1 (by omega)) g hg
theorem gat_call {t : T} {nm : ByteArray} (ht : t.nodes = 1) : GatK t ([] ++ [T.mk 4 0 nm 1 fun _ => t]) := by
 refine ⟨fun g hg => ?_, fun _ g hg => ?_, by rw [ht]; simp⟩
 ·rw [List.nil_append, List.mem_singleton] at hg
  subst hg
  show 1 + (0 + t.nodes) ≤ _
  omega
 ·rw [List.nil_append, List.mem_singleton] at hg
  subst hg
  exact .inr rfl
theorem gat_one {k n : Int} {s : ByteArray} {m : Nat} {a : Nat → T} (hg : (T.mk k n s m a).good) (h1 : (k == 1) = false) : GatK (.mk k n s m a) ([] ++ [.mk k n s m a]) := by
 refine ⟨fun g hg => ?_, fun hc g hm => ?_, by have := hg.pos; simp; omega⟩
 ·rw [List.nil_append, List.mem_singleton] at hg
  subst hg
  omega
 ·rw [List.nil_append, List.mem_singleton] at hm
  subst hm
  have h1' : k ≠ 1 := by simpa using h1
  have h2 := hc.1
  have h3 := hg.kinds.1
  show k = 3 ∨ k = 4
  omega
def GatP (t : T) (S : Nat → Prop) (w : World) (e : Ending) (w' : World) : Prop :=
 (∃ (v : Value) (gs : List T) (P : Nat → Prop) (qs : List Q6), e = .returned v ∧ TL w' w.heap.size S P v gs qs ∧ (∀ g ∈ gs, g.good) ∧ nodesL gs ≤ 2 * t.nodes ∧ Hid (GatK t gs)) ∧ Below w.heap.size w w'
theorem call_good {t : T} (h : t.good) : (T.mk 4 0 ⟨#[99, 97, 108, 108]⟩ 1 fun _ => t).good := ⟨.inr (.inr (.inr ⟨rfl, rfl, by decide, by decide⟩)), fun _ _ => h⟩
theorem own_more {w : World} {B B' : Nat} {e : TypeId} {size : Nat} {v : Value} {n : Nat} {xs : List Value} (h : w.ownsRow B e size v n xs) (hB : B' ≤ B) : w.ownsRow B' e size v n xs := ownsRow_more h hB
theorem tp_one {w : World} {S P : Nat → Prop} {t : T} {q : Q6} {g : Nat} {f : Nat × Nat} {nm : ByteArray} (hg : w.heap[g]? = some (.cells q.cells.toArray 39 f)) (hP : P g) (ht : TP w S t q.val) :
 TP w (fun b => S b ∨ P b) (.mk 4 0 nm 1 fun _ => t) (.agg #[.int .i64 4, .int .i64 0, .string nm, .slice (some ⟨g, 0, none⟩) 1 1]) := by
 refine ⟨_, 1, rfl, Nat.le_refl _, (fun h => by cases h), fun _ => ⟨g, _, f, rfl, .inr hP, hg, fun i hi => ?_⟩⟩
 obtain rfl : i = 0 := by omega
 exact ⟨_, _, _, _, rfl, rfl, rfl, rfl, ht.more fun b hb => .inl hb⟩
set_option maxRecDepth 100000 in
set_option maxHeartbeats 8000000 in
theorem gather_any : ∀ (t : T), t.ok → ∀ (S : Nat → Prop) (v : Value) (w : World), (∀ b, S b → b < w.heap.size) → TP w S t v → Calls Tryz.prog 55 #[v] w fun e w' => GatP t S w e w' := by
 intro t
 induction t with
 | nil => exact fun _ _ _ _ _ h => h.elim
 | mk k n s m a ih =>
  intro hok S v w hN hv
  obtain ⟨q0, q1, q2, q3, q4, q5, rfl⟩ := hv.agg
  have HV := Lib.hid hv
  have HOK := Lib.hid hok
  have IH := Lib.hid ih
  have hm : m < 4000 := hok.few
  obtain ⟨W0, hW0⟩ : ∃ W0, W0 = (w.alloc (Obj.cells #[.int .i64 q0, .int .i64 q1, .string q2, .slice q3 q4 q5] 39)).alloc (Obj.cells #[] 39) := ⟨_, rfl⟩
  have hsz0 : W0.heap.size = w.heap.size + 2 := by rw [hW0]; simp
  have BX := Lib.hid (show Below w.heap.size w W0 by rw [hW0]; exact belA (belA (Below.refl w.heap.size w) _) _)
  have HB0 := Lib.hid (show W0.heap[w.heap.size]? = some (.cells #[.int .i64 q0, .int .i64 q1, .string q2, .slice q3 q4 q5] 39 (0, 0)) by
   rw [hW0]; exact (Below.heap_alloc _ _ _ (by simp)).trans (heap_alloc_new _ _))
  have O0 := Lib.hid (show W0.ownsRow w.heap.size 39 4 (.slice (some ⟨w.heap.size + 1, 0, none⟩) 0 0) 0 [] by
   have h1 : (w.alloc (Obj.cells #[.int .i64 q0, .int .i64 q1, .string q2, .slice q3 q4 q5] 39)).heap.size = w.heap.size + 1 := by simp
   rw [hW0, ← h1]
   exact own_more (ownsRow_empty _ _ _ _ (heap_alloc_new _ _)) (by simp))
  obtain ⟨b0, hb0⟩ := someIs (.mk k n s m a) ⟨#[44]⟩ 2
  have C0 := Lib.hid (is_any HOK.out (HV.out.below BX.out) ⟨#[44]⟩ 2 hb0)
  have HI := Lib.hid hb0
  clear hv hok ih hb0
  go_enter Tryz.func55, Tryz.ntmps55
  go_wp2_with fail
  rw [← hW0]
  have HW0 := Lib.hid hW0
  clear hW0
  refine C0.out.mono ?_
  rintro e w1 ⟨rfl, h1⟩
  have B1 := Lib.hid (BX.out.trans (h1.mono BX.out.size))
  have HB1 := Lib.hid ((h1.block w.heap.size (heap_lt HB0.out)).trans HB0.out)
  have hl1 := heap_lt HB1.out
  have hs1 := h1.size
  have O1 := Lib.hid (own_below O0.out h1)
  obtain ⟨x0, x1, x2, x3⟩ := box4t HB1.out
  clear h1 C0
  cases b0 with
  | true =>
   obtain ⟨k1, n1, s1, a1, he, hk1, hs1c⟩ := HI.out.mp rfl
   rw [comma_list] at hs1c
   injection he with e1 e2 e3 e4 e5
   subst e1; subst e2; subst e3; subst e4; subst e5
   have HSC := Lib.hid hs1c
   clear hs1c
   have hk4 : k = 4 := by
    rcases hk1 with h | h
    ·have := HOK.out.plain (by omega : k ≠ 4)
     omega
    ·exact h
   subst hk4
   obtain ⟨_, _, _, hqm, hmc, _, hargs⟩ := (HV.out.below B1.out).args
   obtain ⟨g, k0, k1', k2, A0, m0, c0, hA, _, hg, c0', c1', c2', c3', ht⟩ := hargs 0 (by omega)
   subst hA
   subst hqm
   have CI := Lib.hid (IH.out 0 (HOK.out.arg (by omega)) S _ w1 (fun b hb => by have := hN b hb; have := B1.out.size; omega) ht)
   clear hargs ht hk1
   have HNO := Lib.hid (show (T.mk 4 n s 2 a).nodes = 1 + (0 + (a 0).nodes + (a 1).nodes) from rfl)
   go_wp2_with fail
   refine CI.out.mono ?_
   rintro e w2 ⟨⟨v2, gs0, P0, qs0, rfl, htl, hgd, hnd, GK0⟩, h2⟩
   have hs2 := h2.size
   have O2 := Lib.hid (own_below O1.out h2)
   have HB2 := Lib.hid ((h2.block w.heap.size (heap_lt HB1.out)).trans HB1.out)
   have B2 := Lib.hid (B1.out.trans (h2.mono B1.out.size))
   have TL0 := Lib.hid htl
   have GD0 := Lib.hid hgd
   have ND0 := Lib.hid hnd
   have hf0 : gs0.length ≤ 8000 := by
    have h1 := nodesL_len gs0 hgd
    have h3 := HNO.out
    have h4 := HOK.out.2
    omega
   obtain ⟨A2, c2, rfl, hc2, hA2, hx2⟩ := htl.all
   have TLE := Lib.hid (TL.empty (S := S) O2.out hN)
   clear htl hgd hnd h2 CI
   go_wp2_with (at_builtin; go_must (refine wpList_append_at _ rfl _ _ _ rfl elTerm w.heap.size _ 0 [] rfl O2.out A2 gs0.length c2 (qCells qs0) rfl hA2 hc2 (by rw [qCells_length, TL0.out.len]) hx2 (qCells_small _) (by omega) (by unfold maxLen; omega) (by omega) ?_))
   intro v3 w3 hown3 hg3 hat3
   have TL3 := Lib.hid (TLE.out.app TL0.out.len (by rw [show ([] : List T).length + gs0.length = gs0.length from Nat.zero_add _]; exact hown3) hg3 hat3 TL0.out.tp (fun b hb => ⟨by have := (TL0.out.lo b hb).1; omega, (TL0.out.lo b hb).2⟩) (fun g hg hP => by
    simp [Value.ownBlock] at hg
    have := (TL0.out.lo g hP).1
    omega))
   have hs3 := hg3.size
   have HB3 := Lib.hid ((hg3.block w.heap.size (heap_lt HB2.out) (by simp [Value.ownBlock])).trans HB2.out)
   have hl3 := heap_lt HB3.out
   have B3 := Lib.hid (B2.out.grown hg3 (by omega) (by simp [Value.ownBlock]))
   clear hown3 hg3 hat3 hx2 x0 x1 x2 x3 TLE
   obtain ⟨x0, x1, x2, x3⟩ := box4t HB3.out
   obtain ⟨_, _, _, _, _, _, hargs⟩ := (HV.out.below B3.out).args
   obtain ⟨g', k0', k1'', k2', A0', m0', c0'', hA', _, hg', d0, d1, d2, d3, ht⟩ := hargs 1 (by omega)
   injection hA' with hA'
   injection hA' with hA' _
   subst hA'
   have CI := Lib.hid (IH.out 1 (HOK.out.arg (by omega)) S _ w3 (fun b hb => by have := hN b hb; have := B3.out.size; omega) ht)
   clear hargs ht
   go_wp2_with fail
   refine CI.out.mono ?_
   rintro e w4 ⟨⟨v4, gs1, P1, qs1, rfl, htl, hgd, hnd, GK1⟩, h4⟩
   have TL4 := Lib.hid htl
   have TLE := Lib.hid (TL3.out.below h4)
   have hf1 : gs1.length ≤ 8000 := by
    have h1 := nodesL_len gs1 hgd
    have h3 := HNO.out
    have h4 := HOK.out.2
    omega
   have HF := Lib.hid (show (∀ x ∈ [] ++ gs0 ++ gs1, x.good) ∧ nodesL ([] ++ gs0 ++ gs1) ≤ 2 * (T.mk 4 n s 2 a).nodes from ⟨fun x hx => by
    rcases List.mem_append.1 hx with hx | hx
    ·exact GD0.out x (by simpa using hx)
    ·exact hgd x hx, by
    rw [nodesL_app, List.nil_append, HNO.out]
    have := ND0.out
    omega⟩)
   have B4 := Lib.hid (B3.out.trans (h4.mono B3.out.size))
   have hs4 := h4.size
   obtain ⟨A4, c4, rfl, hc4, hA4, hx4⟩ := htl.all
   clear htl hgd hnd h4 CI x0 x1 x2 x3 d0 d1 d2 d3
   go_wp2_with (at_builtin; go_must (refine wpList_append_at _ rfl _ _ _ rfl elTerm w.heap.size _ _ _ rfl TLE.out.own A4 gs1.length c4 (qCells qs1) rfl hA4 hc4 (by rw [qCells_length, TL4.out.len]) hx4 (qCells_small _) (by simp; omega) (by unfold maxLen; simp; omega) (by omega) ?_))
   intro v5 w5 hown5 hg5 hat5
   have TL5 := Lib.hid (TLE.out.app TL4.out.len hown5 hg5 hat5 TL4.out.tp (fun b hb => ⟨by have := (TL4.out.lo b hb).1; omega, (TL4.out.lo b hb).2⟩) (fun g hg hP => by
    have h1 := (TL3.out.own.lt g hg).2
    have := (TL4.out.lo g hP).1
    omega))
   have B5 := Lib.hid (B4.out.grown hg5 (by omega) (ownBlock_ge TLE.out.own))
   clear hown5 hg5 hat5 hx4
   go_wp2_with fail
   go_ret
   exact ⟨⟨_, _, _, _, rfl, TL5.out, HF.out.1, HF.out.2, Lib.hid (gat_app HSC.out GK0.out GK1.out)⟩, B5.out⟩
  | false =>
   obtain ⟨b1, hb1⟩ := someIs (.mk k n s m a) ⟨#[116, 114, 117, 101]⟩ 0
   have C1 := Lib.hid (is_any HOK.out (HV.out.below B1.out) ⟨#[116, 114, 117, 101]⟩ 0 hb1)
   clear hb1
   go_wp2_with fail
   refine C1.out.mono ?_
   rintro e w2 ⟨rfl, h2⟩
   have B2 := Lib.hid (B1.out.trans (h2.mono B1.out.size))
   have HB2 := Lib.hid ((h2.block w.heap.size (heap_lt HB1.out)).trans HB1.out)
   have hl2 := heap_lt HB2.out
   have hs2 := h2.size
   have O2 := Lib.hid (own_below O1.out h2)
   have HV2 := Lib.hid (HV.out.below B2.out)
   clear h2 C1 x0 x1 x2 x3
   obtain ⟨x0, x1, x2, x3⟩ := box4t HB2.out
   cases b1 with
   | true =>
    go_wp2_with fail
    go_ret
    exact ⟨⟨_, [], _, [], rfl, TL.empty O2.out hN, by simp, by simp [nodesL], Lib.hid (gat_nil _)⟩, B2.out⟩
   | false =>
    obtain ⟨e0, e1, e2, e4, _, _, _⟩ := HV.out.args
    injection e0 with _ e0
    injection e1 with _ e1
    injection e2 with e2
    subst e0; subst e1; subst e2; subst e4
    cases h1 : (q0 == 1) with
    | true =>
     have HN1 := Lib.hid (show (T.mk q0 q1 q2 q4 a).nodes = 1 by
      have h0 : q4 = 0 := HOK.out.plain (by have : q0 = 1 := (by simpa using h1); omega)
      subst h0
      exact leaf_nodes _ _ _ _)
     have HG := Lib.hid (show (∀ x ∈ [] ++ [T.mk 4 0 ⟨#[99, 97, 108, 108]⟩ 1 fun _ => T.mk q0 q1 q2 q4 a], x.good) ∧ nodesL ([] ++ [T.mk 4 0 ⟨#[99, 97, 108, 108]⟩ 1 fun _ => T.mk q0 q1 q2 q4 a]) ≤ 2 * (T.mk q0 q1 q2 q4 a).nodes from ⟨fun x hx => by
      simp at hx; subst hx; exact call_good HOK.out.1, by
      have h0 : q4 = 0 := HOK.out.plain (by have : q0 = 1 := (by simpa using h1); omega)
      subst h0
      simp [nodesL, T.nodes, sumTo]⟩)
     obtain ⟨W1, hW1⟩ : ∃ W1, W1 = (w2.alloc (Obj.cells #[.int .i64 q0, .int .i64 q1, .string q2, .slice q3 q4 q5] 39)).alloc (Obj.cells #[.int .i64 4, .int .i64 0, .string ⟨#[99, 97, 108, 108]⟩, .slice (some ⟨w2.heap.size, 0, none⟩) 1 1] 39) := ⟨_, rfl⟩
     have hz1 : W1.heap.size = w2.heap.size + 2 := by rw [hW1]; simp
     have HW1 := Lib.hid hW1
     have BW := Lib.hid (show Below w2.heap.size w2 W1 by rw [hW1]; exact ((Below.refl _ _).alloc (Nat.le_refl _) _).alloc (by simp) _)
     have hg1 := Lib.hid (show W1.heap[w2.heap.size]? = some (.cells (Q6.cells ⟨q0, q1, q2, q3, q4, q5⟩).toArray 39 (0, 0)) by
      rw [hW1]; exact (Below.heap_alloc _ _ _ (by simp)).trans (heap_alloc_new _ _))
     have hg2 := Lib.hid (show W1.heap[w2.heap.size + 1]? = some (.cells (Q6.cells ⟨4, 0, ⟨#[99, 97, 108, 108]⟩, some ⟨w2.heap.size, 0, none⟩, 1, 1⟩).toArray 39 (0, 0)) by
      have h1 : (w2.alloc (Obj.cells #[.int .i64 q0, .int .i64 q1, .string q2, .slice q3 q4 q5] 39)).heap.size = w2.heap.size + 1 := by simp
      rw [hW1, ← h1]
      exact heap_alloc_new _ _)
     have OW := Lib.hid (own_below O2.out BW.out)
     have TPW := Lib.hid (tp_one (P := fun b => b = w2.heap.size) (nm := ⟨#[99, 97, 108, 108]⟩) hg1.out rfl (HV2.out.below BW.out))
     clear hW1
     go_wp2_with (at_builtin; rw [← HW1.out]; go_must (refine wpList_append_at _ rfl _ _ _ rfl elTerm w.heap.size _ 0 [] rfl OW.out (some ⟨w2.heap.size + 1, 0, none⟩) 1 1 (qCells [⟨4, 0, ⟨#[99, 97, 108, 108]⟩, some ⟨w2.heap.size, 0, none⟩, 1, 1⟩]) rfl (fun h => by cases h) (Nat.le_refl _) (by rw [qCells_length]; rfl) (fun _ => ⟨_, 0, rfl, fun j u hu => ?_⟩) (qCells_small _) (by omega) (by unfold maxLen; omega) (by omega) ?_))
     ·rw [Nat.zero_add, cell_of_row _ _ j _ _ _ hg2.out]
      simpa [qCells] using hu
     intro v3 w3 hown3 hg3 hat3
     have TL3 := Lib.hid ((TL.empty (S := S) OW.out hN).app (P2 := fun b => b = w2.heap.size) (l2 := [T.mk 4 0 ⟨#[99, 97, 108, 108]⟩ 1 fun _ => T.mk q0 q1 q2 q4 a]) (q2 := [⟨4, 0, ⟨#[99, 97, 108, 108]⟩, some ⟨w2.heap.size, 0, none⟩, 1, 1⟩]) rfl hown3 hg3 (by rw [hz1]; exact hat3) (fun i h h' => by
      obtain rfl : i = 0 := by simpa using h
      exact TPW.out) (fun b hb => by subst hb; omega) (fun g hg hP => by
      simp [Value.ownBlock] at hg
      omega))
     have B3 := Lib.hid ((B2.out.trans (BW.out.mono B2.out.size)).grown hg3 (by omega) (by simp [Value.ownBlock]))
     clear hown3 hg3 hat3
     go_wp2_with fail
     go_ret
     exact ⟨⟨_, _, _, _, rfl, TL3.out, HG.out.1, HG.out.2, Lib.hid (gat_call HN1.out)⟩, B3.out⟩
    | false =>
     have H1F := Lib.hid h1
     have HG := Lib.hid (show (∀ x ∈ [] ++ [T.mk q0 q1 q2 q4 a], x.good) ∧ nodesL ([] ++ [T.mk q0 q1 q2 q4 a]) ≤ 2 * (T.mk q0 q1 q2 q4 a).nodes from ⟨fun x hx => by
      simp at hx; subst hx; exact HOK.out.1, by
      simp [nodesL]; omega⟩)
     obtain ⟨W1, hW1⟩ : ∃ W1, W1 = w2.alloc (Obj.cells #[.int .i64 q0, .int .i64 q1, .string q2, .slice q3 q4 q5] 39) := ⟨_, rfl⟩
     have hz1 : W1.heap.size = w2.heap.size + 1 := by rw [hW1]; simp
     have HW1 := Lib.hid hW1
     have BW := Lib.hid (show Below w2.heap.size w2 W1 by rw [hW1]; exact (Below.refl _ _).alloc (Nat.le_refl _) _)
     have hg1 := Lib.hid (show W1.heap[w2.heap.size]? = some (.cells (Q6.cells ⟨q0, q1, q2, q3, q4, q5⟩).toArray 39 (0, 0)) by
      rw [hW1]; exact heap_alloc_new _ _)
     have OW := Lib.hid (own_below O2.out BW.out)
     have TPW := Lib.hid ((HV2.out.below BW.out).more (S' := fun b => S b ∨ False) fun b hb => .inl hb)
     clear hW1
     go_wp2_with (at_builtin; rw [← HW1.out]; go_must (refine wpList_append_at _ rfl _ _ _ rfl elTerm w.heap.size _ 0 [] rfl OW.out (some ⟨w2.heap.size, 0, none⟩) 1 1 (qCells [⟨q0, q1, q2, q3, q4, q5⟩]) rfl (fun h => by cases h) (Nat.le_refl _) (by rw [qCells_length]; rfl) (fun _ => ⟨_, 0, rfl, fun j u hu => ?_⟩) (qCells_small _) (by omega) (by unfold maxLen; omega) (by omega) ?_))
     ·rw [Nat.zero_add, cell_of_row _ _ j _ _ _ hg1.out]
      simpa [qCells] using hu
     intro v3 w3 hown3 hg3 hat3
     have TL3 := Lib.hid ((TL.empty (S := S) OW.out hN).app (P2 := fun _ => False) (l2 := [T.mk q0 q1 q2 q4 a]) (q2 := [⟨q0, q1, q2, q3, q4, q5⟩]) rfl hown3 hg3 (by rw [hz1]; exact hat3) (fun i h h' => by
      obtain rfl : i = 0 := by simpa using h
      exact TPW.out) (fun b hb => hb.elim) (fun g hg hP => hP))
     have B3 := Lib.hid ((B2.out.trans (BW.out.mono B2.out.size)).grown hg3 (by omega) (by simp [Value.ownBlock]))
     clear hown3 hg3 hat3
     go_wp2_with fail
     go_ret
     exact ⟨⟨_, _, _, _, rfl, TL3.out, HG.out.1, HG.out.2, Lib.hid (gat_one HOK.out.1 H1F.out)⟩, B3.out⟩
end Go.Proofs.YtibcpdmeigdgpaaGreatDoor
