/- The program's parser: a term: the stack of pending operators. -/
import Derived.Test.YtlogcealmiokkaaGreatDoorKRqf
import Derived.Test.YtlogcealmiokkaaGreatDoorKRd12
import Derived.Test.YtlogcealmiokkaaGreatDoorKRowOps
import Derived.Lib.OwnKind
namespace Go.Proofs.YtlogcealmiokkaaGreatDoor
open Go.RowKit
structure PE where
 nm : ByteArray
 lt : T
 k0 : Int
 k1 : Int
 k2 : ByteArray
 ka : Option Addr
 km : Nat
 kc : Nat
 p : Int
 outer : Int
 f : Nat
def PE.cells (e : PE) : List Value := [.string e.nm, .int .i64 e.k0, .int .i64 e.k1, .string e.k2, .slice e.ka e.km e.kc, .int .i64 e.p, .int .i64 e.outer]
def stCells : List PE → List Value
 | [] => []
 | e :: S => stCells S ++ e.cells
theorem st_len : ∀ S : List PE, (stCells S).length = S.length * 7
 | [] => rfl
 | e :: S => by simp [stCells, st_len S, PE.cells]; omega
def unw (tk : List Tk) (sz d : Nat) : List PE → PR T → PR T
 | [], r => r
 | e :: S, r => unw tk sz d S (r.andThen fun t2 j' ns' => infixC tk sz (termP tk sz (d - 1 - S.length)) e.outer e.f (twoT e.nm e.lt t2) e.p j' ns')
theorem unw_err (tk : List Tk) (sz d : Nat) (pk : Int × Int) : ∀ S : List PE, unw tk sz d S (.error pk) = .error pk
 | [] => rfl
 | _ :: S => unw_err tk sz d pk S
theorem own_fr {c : Rdc} {w w' : World} {j : Nat} {ns : List ByteArray} (h : Frp c w w') (hr : Pd w c j ns) {B k n : Nat} {t : TypeId} {v : Value} {xs : List Value} (ho : w.ownsRow B t k v n xs) (h1 : t ≠ 9) (h2 : t ≠ 53) : w'.ownsRow B t k v n xs :=
 own_keep ho fun g hg => by
  obtain ⟨cs, f, hh⟩ := Go.Lib.ownsRow_kind ho g hg
  exact (h.boxp hr hh h1 h2).trans hh.symm
structure TmM (c : Rdc) (w W : World) (D j : Nat) (S : List PE) (t : T) (a0 a1 : Int) (a2 : ByteArray) (a3 : Option Addr) (a4 a5 : Nat) (most : Int) (ns : List ByteArray) (sA : Option Addr) (cc tb : Nat) : Prop where
 cb : Cb W c (w.heap.size + 1 + 1) (w.heap.size + 1 + 1 + 1 + 1) w.heap.size (w.heap.size + 1) (D : Int) most (.slice sA S.length cc)
 res : W.heap[w.heap.size + 1 + 1 + 1]? = some (.cells #[.int .i64 0, .int .i64 0, .string ⟨#[]⟩, .slice none 0 0] 31 (0, 0))
 tbox : W.heap[tb]? = some (.cells #[.int .i64 a0, .int .i64 a1, .string a2, .slice a3 a4 a5] 31 (0, 0))
 htb : w.heap.size + 5 ≤ tb
 ht : TP W (fun q => w.heap.size + 5 ≤ q ∧ q ≠ tb) t (.agg #[.int .i64 a0, .int .i64 a1, .string a2, .slice a3 a4 a5])
 row : W.ownsRow (w.heap.size + 5) 88 7 (.slice sA S.length cc) S.length (stCells S)
 st : ∀ e ∈ S, TP W (fun q => w.heap.size + 5 ≤ q ∧ q ≠ tb) e.lt (.agg #[.int .i64 e.k0, .int .i64 e.k1, .string e.k2, .slice e.ka e.km e.kc])
 rd : Pd W c j ns
 fr : Frp c w W
theorem TmM.stand {c : Rdc} {w W W1 : World} {D j j1 : Nat} {S : List PE} {t : T} {a0 a1 : Int} {a2 : ByteArray} {a3 : Option Addr} {a4 a5 : Nat} {most : Int} {ns ns1 : List ByteArray} {sA : Option Addr} {cc tb : Nat} (h : TmM c w W D j S t a0 a1 a2 a3 a4 a5 most ns sA cc tb)
 (f : Frp c W W1) (hr : Pd W1 c j1 ns1) : TmM c w W1 D j1 S t a0 a1 a2 a3 a4 a5 most ns1 sA cc tb :=
 ⟨h.cb.fr f h.rd, f.boxp h.rd h.res (by decide) (by decide), f.boxp h.rd h.tbox (by decide) (by decide), h.htb, h.ht.frp f h.rd, own_fr f h.rd h.row (by decide) (by decide), fun e he => (h.st e he).frp f h.rd, hr, h.fr.trans f⟩
theorem own_neP {w : World} {B k n : Nat} {T0 : TypeId} {v : Value} {xs : List Value} (h : w.ownsRow B T0 k v n xs) {b : Nat} {cs : Array Value} {t : TypeId} {m : Nat × Nat} (hb : w.heap[b]? = some (.cells cs t m)) (ht : t ≠ T0) : some b ≠ v.ownBlock := by
 intro e
 obtain ⟨cs', f, hh⟩ := Go.Lib.ownsRow_kind h b e.symm
 rw [hb] at hh
 injection hh with hh
 injection hh with _ hh
 exact ht hh
theorem Pd.keyT {c : Rdc} {W W' : World} {j : Nat} {ns : List ByteArray} (h : Pd W c j ns) (key : ∀ (b : Nat) (cs : Array Value) (t : TypeId) (m : Nat × Nat), W.heap[b]? = some (.cells cs t m) → t ≠ 88 → W'.heap[b]? = some (.cells cs t m)) : Pd W' c j ns := by
 obtain ⟨ht, hf, lv, nv, nn, hrw⟩ := h
 refine ⟨ht.keep fun b cs hb => (key b cs _ _ hb (by decide)).trans hb.symm, hf, lv, nv, nn, key _ _ _ _ hrw.blk (by decide), hrw.lok, own_keep hrw.own fun q hq => ?_, hrw.up, hrw.few⟩
 obtain ⟨cs, f, hh⟩ := Go.Lib.ownsRow_kind hrw.own q hq
 exact (key _ _ _ _ hh (by decide)).trans hh.symm
theorem heap_ne {w : World} {a b : Nat} {cs cs' : Array Value} {t t' : TypeId} {m m' : Nat × Nat} (h : w.heap[a]? = some (.cells cs t m)) (h' : w.heap[b]? = some (.cells cs' t' m')) (hn : t ≠ t') : a ≠ b := by
 rintro rfl
 rw [h] at h'
 injection h' with h'
 injection h' with _ h'
 exact hn h'
theorem TmM.pushed {c : Rdc} {w W W1 W2 : World} {D j : Nat} {S : List PE} {t : T} {a0 a1 : Int} {a2 : ByteArray} {a3 : Option Addr} {a4 a5 : Nat} {most : Int} {ns : List ByteArray} {sA A1 : Option Addr} {cc c1 tb : Nat} (h : TmM c w W D j S t a0 a1 a2 a3 a4 a5 most ns sA cc tb) (hB : c.B ≤ w.heap.size)
 (hb : Below W.heap.size W W1) (hg : W1.grownBy W2 (Value.slice sA S.length cc).ownBlock) (nm : ByteArray) (p right : Int) (f : Nat)
 (hown : W2.ownsRow (w.heap.size + 5) 88 7 (.slice A1 (S.length + 1) c1) (S.length + 1) (stCells S ++ [.string nm, .int .i64 a0, .int .i64 a1, .string a2, .slice a3 a4 a5, .int .i64 p, .int .i64 most])) :
 TmM c w ((W2.setCell ⟨w.heap.size + 1 + 1 + 1 + 1, 0, none⟩ (.slice A1 (S.length + 1) c1)).setCell ⟨w.heap.size + 1, 0, none⟩ (.int .i64 right)) D j (⟨nm, t, a0, a1, a2, a3, a4, a5, p, most, f⟩ :: S) t a0 a1 a2 a3 a4 a5 right ns A1 c1 tb := by
 have row1 := own_below h.row hb
 have key : ∀ (b : Nat) (cs : Array Value) (t : TypeId) (m : Nat × Nat), W.heap[b]? = some (.cells cs t m) → t ≠ 88 → W2.heap[b]? = some (.cells cs t m) := fun b cs t m hb' ht => by
  have h1 := (hb.block b (heap_lt hb')).trans hb'
  exact (hg.block b (heap_lt h1) (own_neP row1 h1 ht)).trans h1
 have hs2 := key _ _ _ _ h.cb.hs (by decide)
 have hm2 := key _ _ _ _ h.cb.hm (by decide)
 have hm3 : (W2.setCell ⟨w.heap.size + 1 + 1 + 1 + 1, 0, none⟩ (.slice A1 (S.length + 1) c1)).heap[w.heap.size + 1]? = some (.cells #[.int .i64 most] 3 (0, 0)) := (Below.heap_setCell _ _ _ _ (by show w.heap.size + 1 ≠ w.heap.size + 1 + 1 + 1 + 1; omega)).trans hm2
 have far : ∀ b, b ≠ w.heap.size + 1 + 1 + 1 + 1 → b ≠ w.heap.size + 1 → ((W2.setCell ⟨w.heap.size + 1 + 1 + 1 + 1, 0, none⟩ (.slice A1 (S.length + 1) c1)).setCell ⟨w.heap.size + 1, 0, none⟩ (.int .i64 right)).heap[b]? = W2.heap[b]? := fun b h1 h2 => (Below.heap_setCell _ _ _ _ h2).trans (Below.heap_setCell _ _ _ _ h1)
 have htb := h.htb
 have tpk : ∀ {t : T} {v : Value}, TP W (fun q => w.heap.size + 5 ≤ q ∧ q ≠ tb) t v → TP ((W2.setCell ⟨w.heap.size + 1 + 1 + 1 + 1, 0, none⟩ (.slice A1 (S.length + 1) c1)).setCell ⟨w.heap.size + 1, 0, none⟩ (.int .i64 right)) (fun q => w.heap.size + 5 ≤ q ∧ q ≠ tb) t v := fun ht => ht.keep fun b cs f hS hb => ⟨(far b (by omega) (by omega)).trans (key b cs _ f hb (by decide)), hS⟩
 refine ⟨⟨(far _ (by omega) (by omega)).trans (key _ _ _ _ h.cb.hd (by decide)), (Below.heap_setCell _ _ _ _ (by show w.heap.size + 1 + 1 + 1 + 1 ≠ w.heap.size + 1; omega)).trans (by simpa using blk_set hs2 0 (.slice A1 (S.length + 1) c1)), (far _ (by omega) (by omega)).trans (key _ _ _ _ h.cb.hr (by decide)), by simpa using blk_set hm3 0 (.int .i64 right)⟩,
  (far _ (by omega) (by omega)).trans (key _ _ _ _ h.res (by decide)), (far _ (by omega) (by omega)).trans (key _ _ _ _ h.tbox (by decide)), htb, tpk h.ht, own_keep hown fun q hq => ?_, fun e he => ?_, ((h.rd.keyT key).set_far hs2 0 _ (by decide) (by decide) (by decide)).set_far hm3 0 _ (by decide) (by decide) (by decide), ?_⟩
 ·obtain ⟨cs, f, hh⟩ := Go.Lib.ownsRow_kind hown q hq
  exact far q (heap_ne hh hs2 (by decide)) (heap_ne hh hm2 (by decide))
 ·rcases List.mem_cons.1 he with rfl | he
  ·exact tpk h.ht
  ·exact tpk (h.st e he)
 ·refine ⟨(((h.fr.low.trans (hb.mono h.rd.base)).grown hg (Nat.le_trans h.rd.base hb.size) fun k e => ?_).setCell (p := ⟨w.heap.size + 1 + 1 + 1 + 1, 0, none⟩) (by show c.B ≤ w.heap.size + 1 + 1 + 1 + 1; omega) _).setCell (p := ⟨w.heap.size + 1, 0, none⟩) (by show c.B ≤ w.heap.size + 1; omega) _, fun b cs t m hb' h1 h2 => ?_⟩
  ·have := (h.row.lt k e).1
   omega
  ·have hl := heap_lt hb'
   have h3 := h.fr.keep b cs t m hb' h1 h2
   have h4 := (hb.block b (heap_lt h3)).trans h3
   refine (far b (by omega) (by omega)).trans ((hg.block b (heap_lt h4) fun e => ?_).trans h4)
   have := (h.row.lt b e.symm).1
   omega
theorem TmM.popped {c : Rdc} {w W W1 : World} {D j : Nat} {S : List PE} {e : PE} {t t' : T} {a0 a1 b0 b1 : Int} {a2 b2 : ByteArray} {a3 b3 : Option Addr} {a4 a5 b4 b5 : Nat} {most : Int} {ns : List ByteArray} {sA : Option Addr} {cc tb : Nat} (h : TmM c w W D j (e :: S) t a0 a1 a2 a3 a4 a5 most ns sA cc tb) (hB : c.B ≤ w.heap.size)
 (hb : Below (W.setCell ⟨w.heap.size + 1 + 1 + 1 + 1, 0, none⟩ (.slice sA S.length cc)).heap.size (W.setCell ⟨w.heap.size + 1 + 1 + 1 + 1, 0, none⟩ (.slice sA S.length cc)) W1)
 (ht : TP W1 (fun q => (w.heap.size + 5 ≤ q ∧ q ≠ tb) ∨ W.heap.size ≤ q) t' (.agg #[.int .i64 b0, .int .i64 b1, .string b2, .slice b3 b4 b5])) :
 TmM c w (((((W1.setCell ⟨tb, 0, none⟩ (.int .i64 b0)).setCell ⟨tb, 1, none⟩ (.int .i64 b1)).setCell ⟨tb, 2, none⟩ (.string b2)).setCell ⟨tb, 3, none⟩ (.slice b3 b4 b5)).setCell ⟨w.heap.size + 1, 0, none⟩ (.int .i64 e.outer)) D j S t' b0 b1 b2 b3 b4 b5 e.outer ns sA cc tb := by
 have htb := h.htb
 have key : ∀ (b : Nat) (cs : Array Value) (t : TypeId) (m : Nat × Nat), W.heap[b]? = some (.cells cs t m) → b ≠ w.heap.size + 1 + 1 + 1 + 1 → W1.heap[b]? = some (.cells cs t m) := fun b cs t m hb' hne => by
  have h1 := (Below.heap_setCell W ⟨w.heap.size + 1 + 1 + 1 + 1, 0, none⟩ (.slice sA S.length cc) b hne).trans hb'
  exact (hb.block b (heap_lt h1)).trans h1
 have hs1 : W1.heap[w.heap.size + 1 + 1 + 1 + 1]? = some (.cells #[.slice sA S.length cc] 85 (0, 0)) := by
  have h1 : (W.setCell ⟨w.heap.size + 1 + 1 + 1 + 1, 0, none⟩ (.slice sA S.length cc)).heap[w.heap.size + 1 + 1 + 1 + 1]? = some (.cells #[.slice sA S.length cc] 85 (0, 0)) := by simpa using blk_set h.cb.hs 0 (.slice sA S.length cc)
  exact (hb.block _ (heap_lt h1)).trans h1
 have hm1 := key _ _ _ _ h.cb.hm (by omega)
 have htb1 := key _ _ _ _ h.tbox (by omega)
 obtain ⟨P0, P1, P2, P3⟩ := box_put4 htb1 (.int .i64 b0) (.int .i64 b1) (.string b2) (.slice b3 b4 b5) rfl
 have hm2 := (P2 (w.heap.size + 1) (by omega)).trans hm1
 have far : ∀ b, b ≠ tb → b ≠ w.heap.size + 1 → (((((W1.setCell ⟨tb, 0, none⟩ (.int .i64 b0)).setCell ⟨tb, 1, none⟩ (.int .i64 b1)).setCell ⟨tb, 2, none⟩ (.string b2)).setCell ⟨tb, 3, none⟩ (.slice b3 b4 b5)).setCell ⟨w.heap.size + 1, 0, none⟩ (.int .i64 e.outer)).heap[b]? = W1.heap[b]? := fun b h1 h2 => (Below.heap_setCell _ _ _ _ h2).trans (P2 b h1)
 have row0 := ownsRow_take h.row (k := S.length) (by simp)
 have hcut : (stCells (e :: S)).take (S.length * 7) = stCells S := by
  show (stCells S ++ e.cells).take _ = _
  rw [← st_len S, List.take_left]
 rw [hcut] at row0
 have hlt := heap_lt h.tbox
 have rowk : ∀ q, (Value.slice sA S.length cc).ownBlock = some q → W1.heap[q]? = W.heap[q]? ∧ q ≠ tb ∧ q ≠ w.heap.size + 1 := fun q hq => by
  obtain ⟨cs, f, hh⟩ := Go.Lib.ownsRow_kind row0 q hq
  exact ⟨(key _ _ _ _ hh (heap_ne hh h.cb.hs (by decide))).trans hh.symm, heap_ne hh h.tbox (by decide), heap_ne hh h.cb.hm (by decide)⟩
 have hpd1 : Pd W1 c j ns := by
  have h1 := h.rd.set_far h.cb.hs 0 (.slice sA S.length cc) (by decide) (by decide) (by decide)
  exact h1.below hb
 refine ⟨⟨(far _ (by omega) (by omega)).trans (key _ _ _ _ h.cb.hd (by omega)), (far _ (by omega) (by omega)).trans hs1, (far _ (by omega) (by omega)).trans (key _ _ _ _ h.cb.hr (by omega)), by simpa using blk_set hm2 0 (.int .i64 e.outer)⟩,
  (far _ (by omega) (by omega)).trans (key _ _ _ _ h.res (by omega)), (Below.heap_setCell _ _ _ _ (by show tb ≠ w.heap.size + 1; omega)).trans P0, htb, ?_, own_keep row0 fun q hq => (far q (rowk q hq).2.1 (rowk q hq).2.2).trans (rowk q hq).1, fun e' he => ?_, (hpd1.putT htb1 _ _ _ _).set_far hm2 0 _ (by decide) (by decide) (by decide), ?_⟩
 ·refine (ht.keep (S' := fun q => (w.heap.size + 5 ≤ q ∧ q ≠ tb) ∨ W.heap.size ≤ q) fun b cs f hS hb' => ⟨(far b ?_ ?_).trans hb', hS⟩).more fun b hS => ?_
  ·rcases hS with hS | hS
   ·exact hS.2
   ·omega
  ·have := h.fr.size
   rcases hS with hS | hS <;> omega
  ·have := h.fr.size
   rcases hS with hS | hS
   ·exact hS
   ·exact ⟨by omega, by omega⟩
 ·exact (h.st e' (List.mem_cons_of_mem _ he)).keep fun b cs f hS hb' => ⟨(far b hS.2 (by omega)).trans (key b cs _ f hb' (by omega)), hS⟩
 ·have hsz := h.fr.size
  have low0 : Below c.B w W1 := (h.fr.low.setCell (p := ⟨w.heap.size + 1 + 1 + 1 + 1, 0, none⟩) (by show c.B ≤ w.heap.size + 1 + 1 + 1 + 1; omega) _).trans (hb.mono (by simp; omega))
  refine ⟨(P3 _ _ (by omega) low0).setCell (p := ⟨w.heap.size + 1, 0, none⟩) (by show c.B ≤ w.heap.size + 1; omega) _, fun b cs t m hb' h1 h2 => ?_⟩
  have hl := heap_lt hb'
  exact (far b (by omega) (by omega)).trans (key b cs t m (h.fr.keep b cs t m hb' h1 h2) (by omega))
structure TmK (c : Rdc) (d i j : Nat) (S : List PE) (t : T) (most prio : Int) (ns : List ByteArray) (RS : PR T) : Prop where
 gd : t.good
 gs : ∀ e ∈ S, e.lt.good ∧ nameOk e.nm ∧ c.tn ≤ j + e.f
 nod : i + t.nodes + (S.map fun e => e.lt.nodes + 1).sum ≤ j
 len : S.length + 1 ≤ d
 eq : ∃ f, c.tn ≤ j + f ∧ RS = unw c.tk c.s.size d S (infixC c.tk c.s.size (termP c.tk c.s.size (d - 1 - S.length)) most f t prio j ns)
def stLen (b : Nat) (w : World) : Nat := match w.cell? ⟨b, 0, none⟩ with | some (.slice _ n _) => n | _ => 0
theorem TmM.len_eq {c : Rdc} {w W : World} {D j : Nat} {S : List PE} {t : T} {a0 a1 : Int} {a2 : ByteArray} {a3 : Option Addr} {a4 a5 : Nat} {most : Int} {ns : List ByteArray} {sA : Option Addr} {cc tb : Nat} (h : TmM c w W D j S t a0 a1 a2 a3 a4 a5 most ns sA cc tb) : stLen (w.heap.size + 1 + 1 + 1 + 1) W = S.length := by
 have := h.cb.cells.2.1
 simp [stLen, this]
theorem five_boxes (w W5 : World) (v0 v1 v2 v4 : Value) (z0 z1 z2 z3 : Value) {t0 t1 t2 t3 t4 : TypeId} (h : (((((w.alloc (Obj.cells #[v0] t0)).alloc (Obj.cells #[v1] t1)).alloc (Obj.cells #[v2] t2)).alloc (Obj.cells #[z0, z1, z2, z3] t3)).alloc (Obj.cells #[v4] t4)) = W5) :
 W5.heap.size = w.heap.size + 5 ∧ W5.heap[w.heap.size]? = some (.cells #[v0] t0 (0, 0)) ∧ W5.heap[w.heap.size + 1]? = some (.cells #[v1] t1 (0, 0)) ∧ W5.heap[w.heap.size + 1 + 1]? = some (.cells #[v2] t2 (0, 0)) ∧ W5.heap[w.heap.size + 1 + 1 + 1]? = some (.cells #[z0, z1, z2, z3] t3 (0, 0)) ∧ W5.heap[w.heap.size + 1 + 1 + 1 + 1]? = some (.cells #[v4] t4 (0, 0)) ∧ Below w.heap.size w W5 := by
 subst h
 have st : ∀ (u : World) (o o' : Obj) (g : Nat), u.heap[g]? = some o' → (u.alloc o).heap[g]? = some o' := fun u o o' g h => (Below.heap_alloc _ _ _ (heap_lt h)).trans h
 have nw : ∀ (u : World) (o : Obj) (g : Nat), g = u.heap.size → (u.alloc o).heap[g]? = some o := fun u o g h => heap_at u o h
 exact ⟨by simp, st _ _ _ _ (st _ _ _ _ (st _ _ _ _ (st _ _ _ _ (nw _ _ _ rfl)))), st _ _ _ _ (st _ _ _ _ (st _ _ _ _ (nw _ _ _ (by simp)))), st _ _ _ _ (st _ _ _ _ (nw _ _ _ (by simp))), st _ _ _ _ (nw _ _ _ (by simp)), nw _ _ _ (by simp), belP (belP (belP (belP (belP (Below.refl _ _) _) _) _) _) _⟩
theorem el_info : (Tryz.prog.info? 88).map (fun i => (i.zero, i.size, i.bytes)) = some (some (.agg #[.string ⟨#[]⟩, .int .i64 0, .int .i64 0, .string ⟨#[]⟩, .slice none 0 0, .int .i64 0, .int .i64 0]), 7, 88) := by kernel_rfl
theorem elPend : El Tryz.prog 85 88 (.agg #[.string ⟨#[]⟩, .int .i64 0, .int .i64 0, .string ⟨#[]⟩, .slice none 0 0, .int .i64 0, .int .i64 0]) 7 88 := by
 obtain ⟨i0, hi, hz0, hz1, hz2⟩ := info_parts el_info
 exact ⟨Tryz.underlying85, ⟨i0, hi, hz0, hz1, hz2⟩, rfl, by omega⟩
theorem TmM.put {c : Rdc} {w W : World} {D j : Nat} {S : List PE} {t t' : T} {a0 a1 b0 b1 : Int} {a2 b2 : ByteArray} {a3 b3 : Option Addr} {a4 a5 b4 b5 : Nat} {most : Int} {ns : List ByteArray} {sA : Option Addr} {cc tb : Nat} (h : TmM c w W D j S t a0 a1 a2 a3 a4 a5 most ns sA cc tb) (hB : c.B ≤ w.heap.size)
 (ht : TP W (fun q => w.heap.size + 5 ≤ q ∧ q ≠ tb) t' (.agg #[.int .i64 b0, .int .i64 b1, .string b2, .slice b3 b4 b5])) :
 TmM c w ((((W.setCell ⟨tb, 0, none⟩ (.int .i64 b0)).setCell ⟨tb, 1, none⟩ (.int .i64 b1)).setCell ⟨tb, 2, none⟩ (.string b2)).setCell ⟨tb, 3, none⟩ (.slice b3 b4 b5)) D j S t' b0 b1 b2 b3 b4 b5 most ns sA cc tb := by
 have htb := h.htb
 obtain ⟨P0, P1, P2, P3⟩ := box_put4 h.tbox (.int .i64 b0) (.int .i64 b1) (.string b2) (.slice b3 b4 b5) rfl
 refine ⟨⟨(P2 _ (by omega)).trans h.cb.hd, (P2 _ (by omega)).trans h.cb.hs, (P2 _ (by omega)).trans h.cb.hr, (P2 _ (by omega)).trans h.cb.hm⟩, (P2 _ (by omega)).trans h.res, P0, htb, tp_put h.tbox _ _ _ _ ht fun b hb => hb.2, own_keep h.row fun q hq => ?_, fun e he => tp_put h.tbox _ _ _ _ (h.st e he) fun b hb => hb.2, h.rd.putT h.tbox _ _ _ _, h.fr.put (by omega) hB h.tbox _ _ _ _⟩
 obtain ⟨cs, f, hh⟩ := Go.Lib.ownsRow_kind h.row q hq
 exact P2 q (heap_ne hh h.tbox (by decide))
end Go.Proofs.YtlogcealmiokkaaGreatDoor
