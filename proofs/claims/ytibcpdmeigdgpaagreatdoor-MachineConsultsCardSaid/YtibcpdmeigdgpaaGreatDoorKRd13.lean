/- The reference's parser: Read. -/
import Derived.Test.YtibcpdmeigdgpaaGreatDoorKRd12
import Derived.Test.YtibcpdmeigdgpaaGreatDoorKLex4
import Derived.Deep.RegionHeld3
import Derived.Deep.RegionLaw
namespace Go.Proofs.YtibcpdmeigdgpaaGreatDoor
open Go.RowKit
theorem term_any (c : Rdc) : ∀ (k D : Nat), D + k = 65 → TermC c (D : Int) (termP c.tk c.s.size k) := by
 intro k
 induction k with
 | zero => intro D h; exact term_deep c D (by omega) (by omega)
 | succ k ih =>
  intro D h
  have h1 := ih (D + 1) (by omega)
  exact term_step c D (by simpa using h1) (by omega)
theorem Sp.res_ok {α : Type} {pl pl' : Int} {r : PR α} {x : α × Nat × List ByteArray} (h : Sp 0 pl 0 pl' r x) : r = .ok x := by
 have h1 := h.2 rfl
 cases r with
 | ok y => rw [h1.2]
 | error e => exact absurd h1.2.1.symm h1.2.2
theorem Sp.res_err {α : Type} {pl pl' er' : Int} {r : PR α} {x : α × Nat × List ByteArray} (h : Sp 0 pl er' pl' r x) (hn : er' ≠ 0) : r = .error (pl', er') := by
 have h1 := h.2 rfl
 cases r with
 | ok y => exact absurd h1.1 hn
 | error e => obtain ⟨p, k⟩ := e; obtain ⟨e1, e2, _⟩ := h1; rw [e1, e2]
section
variable {tk : List Tk} {sz f j j' : Nat} {l : List (T × List ByteArray)} {t : T} {ns : List ByteArray}
theorem readC_end (h : ¬ j < tk.length) : readC tk sz f j l = .ok l := by
 cases f with
 | zero => rfl
 | succ f => rw [readC, if_neg h]
theorem readC_err {p k : Int} (h : j < tk.length) (ht : termP tk sz 65 1200 j [] = .error (p, k)) : readC tk sz (f + 1) j l = .error (p, k) := by
 rw [readC, if_pos h, ht]
theorem readC_go (h : j < tk.length) (ht : termP tk sz 65 1200 j [] = .ok (t, j', ns)) (hk : (nxT tk sz j').k = 6) : readC tk sz (f + 1) j l = readC tk sz f (j' + 1) (l ++ [(t, ns)]) := by
 rw [readC, if_pos h, ht]; exact if_pos hk
theorem readC_no (h : j < tk.length) (ht : termP tk sz 65 1200 j [] = .ok (t, j', ns)) (hk : (nxT tk sz j').k ≠ 6) : readC tk sz (f + 1) j l = .error (errA tk sz j' 50) := by
 rw [readC, if_pos h, ht]; exact if_neg hk
end
def S5 (w : World) (lo : Nat) (xs : List Value) (n : Nat) (ts : Nat → T) : Prop :=
 ∀ k, k < n → ∃ v0 v1 v2 v3 A m c, xs[5 * k]? = some v0 ∧ xs[5 * k + 1]? = some v1 ∧ xs[5 * k + 2]? = some v2 ∧ xs[5 * k + 3]? = some v3 ∧ xs[5 * k + 4]? = some (.slice A m c) ∧
  TP w (fun b => lo ≤ b) (ts k) (.agg #[v0, v1, v2, v3]) ∧ (ts k).good ∧ (ts k).nodes ≤ 1000
theorem S5.keep {w w' : World} {lo : Nat} {xs : List Value} {n : Nat} {ts : Nat → T} (h : S5 w lo xs n ts) (hk : ∀ (b : Nat) (cs : Array Value) (f : Nat × Nat), w.heap[b]? = some (.cells cs 39 f) → w'.heap[b]? = some (.cells cs 39 f)) : S5 w' lo xs n ts := by
 intro k hk'
 obtain ⟨v0, v1, v2, v3, A, m, c, h0, h1, h2, h3, h4, ht, hg⟩ := h k hk'
 exact ⟨v0, v1, v2, v3, A, m, c, h0, h1, h2, h3, h4, ht.keep fun b cs f hS hb => ⟨hk b cs f hb, hS⟩, hg⟩
theorem Rd.nil {w : World} {c : Rdc} {i : Nat} {ns : List ByteArray} {pl er : Int} (h : Rd w c i ns pl er) : Rd (w.setCell ⟨c.R, 3, none⟩ (.slice none 0 0)) c i [] pl er := by
 obtain ⟨ht, nv, nn, hr⟩ := h
 exact ⟨ht.setR hr _ _, .slice none 0 0, 0, by simpa using blk_set hr.blk 3 (.slice none 0 0), World.ownsRow_nil _ _ _ _, hr.up, Nat.zero_le _⟩
structure ReadI (c : Rdc) (w : World) (wr : World) (j : Nat) (o : Value) (n : Nat) (xs : List Value) (ts : Nat → T) (ns : List ByteArray) (pl : Int) : Prop where
 rd : Rd wr c j ns pl 0
 low : Below w.heap.size w wr
 own : wr.ownsRow w.heap.size 42 5 o n xs
 s5 : S5 wr w.heap.size xs n ts
 few : n ≤ j
theorem ReadI.stand {c : Rdc} {w wr w1 : World} {j j1 n : Nat} {o : Value} {xs : List Value} {ts : Nat → T} {ns ns1 : List ByteArray} {pl pl1 : Int} (h : ReadI c w wr j o n xs ts ns pl) (hf : Fr c wr w1) (hlo : w.heap.size ≤ c.B) (hr : Rd w1 c j1 ns1 pl1 0) (hj : j ≤ j1) : ReadI c w w1 j1 o n xs ts ns1 pl1 :=
 ⟨hr, h.low.trans (hf.low.mono hlo), own_keep h.own fun g hg => by
  rcases h.own.2 with ⟨hv, _⟩ | ⟨g', cap, cur, hv, _, hh, _⟩
  ·rw [hv] at hg; simp [Value.ownBlock] at hg
  ·rw [hv] at hg
   simp [Value.ownBlock] at hg
   subst hg
   rw [hh]
   exact hf.box h.rd hh (by decide) (by decide), h.s5.keep fun b cs f hb => hf.box h.rd hb (by decide) (by decide), by have := h.few; omega⟩
theorem Tryz.info_sen : (Tryz.prog.info? 42).map (fun i => (i.zero, i.size, i.bytes)) = some (some (.agg #[.int .i64 0, .int .i64 0, .string ⟨#[]⟩, .slice none 0 0, .slice none 0 0]), 5, 80) := by kernel_rfl
theorem fld_tok0 (b d : Value) (n m : Int) (W : World) : (Instr.field 83 (.agg #[.int .i64 n, b, .int .i64 m, d]) 0).run Tryz.prog W = .ok (.int .i64 n) W := by kernel_rfl
theorem Rd.cells6 {w : World} {c : Rdc} {i : Nat} {ns : List ByteArray} {place er : Int} (h : Rd w c i ns place er) : ∃ A n m, w.cell? ⟨c.R, 2, none⟩ = some (.int .i64 (i : Int)) ∧ w.cell? ⟨c.R, 3, none⟩ = some (.slice A n m) ∧ w.cell? ⟨c.R, 4, none⟩ = some (.int .i64 place) ∧ w.cell? ⟨c.R, 5, none⟩ = some (.int .i64 er) ∧ ∀ j, w.frozen? ⟨c.R, j, none⟩ = false := by
 obtain ⟨_, nv, nn, hr⟩ := h
 obtain ⟨A, m, rfl, _⟩ := own_open hr.own
 exact ⟨A, nn, m, hr.cells.2.2.1, hr.cells.2.2.2.1, hr.cells.2.2.2.2.1, hr.cells.2.2.2.2.2, hr.thaw⟩
theorem own_ne5 {w : World} {B : Nat} {e : TypeId} {size : Nat} {v : Value} {n : Nat} {xs : List Value} (h : w.ownsRow B e size v n xs) {b : Nat} {cs : Array Value} {t : TypeId} {m : Nat × Nat} (hb : w.heap[b]? = some (.cells cs t m)) (ht : t ≠ e) : some b ≠ v.ownBlock := by
 intro he
 rcases h.2 with ⟨hv, _⟩ | ⟨g, cap, cur, hv, _, hh, _⟩
 ·rw [hv] at he; simp [Value.ownBlock] at he
 ·rw [hv] at he
  simp [Value.ownBlock] at he
  subst he
  rw [hb] at hh
  injection hh with hh
  injection hh with _ hh
  exact ht hh
theorem ReadI.push {c : Rdc} {w w7 w8 w9 : World} {j m : Nat} {o o' : Value} {xs : List Value} {ts : Nat → T} {t : T} {a0 a1 a2 a3 : Value} {NA : Option Addr} {nn nm : Nat} {ns : List ByteArray} {pl : Int} (h : ReadI c w w7 j o m xs ts ns pl) (hb : Below w7.heap.size w7 w8)
 (hown : w9.ownsRow w.heap.size 42 5 o' (m + 1) (xs ++ [a0, a1, a2, a3, .slice NA nn nm])) (hg : w8.grownBy w9 o.ownBlock) (ht : TP w7 (fun b => w.heap.size ≤ b) t (.agg #[a0, a1, a2, a3])) (hgood : t.good) (hnod : t.nodes ≤ 1000) (hm : m + 1 ≤ j) :
 ReadI c w w9 j o' (m + 1) (xs ++ [a0, a1, a2, a3, .slice NA nn nm]) (snocT m ts t) ns pl := by
 have ho8 := own_below h.own hb
 have keep : ∀ (b : Nat) (cs : Array Value) (t : TypeId) (f : Nat × Nat), w7.heap[b]? = some (.cells cs t f) → t ≠ 42 → w9.heap[b]? = some (.cells cs t f) := fun b cs t f hh hne => by
  have h8 := (hb.block b (heap_lt hh)).trans hh
  exact (hg.block b (heap_lt h8) (own_ne5 ho8 h8 hne)).trans h8
 have hl : xs.length = 5 * m := by have := own_len h.own; omega
 refine ⟨?_, (h.low.trans (hb.mono h.low.size)).grown hg (Nat.le_trans h.low.size hb.size) fun k hk => (h.own.lt k hk).1, hown, fun k hk => ?_, hm⟩
 ·obtain ⟨htk, nv, nn, hr⟩ := h.rd
  refine ⟨htk.keep fun b cs hh => (keep b cs _ _ hh (by decide)).trans hh.symm, nv, nn, keep _ _ _ _ hr.blk (by decide), own_keep hr.own fun g hg' => ?_, hr.up, hr.few⟩
  rcases hr.own.2 with ⟨hv, _⟩ | ⟨g', cap, cur, hv, _, hh, _⟩
  ·rw [hv] at hg'; simp [Value.ownBlock] at hg'
  ·rw [hv] at hg'
   simp [Value.ownBlock] at hg'
   subst hg'
   exact (keep _ _ _ _ hh (by decide)).trans hh.symm
 ·by_cases hkm : k = m
  ·subst hkm
   have hs : snocT k ts t k = t := by simp [snocT]
   rw [hs]
   have key : ∀ q, (xs ++ [a0, a1, a2, a3, .slice NA nn nm])[5 * k + q]? = [a0, a1, a2, a3, Value.slice NA nn nm][q]? := fun q => by
    rw [List.getElem?_append_right (by omega), hl]
    congr 1
    omega
   exact ⟨a0, a1, a2, a3, NA, nn, nm, by simpa using key 0, by simpa using key 1, by simpa using key 2, by simpa using key 3, by simpa using key 4, ht.keep fun b cs f hS hh => ⟨keep b cs _ f hh (by decide), hS⟩, hgood, hnod⟩
  ·have hs : snocT m ts t k = ts k := by simp [snocT, hkm]
   rw [hs]
   obtain ⟨v0, v1, v2, v3, A, q, cc, h0, h1, h2, h3, h4, ht', hgd⟩ := h.s5 k (by omega)
   have key : ∀ q, q < 5 → (xs ++ [a0, a1, a2, a3, .slice NA nn nm])[5 * k + q]? = xs[5 * k + q]? := fun q hq => List.getElem?_append_left (by omega)
   exact ⟨v0, v1, v2, v3, A, q, cc, (key 0 (by omega)).trans h0, (key 1 (by omega)).trans h1, (key 2 (by omega)).trans h2, (key 3 (by omega)).trans h3, (key 4 (by omega)).trans h4, ht'.keep fun b cs f hS hh => ⟨keep b cs _ f hh (by decide), hS⟩, hgd⟩
abbrev Sens := List (T × List ByteArray)
def sensT (l : Sens) : Nat → T := fun k => (l.map Prod.fst).getD k .nil
theorem sensT_snoc (l : Sens) (t : T) (ns : List ByteArray) : snocT l.length (sensT l) t = sensT (l ++ [(t, ns)]) := by
 have := snoc_get (l.map Prod.fst) t
 rw [List.length_map] at this
 unfold sensT
 rw [this]
 simp
def Nam1 (w : World) (lo : Nat) (xs : List Value) (l : Sens) : Prop := ∀ x, l = [x] → ∃ A q c, xs[4]? = some (.slice A q c) ∧ w.ownsRow lo 9 1 (.slice A q c) q (x.2.map Value.string) ∧ q ≤ 1000
theorem ReadI.names {c : Rdc} {w w7 w8 w9 : World} {j m : Nat} {o : Value} {xs : List Value} {ts : Nat → T} {NA : Option Addr} {nn nm : Nat} {ns : List ByteArray} {pl : Int} (h : ReadI c w w7 j o m xs ts ns pl) (hlo : w.heap.size ≤ c.B) (h3 : w7.cell? ⟨c.R, 3, none⟩ = some (.slice NA nn nm)) (hb : Below w7.heap.size w7 w8) (hg : w8.grownBy w9 o.ownBlock) :
 w9.ownsRow w.heap.size 9 1 (.slice NA nn nm) nn (ns.map Value.string) ∧ nn ≤ 1000 := by
 obtain ⟨htk, nv, nn', hr⟩ := h.rd
 have e := hr.cells.2.2.2.1
 rw [h3] at e
 injection e with e
 subst e
 obtain ⟨A, m', e, _⟩ := own_open hr.own
 injection e with _ e _
 subst e
 have ho8 := own_below h.own hb
 refine ⟨ownsRow_more (own_keep hr.own fun g hg' => ?_) hlo, by have := hr.few; have := hr.up; have := htk.few; omega⟩
 rcases hr.own.2 with ⟨hv, _⟩ | ⟨g', cap, cur, hv, _, hh, _⟩
 ·rw [hv] at hg'; simp [Value.ownBlock] at hg'
 ·rw [hv] at hg'
  simp [Value.ownBlock] at hg'
  subst hg'
  have h8 := (hb.block _ (heap_lt hh)).trans hh
  exact ((hg.block _ (heap_lt h8) (own_ne5 ho8 h8 (by decide))).trans h8).trans hh.symm
theorem Nam1.none (w : World) (lo : Nat) (xs : List Value) : Nam1 w lo xs [] := fun x h => by cases h
theorem Nam1.push {w9 : World} {lo m : Nat} {xs : List Value} {ls : Sens} {t : T} {ns : List ByteArray} {a0 a1 a2 a3 : Value} {NA : Option Addr} {nn nm : Nat} (hl : xs.length = 5 * m) (hm : m = ls.length) (h : w9.ownsRow lo 9 1 (.slice NA nn nm) nn (ns.map Value.string) ∧ nn ≤ 1000) : Nam1 w9 lo (xs ++ [a0, a1, a2, a3, .slice NA nn nm]) (ls ++ [(t, ns)]) := by
 intro x hx
 have h0 : ls = [] := by
  cases ls with
  | nil => rfl
  | cons y ls => have := congrArg List.length hx; simp at this
 subst h0
 obtain rfl : m = 0 := hm
 obtain rfl : xs = [] := List.length_eq_zero_iff.1 hl
 injection hx with hx
 subst hx
 exact ⟨NA, nn, nm, rfl, h⟩
def ReadL (c : Rdc) (w : World) (res : Except (Int × Int) Sens) (o : Value) (wr : World) : Prop :=
 ∃ (j m : Nat) (xs : List Value) (ts : Nat → T) (ns : List ByteArray) (pl : Int) (l : Sens), ReadI c w wr j o m xs ts ns pl ∧ m = l.length ∧ ts = sensT l ∧ Nam1 wr w.heap.size xs l ∧ ∃ f, c.tn ≤ j + f ∧ res = readC c.tk c.s.size f j l
def ReadQ (s : ByteArray) (w : World) (v : Value) (p er : Int) (w' : World) : Prop := match readN s with
 | .error (q, k) => p = q ∧ er = k ∧ er ≠ 0 ∧ v = .slice none 0 0
 | .ok l => p = 0 ∧ er = 0 ∧ ∃ xs, w'.ownsRow w.heap.size 42 5 v l.length xs ∧ S5 w' w.heap.size xs l.length (sensT l) ∧ l.length ≤ 1000 ∧ Nam1 w' w.heap.size xs l
theorem readQ_err {s : ByteArray} {w w' : World} {p er : Int} (h : readN s = .error (p, er)) (hn : er ≠ 0) : ReadQ s w (.slice none 0 0) p er w' := by unfold ReadQ; rw [h]; exact ⟨rfl, rfl, hn, rfl⟩
theorem readQ_ok {s : ByteArray} {w w' : World} {v : Value} {l : Sens} {xs : List Value} (h : readN s = .ok l) (h1 : w'.ownsRow w.heap.size 42 5 v l.length xs) (h2 : S5 w' w.heap.size xs l.length (sensT l)) (h3 : l.length ≤ 1000) (h4 : Nam1 w' w.heap.size xs l) : ReadQ s w v 0 0 w' := by unfold ReadQ; rw [h]; exact ⟨rfl, rfl, xs, h1, h2, h3, h4⟩
theorem readN_bad {s : ByteArray} {p : Nat} {e : Int} (h : lexN s = .bad p e) : readN s = .error ((p : Int), e) := by unfold readN; rw [h]
theorem readN_ok {s : ByteArray} {l : List Tk} (h : lexN s = .ok l) : readN s = readC l s.size l.length 0 [] := by unfold readN; rw [h]
set_option maxRecDepth 100000 in
set_option maxHeartbeats 8000000 in
theorem readx_any (s : ByteArray) (w : World) : Calls Tryz.prog 13 #[.string s] w fun e w' =>
 (∃ (v : Value) (p er : Int), e = .returned (.tuple #[v, .int .i64 p, .int .i64 er]) ∧ ReadQ s w v p er w') ∧ Below w.heap.size w w' := by
 obtain ⟨sen, hi1, hi2, hi3, hi4⟩ := info_parts Tryz.info_sen
 have fl := fld_tok0
 go_enter Tryz.func13, Tryz.ntmps13
 go_wp2_with fail
 refine (rtokens_any s _).mono ?_
 rintro e w1 ⟨⟨v, p, er, rfl, hok⟩, h1⟩
 by_cases he : er = 0
 ·subst he
  obtain ⟨n, l, hlex, rfl, hown, hl, hn, hsz, htk⟩ : ∃ n l, lexN s = .ok l ∧ p = 0 ∧ w1.ownsRow w.heap.size 83 4 v n (tkCells l) ∧ l.length = n ∧ n ≤ 1000 ∧ s.size ≤ 4096 ∧ ∀ x ∈ l, x.ok s.size := by
   unfold TokQ at hok
   cases hL : lexN s with
   | ok l => rw [hL] at hok; exact ⟨_, l, rfl, hok.1, hok.2.2.1, rfl, hok.2.2.2.1, hok.2.2.2.2.1, hok.2.2.2.2.2⟩
   | bad q e => rw [hL] at hok; exact absurd rfl hok.2.2.2
  have HLEX := Lib.hid hlex
  clear hlex
  obtain ⟨A, tc, rfl, hc, hA, hcm, hx⟩ := own_open hown
  have hb1 := h1.size
  have B2 := Lib.hid (((Below.refl w1.heap.size w1).alloc (Nat.le_refl _) (Obj.cells #[.string s, .slice A n tc, .int .i64 0, .slice none 0 0, .int .i64 0, .int .i64 0] 80)).alloc (by simp) (Obj.cells #[] 42))
  obtain ⟨c, hcc⟩ : ∃ c : Rdc, c = ⟨w1.heap.size, w1.heap.size, s, A, n, tc, l, 0⟩ := ⟨_, rfl⟩
  have RI : ReadI c w ((w1.alloc (Obj.cells #[.string s, .slice A n tc, .int .i64 0, .slice none 0 0, .int .i64 0, .int .i64 0] 80)).alloc (Obj.cells #[] 42)) 0 (.slice (some ⟨w1.heap.size + 1, 0, none⟩) 0 0) 0 [] (sensT []) [] 0 := by
   subst hcc
   refine ⟨⟨⟨hl, hn, hsz, htk, hc, hA, Nat.le_refl _, lexN_names HLEX.out, fun h0 => ?_⟩, .slice none 0 0, 0, (Below.heap_alloc _ _ _ (by simp)).trans (heap_alloc_new _ _), World.ownsRow_nil _ _ _ _, Nat.zero_le _, Nat.le_refl _⟩, h1.trans (B2.out.mono hb1), ownsRow_more (ownsRow_empty _ _ _ (w1.heap.size + 1) ((congrArg _ (by simp)).trans (heap_alloc_new _ _))) (by omega), fun k hk => absurd hk (by omega), Nat.le_refl _⟩
   obtain ⟨g, cur, hg, _, hh, hcur⟩ := hx h0
   exact ⟨g, cur, hg, (B2.out.block g (heap_lt hh)).trans hh, fun j hj => hcur j hj⟩
  have hR : w1.heap.size = c.R := by rw [hcc]
  have hlo : w.heap.size ≤ c.B := by rw [hcc]; exact hb1
  have hBR : c.B ≤ c.R := by rw [hcc]; exact Nat.le_refl _
  have hcn : c.tn = n := by rw [hcc]
  have hb0 := Lib.hid h1
  have HCN := Lib.hid (show readN s = readC c.tk c.s.size c.tk.length 0 [] by rw [hcc]; exact readN_ok HLEX.out)
  have hcl : c.tk.length = c.tn := by rw [hcc]; exact hl
  have HCL := Lib.hid hcl
  have RR := Lib.hid RI
  clear RI hcc hx hown htk hok h1 B2 hcl
  have LL := fun (o : Value) (wr : World) => ReadL c w (readN s) o wr
  clear LL
  go_wp2_with fail
  generalize ((w1.alloc (Obj.cells #[.string s, .slice A n tc, .int .i64 0, .slice none 0 0, .int .i64 0, .int .i64 0] 80)).alloc (Obj.cells #[] 42)) = w2 at *
  rw [hR] at *
  go_loopw [9] (fun o wr => ReadL c w (readN s) o wr) (fun _ wr => c.tn - atOf c wr)
  case atStart => exact ⟨_, _, _, _, _, _, [], RR.out, rfl, rfl, Nam1.none _ _ _, c.tk.length, by have := HCL.out; omega, HCN.out⟩
  case round =>
   clear RR
   obtain ⟨j, m, xs, ts, ns0, pl0, ls, hi, hml, htl, hnm, hf⟩ := hrel
   have HNM := Lib.hid hnm
   clear hnm
   have HML := Lib.hid hml
   have HTL := Lib.hid htl
   have HF := Lib.hid hf
   clear hml htl hf
   have I := Lib.hid hi
   clear hi
   obtain ⟨NA, nn, nm, r2, r3, r4, r5, rf⟩ := I.out.rd.cells6
   obtain ⟨hup, htn⟩ := I.out.rd.up
   have hsl := I.out.low.size
   by_cases hj : j < n
   ·have hj' : (j : Int) < (n : Int) := by omega
    have I3 := Lib.hid (I.out.stand (Fr.setR hBR 3 (.slice none 0 0)) hlo I.out.rd.nil (Nat.le_refl _))
    have TC : TermC c 0 (termP c.tk c.s.size 65) := by simpa using term_any c 65 0 rfl
    have HJ := Lib.hid (show j < c.tk.length by have := HCL.out; omega)
    obtain ⟨f, hf⟩ : ∃ f, c.tn ≤ j + (f + 1) ∧ readN s = readC c.tk c.s.size (f + 1) j ls := by
     obtain ⟨f, h1, h2⟩ := HF.out
     obtain ⟨f, rfl⟩ : ∃ k, f = k + 1 := ⟨f - 1, by omega⟩
     exact ⟨f, h1, h2⟩
    have HF2 := Lib.hid hf
    clear hf HF
    go_wp2_with fail
    refine (TC 1200 _ _ _ _ _ I3.out.rd).mono ?_
    rintro e w4 ⟨v4, rfl, j4, er4, t, ns4, pl4, h4, f4, hj4, ht4, hok4, hs4⟩
    have hag := ht4.agg
    obtain ⟨k0, k1, k2, A0, m0, c0, rfl⟩ := hag
    have BX := Lib.hid ((Below.refl w4.heap.size w4).alloc (Nat.le_refl _) (Obj.cells #[.int .i64 k0, .int .i64 k1, .string k2, .slice A0 m0 c0] 39))
    have H5 := Lib.hid (h4.below BX.out)
    have hX5 := Lib.hid (heap_alloc_new w4 (Obj.cells #[.int .i64 k0, .int .i64 k1, .string k2, .slice A0 m0 c0] 39))
    have hw4 := Lib.hid ((I3.out.low.trans (f4.low.mono hlo)).trans (BX.out.mono (Nat.le_trans (Nat.le_trans I3.out.low.size f4.size) (Nat.le_refl _))))
    clear r2 r3 r4 r5 rf
    obtain ⟨NA, nn, nm, r2, r3, r4, r5, rf⟩ := h4.cells6
    have hRl := h4.lt
    by_cases he4 : er4 = 0
    ·subst he4
     obtain ⟨_, hgood, hnod⟩ := hok4 rfl
     have HT4 := Lib.hid hs4.out.res_ok
     have I5 := Lib.hid ((I3.out.stand f4 hlo h4 hj4).stand (Fr.of_below BX.out h4.base) hlo (h4.below BX.out) (Nat.le_refl _))
     have HT := Lib.hid ((ht4.below BX.out).more (S' := fun b => w.heap.size ≤ b) fun b hb => Nat.le_trans I3.out.low.size hb)
     clear h4 f4 ht4 hok4
     go_wp2_with fail
     refine (next_any _ H5.out).mono ?_
     rintro e w6 ⟨rfl, h6⟩
     have I6 := Lib.hid (I5.out.stand (Fr.of_below h6 H5.out.base) hlo (H5.out.below h6) (Nat.le_refl _))
     have HT6 := Lib.hid (HT.out.below h6)
     have hX6 := Lib.hid ((h6.block _ (heap_lt hX5.out)).trans hX5.out)
     have hl6 := fun hk => nx_lt I6.out.rd (c := c) (at_ := j4) hk
     clear h6 r2 r3 r4 r5 rf
     obtain ⟨NA, nn, nm, r2, r3, r4, r5, rf⟩ := I6.out.rd.cells6
     obtain ⟨hup4, _⟩ := I6.out.rd.up
     cases hk6 : ((nx c j4).k != 6) with
     | false =>
      have hlt := hl6 (by simp at hk6; omega)
      have HK6 := Lib.hid (show (nxT c.tk c.s.size j4).k = 6 by have h9 : ((nxT c.tk c.s.size j4).k != 6) = false := hk6; simpa using h9)
      clear hl6
      have I7 := Lib.hid (I6.out.stand (Fr.setR hBR 2 (.int .i64 ((j4 : Int) + 1))) hlo (I6.out.rd.next hlt) (by omega))
      have HT7 := Lib.hid (HT6.out.fr (Fr.setR (c := c) hBR 2 (.int .i64 ((j4 : Int) + 1))) I6.out.rd)
      have hX7 := Lib.hid ((Fr.setR (c := c) (w := w6) hBR 2 (.int .i64 ((j4 : Int) + 1))).box I6.out.rd hX6.out (by decide) (by decide))
      have hm1 : m + 1 ≤ j4 + 1 := by have := I6.out.few; omega
      have hm2 : m + 1 ≤ 1001 := by omega
      have hs7 := I7.out.low.size
      go_wp2_with fail
      generalize w6.setCell ⟨c.R, 2, none⟩ (.int .i64 ((j4 : Int) + 1)) = w7 at *
      clear r2 r3 r4 r5 rf I6 hX6 HT6 I5 HT hX5 H5 BX hw4 I3 TC
      obtain ⟨NA, nn, nm, r2, r3, r4, r5, rf⟩ := I7.out.rd.cells6
      obtain ⟨y0, y1, y2, y3⟩ := box4t hX7.out
      go_region_law (refine step_append_lies _ rfl _ _ _ rfl w.heap.size 42 sen (.agg #[.int .i64 0, .int .i64 0, .string ⟨#[]⟩, .slice none 0 0, .slice none 0 0]) 5 80 Tryz.underlying31 hi1 hi2 hi3 hi4 rfl (by omega) _ m xs rfl (own_below I7.out.own (by first | exact ((Below.refl _ _).drew).alloc (Nat.le_refl _) _ | exact (Below.refl _ _).alloc (Nat.le_refl _) _)) ⟨w7.heap.size, 0, none⟩ 1 1 [.int .i64 k0, .int .i64 k1, .string k2, .slice A0 m0 c0, .slice NA nn nm] rfl rfl (World.news_of_block (heap_alloc_new _ _)) (by intro u hu; simp only [List.mem_cons, List.not_mem_nil, or_false] at hu; rcases hu with rfl | rfl | rfl | rfl | rfl <;> rfl) (by omega) (by unfold maxLen; omega) (by omega) (by simp; omega) _ rfl ?_; intro g9 cap9 w9 hown9 hg9 hat9 hlt9)
      all_goals
       have HST := Lib.hid (show snocT m ts t = sensT (ls ++ [(t, ns4)]) by rw [HTL.out, HML.out]; exact sensT_snoc ls t ns4)
       have NMS := Lib.hid (Nam1.push (t := t) (a0 := .int .i64 k0) (a1 := .int .i64 k1) (a2 := .string k2) (a3 := .slice A0 m0 c0) (show xs.length = 5 * m by have := own_len I7.out.own; omega) HML.out (ReadI.names I7.out hlo r3 (w8 := _) (by first | exact ((Below.refl _ _).drew).alloc (Nat.le_refl _) _ | exact (Below.refl _ _).alloc (Nat.le_refl _) _) hg9))
       have SS := Lib.hid (ReadI.push I7.out (by first | exact ((Below.refl _ _).drew).alloc (Nat.le_refl _) _ | exact (Below.refl _ _).alloc (Nat.le_refl _) _) hown9 hg9 HT7.out hgood (by omega) hm1)
       clear hown9 hg9 hat9 hlt9
       go_wp2_with fail
       go_roundw
       case rel => exact ⟨_, _, _, _, _, _, _, _, _, _, _, _, _, _, _, _, _, _, _, _, _, _, _, _, _, _, _, _, _, _, _, _, _, _, _, _, _, _, _, _, _, _, _, _, _, _, _, _, _, _, _, _, _, _, _, _, _, _, _, ⟨_, _, _, _, _, _, ls ++ [(t, ns4)], SS.out, by rw [List.length_append, HML.out]; rfl, HST.out, NMS.out, f, by have := HF2.out.1; omega, by rw [HF2.out.2]; exact readC_go HJ.out HT4.out (by simpa using HK6.out)⟩, rfl⟩
       case measure => rw [SS.out.rd.at_eq, I.out.rd.at_eq]; omega
     | true =>
      clear hl6
      go_wp2_with fail
      refine (wrong_any _ I6.out.rd).mono ?_
      rintro e w7 ⟨rfl, ⟨er7, pl7, h7, hn7, hs7⟩, f7⟩
      have HR := Lib.hid (show readN s = .error (pl7, er7) by
       have h9 : ((nxT c.tk c.s.size j4).k != 6) = true := hk6
       rw [HF2.out.2, readC_no HJ.out HT4.out (by simpa using h9)]
       have h10 := (hs7.out ((), 0, [])).res_err hn7
       injection h10 with h10
       rw [h10])
      have hw7 := Lib.hid (I6.out.low.trans (f7.low.mono hlo))
      clear r2 r3 r4 r5 rf
      obtain ⟨NA, nn, nm, r2, r3, r4, r5, rf⟩ := h7.cells6
      have hne : (er7 != 0) = true := by simpa using hn7
      clear h7 f7
      go_wp2_with fail
      go_region
      all_goals
       go_wp2_with fail
       go_ret3
       exact ⟨⟨_, _, er7, rfl, readQ_err HR.out hn7⟩, hw7.out.drew⟩
    ·have he5 : (er4 == 0) = false := by simpa using he4
     have he6 : (er4 != 0) = true := by simpa using he4
     have HR := Lib.hid (show readN s = .error (pl4, er4) by rw [HF2.out.2, readC_err HJ.out (hs4.out.res_err he4)])
     clear h4 f4 ht4 hok4
     go_wp2_with fail
     go_region
     all_goals
      go_wp2_with fail
      go_ret3
      exact ⟨⟨_, _, er4, rfl, readQ_err HR.out he4⟩, hw4.out.drew⟩
   ·have hj' : ¬ (j : Int) < (n : Int) := by omega
    go_wp2_with fail
    go_ret3
    have HR := Lib.hid (show readN s = .ok ls by
     obtain ⟨f, _, h2⟩ := HF.out
     rw [h2, readC_end (by have := HCL.out; omega)])
    exact ⟨⟨_, 0, 0, rfl, readQ_ok HR.out (by rw [← HML.out]; exact I.out.own) (by rw [← HML.out, ← HTL.out]; exact I.out.s5) (by have h9 := I.out.few; have := HML.out; omega) HNM.out⟩, I.out.low⟩
 ·have he' : (er != 0) = true := by simpa using he
  have HR := Lib.hid (show ReadQ s w (.slice none 0 0) p er w1 by
   unfold TokQ at hok
   cases hL : lexN s with
   | ok l => rw [hL] at hok; exact absurd hok.2.1 he
   | bad q e =>
    rw [hL] at hok
    obtain ⟨_, rfl, rfl, _⟩ := hok
    exact readQ_err (readN_bad hL) he)
  clear hok
  go_wp2_with fail
  go_ret3
  exact ⟨⟨_, _, er, rfl, HR.out⟩, h1⟩
end Go.Proofs.YtibcpdmeigdgpaaGreatDoor
