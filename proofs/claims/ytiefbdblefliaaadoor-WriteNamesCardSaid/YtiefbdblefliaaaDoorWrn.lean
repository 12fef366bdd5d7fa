/- The walks through Named and Write, of both. -/
import Derived.Test.YtiefbdblefliaaaDoorWrt
import Derived.Test.YtiefbdblefliaaaDoorGd1
import Derived.Test.YtiefbdblefliaaaDoorGd2
namespace Go.Proofs.YtiefbdblefliaaaDoor
open Go.RowKit

/-- What is written of a term: its text, or none. -/
def TextOf (nm : List ByteArray) (t : T) (s : ByteArray) : Prop := (t.goodW ∧ s = ba (txB (nmV nm) t).1) ∨ (¬ t.goodW ∧ s = ⟨#[]⟩)
theorem TextOf.uniq {nm : List ByteArray} {t : T} {s s' : ByteArray} (h : TextOf nm t s) (h' : TextOf nm t s') : s = s' := by
  rcases h with ⟨h1, rfl⟩ | ⟨h1, rfl⟩ <;> rcases h' with ⟨h2, rfl⟩ | ⟨h2, rfl⟩ <;> first | rfl | exact absurd h1 h2 | exact absurd h2 h1
theorem nmV_pos (nm : List ByteArray) (n : Int) : nmV nm n ≠ [] := by
  unfold nmV
  cases nm[n.toNat]? with
  | none => simp
  | some s =>
    dsimp only
    split
    · simp
    · rename_i h
      intro e
      exact h (.inl (by rw [sz_list, e]; rfl))
theorem tx_pos {nm : List ByteArray} {t : T} (h : t.wr) : (txB (nmV nm) t).1 ≠ [] := by
  cases t with
  | nil => exact h.elim
  | mk k n s m a =>
    rcases wr_cases h with rfl | rfl | rfl | rfl
    · rw [tx_var]; exact nmV_pos nm n
    · rw [tx_int]
      intro e
      have e : Lib.itoa n = [] := e
      unfold Lib.itoa at e
      split at e
      · cases e
      · exact dec_ne _ e
    · by_cases h1 : s = nilS
      · subst h1; rw [tx_nil]; simp
      · by_cases h2 : s = curS
        · subst h2; rw [tx_cur]; simp
        · rw [tx_atom _ h1 h2]
          rcases h with h | h | h | h
          · exact absurd h.1 (by decide)
          · exact absurd h.1 (by decide)
          · intro e
            exact h.2 (by rw [sz_list]; show ((quoteN s).data.toList, 124 :: (quoteN s).data.toList).1.length = 0; rw [e]; rfl)
          · exact absurd h.1 (by decide)
    · by_cases hp : s = dotS ∧ m = 2
      · obtain ⟨rfl, rfl⟩ := hp; rw [tx_pair]; simp
      · rw [tx_cmp _ hp]; simp
theorem namesFit_nil : NamesFit [] := ⟨by simp, by simp⟩
def NmP (w : World) (nm : List ByteArray) (t : T) (e : Ending) (w' : World) : Prop := ∃ s, e = .returned (.string s) ∧ Hid (TextOf nm t s) ∧ Below w.heap.size w w'
set_option maxRecDepth 100000 in
theorem rnamed_any {nm : List ByteArray} (hnm : NamesFit nm) {t : T} (h5 : t.nodes ≤ 5000) (hf : t.fit) (S : Nat) (v nv : Value) (w : World) (hv : GT w S t v) (hnv : NmIn w S nm nv) :
    Calls Tryd.prog 10 #[v, nv] w fun e w' => NmP w nm t e w' := by
  obtain ⟨k', n', s', A, m', c, rfl⟩ := hv.agg
  have HV := Lib.hid hv
  have NM := Lib.hid hnv
  have HNF := Lib.hid hnm
  have HF := Lib.hid hf
  obtain ⟨nA, nc, rfl, hnx⟩ := hnv
  have BX := Lib.hid (belA (Below.refl w.heap.size w) (Obj.cells #[.int .i64 k', .int .i64 n', .string s', .slice A m' c] 24))
  have XB := Lib.hid (heap_alloc_new w (Obj.cells #[.int .i64 k', .int .i64 n', .string s', .slice A m' c] 24))
  have CG := Lib.hid (rgood_any hf.short (hv.below BX.out))
  clear hv hnx hf
  go_enter Tryd.func10, Tryd.ntmps10
  go_wp2_with fail
  refine CG.out.mono ?_
  rintro e w1 ⟨⟨g, rfl, hg⟩, hb1⟩
  have B1 := Lib.hid (BX.out.trans (hb1.mono BX.out.size))
  have X1 := Lib.hid ((hb1.block w.heap.size (by simp)).trans XB.out)
  obtain ⟨x0, x1, x2, x3⟩ := box4t X1.out
  have hx1 := heap_lt X1.out
  have HG := Lib.hid hg.out
  clear hb1 hg CG
  cases g with
  | false =>
    have P := Lib.hid (show NmP w nm t (.returned (.string ⟨#[]⟩)) w1 from ⟨_, rfl, Lib.hid (.inr ⟨fun h => (by have := HG.out.2 h; cases this), rfl⟩), B1.out⟩)
    go_wp2_with fail
    go_ret
    exact P.out
  | true =>
    have hgood := HG.out.1 rfl
    have CT := Lib.hid (rtx_any HNF.out _ t (Nat.le_refl _) h5 (legal_wr hgood.1 HF.out) HF.out S _ _ w1 (HV.out.below B1.out) (NM.out.low HV.out.sz B1.out))
    have HGG := Lib.hid hgood
    clear hgood
    go_wp2_with fail
    refine CT.out.mono ?_
    rintro e w2 ⟨rfl, hb2⟩
    have P := Lib.hid (show NmP w nm t (.returned (.string (ba (txB (nmV nm) t).1))) w2 from ⟨_, rfl, Lib.hid (.inl ⟨HGG.out, rfl⟩), B1.out.trans (hb2.mono B1.out.size)⟩)
    clear hb2 CT
    go_wp2_with fail
    go_ret
    exact P.out
set_option maxRecDepth 100000 in
theorem rwrite_any {t : T} (h5 : t.nodes ≤ 5000) (hf : t.fit) (S : Nat) (v : Value) (w : World) (hv : GT w S t v) :
    Calls Tryd.prog 13 #[v] w fun e w' => NmP w [] t e w' := by
  obtain ⟨k', n', s', A, m', c, rfl⟩ := hv.agg
  have BX := Lib.hid (belA (Below.refl w.heap.size w) (Obj.cells #[.int .i64 k', .int .i64 n', .string s', .slice A m' c] 24))
  have CN := Lib.hid (rnamed_any namesFit_nil h5 hf S _ _ _ (hv.below BX.out) (NmIn.none _ S))
  clear hv
  go_enter Tryd.func13, Tryd.ntmps13
  go_wp2_with fail
  refine CN.out.mono ?_
  rintro e w1 ⟨s, rfl, h1, hb⟩
  have P := Lib.hid (show NmP w [] t (.returned (.string s)) w1 from ⟨s, rfl, h1, BX.out.trans (hb.mono BX.out.size)⟩)
  clear h1 hb
  go_wp2_with fail
  go_ret
  exact P.out
set_option maxRecDepth 100000 in
set_option maxHeartbeats 2000000 in
theorem pnamed_any {nm : List ByteArray} (hnm : NamesFit nm) {t : T} (h5 : t.nodes ≤ 5000) (hf : t.fit) (S : Nat) (v nv : Value) (w : World) (hv : GT w S t v) (hnv : NmIn w S nm nv) (hT : TabX w) :
    Calls Tryd.prog 9 #[v, nv] w fun e w' => NmP w nm t e w' := by
  obtain ⟨k', n', s', A, m', c, rfl⟩ := hv.agg
  have HV := Lib.hid hv
  have NM := Lib.hid hnv
  have HNF := Lib.hid hnm
  have HF := Lib.hid hf
  have HTX := Lib.hid hT
  obtain ⟨nA, nc, rfl, hnx⟩ := hnv
  have BX := Lib.hid (belA (Below.refl w.heap.size w) (Obj.cells #[.int .i64 k', .int .i64 n', .string s', .slice A m' c] 24))
  have XB := Lib.hid (heap_alloc_new w (Obj.cells #[.int .i64 k', .int .i64 n', .string s', .slice A m' c] 24))
  have CG := Lib.hid (pgood_any hf.short (by omega) (hv.below BX.out))
  clear hv hnx hf hT
  go_enter Tryd.func9, Tryd.ntmps9
  go_wp2_with fail
  refine CG.out.mono ?_
  rintro e w1 ⟨⟨g, rfl, hg⟩, hb1⟩
  have B1 := Lib.hid (BX.out.trans (hb1.mono BX.out.size))
  have X1 := Lib.hid ((hb1.block w.heap.size (by simp)).trans XB.out)
  obtain ⟨x0, x1, x2, x3⟩ := box4t X1.out
  have hx1 := heap_lt X1.out
  have HG := Lib.hid hg.out
  clear hb1 hg CG
  cases g with
  | false =>
    have P := Lib.hid (show NmP w nm t (.returned (.string ⟨#[]⟩)) w1 from ⟨_, rfl, Lib.hid (.inr ⟨fun h => (by have := HG.out.2 h; cases this), rfl⟩), B1.out⟩)
    go_wp2_with fail
    go_ret
    exact P.out
  | true =>
    have hgood := HG.out.1 rfl
    have hwr := legal_wr hgood.1 HF.out
    have HWR := Lib.hid hwr
    have BA := Lib.hid (belA (Below.refl w1.heap.size w1) (Obj.cells #[.pointer none, .slice none 0 0, .slice nA nm.length nc] TW))
    have hsz := B1.out.size
    have E2 := Lib.hid (show We w1.heap.size S nm (.slice nA nm.length nc) (w1.alloc (Obj.cells #[.pointer none, .slice none 0 0, .slice nA nm.length nc] TW)) from
      ⟨⟨w1, HTX.out.below B1.out, Nat.le_refl _, BA.out⟩, (NM.out.low HV.out.sz B1.out).low (Nat.le_trans HV.out.sz hsz) BA.out, Nat.le_trans HV.out.sz hsz⟩)
    have hlen : ([] : List UInt8).length + (txB (nmV nm) t).1.length ≤ 1000000000000 := by
      have := (tx_len HNF.out t hwr HF.out).1
      simp only [List.length_nil]
      omega
    have CT := Lib.hid (wterm_any HNF.out (B := w1.heap.size) (b := w1.heap.size) (S := S) _ t (Nat.le_refl _) h5 hwr HF.out [] _ _ ((HV.out.below B1.out).below BA.out) (wr_new w1 _) E2.out hlen)
    have HGG := Lib.hid hgood
    have X2 := Lib.hid ((BA.out.block _ hx1).trans X1.out)
    clear hgood hwr hlen
    unfold TW at CT X2
    go_wp2_with fail
    refine CT.out.mono ?_
    rintro e w2 ⟨rfl, h2, k2⟩
    have B2 := Lib.hid ((B1.out.trans (BA.out.mono hsz)).trans (k2.low.mono hsz))
    have CS := Lib.hid (wrtext_any w1.heap.size w1.heap.size _ _ w2 h2 (by rw [List.nil_append]; exact tx_pos HWR.out))
    clear h2 k2 CT
    go_wp2_with fail
    refine CS.out.mono ?_
    rintro e w3 ⟨rfl, hb3⟩
    have P := Lib.hid (show NmP w nm t (.returned (.string ⟨([] ++ (txB (nmV nm) t).1).toArray⟩)) w3 from ⟨_, rfl, Lib.hid (.inl ⟨HGG.out, rfl⟩), B2.out.trans (hb3.mono hsz)⟩)
    clear hb3 CS
    go_wp2_with fail
    go_ret
    exact P.out
set_option maxRecDepth 100000 in
theorem pwrite_any {t : T} (h5 : t.nodes ≤ 5000) (hf : t.fit) (S : Nat) (v : Value) (w : World) (hv : GT w S t v) (hT : TabX w) :
    Calls Tryd.prog 12 #[v] w fun e w' => NmP w [] t e w' := by
  obtain ⟨k', n', s', A, m', c, rfl⟩ := hv.agg
  have BX := Lib.hid (belA (Below.refl w.heap.size w) (Obj.cells #[.int .i64 k', .int .i64 n', .string s', .slice A m' c] 24))
  have CN := Lib.hid (pnamed_any namesFit_nil h5 hf S _ _ _ (hv.below BX.out) (NmIn.none _ S) (hT.below BX.out))
  clear hv hT
  go_enter Tryd.func12, Tryd.ntmps12
  go_wp2_with fail
  refine CN.out.mono ?_
  rintro e w1 ⟨s, rfl, h1, hb⟩
  have P := Lib.hid (show NmP w [] t (.returned (.string s)) w1 from ⟨s, rfl, h1, BX.out.trans (hb.mono BX.out.size)⟩)
  clear h1 hb
  go_wp2_with fail
  go_ret
  exact P.out
end Go.Proofs.YtiefbdblefliaaaDoor
