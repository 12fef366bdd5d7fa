/- The reference's Parse of a script: it computes scriptN. -/
import Derived.Test.YtipddolkikhojaaDoorRp
import Derived.Test.YtipddolkikhojaaDoorPs
namespace Go.Proofs.YtipddolkikhojaaDoor
open Go.RowKit

theorem ba_inv1 (s : ByteArray) : ba s.data.toList = s := by obtain ⟨l⟩ := s; simp [ba]
/-- The last of the words that a line begins with, after k of them. -/
def fitK (l : List UInt8) : Nat → Int × List UInt8
  | 0 => (-1, [])
  | k + 1 => match behL (wordL k) l with
    | some r => ((k : Int), r)
    | none => fitK l k
theorem beh_head {c : UInt8} {w l r : List UInt8} (h : behL (c :: w) l = some r) : l.head? = some c := by
  rw [behL_some h]; rfl
theorem fit_word (l : List UInt8) : (wordOf l = none ∧ fitK l 4 = (-1, [])) ∨ ∃ (k : Nat) (r : List UInt8), k < 4 ∧ wordOf l = some (k, r) ∧ fitK l 4 = ((k : Int), r) := by
  unfold wordOf
  cases h0 : behL (wordL 0) l with
  | some r0 =>
    have e0 := beh_head h0
    have h1 : behL (wordL 1) l = none := by
      cases h : behL (wordL 1) l with
      | none => rfl
      | some r => have e := beh_head h; rw [e0] at e; exact absurd e (by decide)
    have h2 : behL (wordL 2) l = none := by
      cases h : behL (wordL 2) l with
      | none => rfl
      | some r => have e := beh_head h; rw [e0] at e; exact absurd e (by decide)
    have h3 : behL (wordL 3) l = none := by
      cases h : behL (wordL 3) l with
      | none => rfl
      | some r => have e := beh_head h; rw [e0] at e; exact absurd e (by decide)
    exact .inr ⟨0, r0, by omega, rfl, by simp [fitK, h0, h1, h2, h3]⟩
  | none =>
    cases h1 : behL (wordL 1) l with
    | some r0 =>
      have e0 := beh_head h1
      have h2 : behL (wordL 2) l = none := by
        cases h : behL (wordL 2) l with
        | none => rfl
        | some r => have e := beh_head h; rw [e0] at e; exact absurd e (by decide)
      have h3 : behL (wordL 3) l = none := by
        cases h : behL (wordL 3) l with
        | none => rfl
        | some r => have e := beh_head h; rw [e0] at e; exact absurd e (by decide)
      exact .inr ⟨1, r0, by omega, rfl, by simp [fitK, h1, h2, h3]⟩
    | none =>
      cases h2 : behL (wordL 2) l with
      | some r0 =>
        have e0 := beh_head h2
        have h3 : behL (wordL 3) l = none := by
          cases h : behL (wordL 3) l with
          | none => rfl
          | some r => have e := beh_head h; rw [e0] at e; exact absurd e (by decide)
        exact .inr ⟨2, r0, by omega, rfl, by simp [fitK, h2, h3]⟩
      | none =>
        cases h3 : behL (wordL 3) l with
        | some r0 => exact .inr ⟨3, r0, by omega, rfl, by simp [fitK, h3]⟩
        | none => exact .inl ⟨rfl, by simp [fitK, h0, h1, h2, h3]⟩
theorem fit_len (l : List UInt8) : ∀ k, (fitK l k).2.length ≤ l.length
  | 0 => Nat.zero_le _
  | k + 1 => by
    unfold fitK
    split
    · rename_i r h
      rw [behL_some h]
      simp
    · exact fit_len l k
theorem say_split : ∀ (ls : List (List UInt8)) (i n : Nat) (st st' : SS), sayAll (ls.take i) n st = .ok st' → i ≤ ls.length → sayAll ls n st = sayAll (ls.drop i) (n + i) st'
  | ls, 0, n, st, st', h, _ => by
    rw [List.take_zero] at h
    injection h with h
    subst h
    rfl
  | [], i + 1, n, st, st', h, hi => absurd hi (by simp)
  | l :: ls, i + 1, n, st, st', h, hi => by
    rw [List.take_succ_cons] at h
    cases hs : sayL st l with
    | error e => unfold sayAll at h; rw [hs] at h; cases h
    | ok s1 =>
      rw [sayAll_cons hs] at h ⊢
      rw [say_split ls i (n + 1) s1 st' h (by simpa using hi), List.drop_succ_cons, Nat.add_assoc, Nat.add_comm 1 i]
theorem say_snoc {ls : List (List UInt8)} {i : Nat} {l : List UInt8} {st st' : SS} (h : sayAll (ls.take i) 1 SS.start = .ok st) (hl : ls[i]? = some l) (hs : sayL st l = .ok st') : sayAll (ls.take (i + 1)) 1 SS.start = .ok st' := by
  have hi : i < ls.length := (List.getElem?_eq_some_iff.1 hl).1
  have h1 : ls.take i = (ls.take (i + 1)).take i := by rw [List.take_take, Nat.min_eq_left (Nat.le_succ i)]
  rw [h1] at h
  rw [say_split _ i _ _ _ h (by rw [List.length_take]; omega), List.take_add_one, hl]
  rw [List.drop_left' (by rw [List.length_take]; omega)]
  show sayAll [l] _ st = _
  rw [sayAll_cons hs]
  rfl
theorem say_fail {ls : List (List UInt8)} {i : Nat} {l : List UInt8} {st : SS} {e : Int} (h : sayAll (ls.take i) 1 SS.start = .ok st) (hl : ls[i]? = some l) (hs : sayL st l = .error e) : sayAll ls 1 SS.start = .error (i + 1, e) := by
  have hi : i < ls.length := (List.getElem?_eq_some_iff.1 hl).1
  rw [say_split _ i _ _ _ h (by omega), List.drop_eq_getElem_cons hi]
  obtain ⟨_, hg⟩ := List.getElem?_eq_some_iff.1 hl
  rw [hg]
  unfold sayAll
  rw [hs, Nat.add_comm]
/-- The boxes of the reference's Parse: the result, the script, the limits, what was said. -/
structure RI (b : Nat) (st : SS) (W : World) : Prop where
  h0 : W.heap[b]? = some (.cells #[.string ⟨#[]⟩, .string ⟨#[]⟩, .int .i64 0, .int .i64 0, .int .i64 0, .int .i64 0] TRS (0, 0))
  h1 : W.heap[b + 1]? = some (.cells #[.string (ba st.prog), .string (ba st.query), .int .i64 0, .int .i64 0, .int .i64 0, .int .i64 0] TRS (0, 0))
  h2 : W.heap[b + 1 + 1]? = some (.cells #[.int .i64 (st.lim 0), .int .i64 (st.lim 1), .int .i64 (st.lim 2), .int .i64 (st.lim 3)] 3 (0, 0))
  h3 : W.heap[b + 1 + 1 + 1]? = some (.cells #[.bool (st.sl 0), .bool (st.sl 1), .bool (st.sl 2), .bool (st.sl 3), .bool st.sq] 4 (0, 0))
theorem RI.low {b B : Nat} {st : SS} {W W' : World} (h : RI b st W) (hB : b + 1 + 1 + 1 < B) (hb : Below B W W') : RI b st W' :=
  ⟨(hb.block _ (by omega)).trans h.h0, (hb.block _ (by omega)).trans h.h1, (hb.block _ (by omega)).trans h.h2, (hb.block _ (by omega)).trans h.h3⟩
theorem RI.below {b : Nat} {st : SS} {W W' : World} (h : RI b st W) (hb : Below W.heap.size W W') : RI b st W' := h.low (heap_lt h.h3) hb
theorem unfz {w : World} {g : Nat} {cs : Array Value} {t : TypeId} (h : w.heap[g]? = some (.cells cs t (0, 0))) : ∀ i, w.frozen? ⟨g, i, none⟩ = false := fun i => by simp [World.frozen?, h]
theorem set_other {W : World} {g k i : Nat} {u : Value} (h : g ≠ k) : (W.setCell ⟨k, i, none⟩ u).heap[g]? = W.heap[g]? := Below.heap_setCell _ _ _ g h
theorem RI.prog {b : Nat} {st : SS} {W : World} (h : RI b st W) (p : ByteArray) : RI b { st with prog := p.data.toList } (W.setCell ⟨b + 1, 0, none⟩ (.string p)) := by
  refine ⟨(set_other (by omega)).trans h.h0, ?_, (set_other (by omega)).trans h.h2, (set_other (by omega)).trans h.h3⟩
  rw [blk_set h.h1, ba_inv1]
  rfl
theorem RI.said {b : Nat} {st : SS} {W : World} (h : RI b st W) : RI b { st with sq := true } (W.setCell ⟨b + 1 + 1 + 1, 4, none⟩ (.bool true)) := by
  refine ⟨(set_other (by omega)).trans h.h0, (set_other (by omega)).trans h.h1, (set_other (by omega)).trans h.h2, ?_⟩
  rw [blk_set h.h3]
  rfl
theorem RI.query {b : Nat} {st : SS} {W : World} (h : RI b st W) (p : ByteArray) : RI b { st with query := p.data.toList } (W.setCell ⟨b + 1, 1, none⟩ (.string p)) := by
  refine ⟨(set_other (by omega)).trans h.h0, ?_, (set_other (by omega)).trans h.h2, (set_other (by omega)).trans h.h3⟩
  rw [blk_set h.h1, ba_inv1]
  rfl
theorem RI.saidK {b : Nat} {st : SS} {W : World} (h : RI b st W) (k : Nat) (hk : k < 4) : RI b { st with sl := setF st.sl k true } (W.setCell ⟨b + 1 + 1 + 1, k, none⟩ (.bool true)) := by
  refine ⟨(set_other (by omega)).trans h.h0, (set_other (by omega)).trans h.h1, (set_other (by omega)).trans h.h2, ?_⟩
  rw [blk_set h.h3]
  obtain rfl | rfl | rfl | rfl : k = 0 ∨ k = 1 ∨ k = 2 ∨ k = 3 := by omega
  all_goals rfl
theorem RI.limK {b : Nat} {st : SS} {W : World} (h : RI b st W) (k : Nat) (hk : k < 4) (v : Int) : RI b { st with lim := setF st.lim k v } (W.setCell ⟨b + 1 + 1, k, none⟩ (.int .i64 v)) := by
  refine ⟨(set_other (by omega)).trans h.h0, (set_other (by omega)).trans h.h1, ?_, (set_other (by omega)).trans h.h3⟩
  rw [blk_set h.h2]
  obtain rfl | rfl | rfl | rfl : k = 0 ∨ k = 1 ∨ k = 2 ∨ k = 3 := by omega
  all_goals rfl
theorem RI.slK {b : Nat} {st : SS} {W : World} (h : RI b st W) (k : Nat) (hk : k < 4) : W.cell? ⟨b + 1 + 1 + 1, k, none⟩ = some (.bool (st.sl k)) := by
  rw [cell_of_row W _ k _ _ _ h.h3]
  obtain rfl | rfl | rfl | rfl : k = 0 ∨ k = 1 ∨ k = 2 ∨ k = 3 := by omega
  all_goals rfl
theorem RI.lmK {b : Nat} {st : SS} {W : World} (h : RI b st W) (k : Nat) (hk : k < 4) : W.cell? ⟨b + 1 + 1, k, none⟩ = some (.int .i64 (st.lim k)) := by
  rw [cell_of_row W _ k _ _ _ h.h2]
  obtain rfl | rfl | rfl | rfl : k = 0 ∨ k = 1 ∨ k = 2 ∨ k = 3 := by omega
  all_goals rfl
theorem mk5 (w : World) : (Instr.makeSlice 78 (.int .i64 5) (.int .i64 5)).run Tryd.prog w = .ok (.slice (some ⟨w.heap.size, 0, none⟩) 5 5) (w.alloc (.cells #[.bool false, .bool false, .bool false, .bool false, .bool false] 4)) := by kernel_rfl
theorem first4 (w W4 : World) (hW : ((((w.alloc (Obj.cells #[.string ⟨#[]⟩, .string ⟨#[]⟩, .int .i64 0, .int .i64 0, .int .i64 0, .int .i64 0] TRS)).alloc (Obj.cells #[.string ⟨#[]⟩, .string ⟨#[]⟩, .int .i64 0, .int .i64 0, .int .i64 0, .int .i64 0] TRS)).alloc
      (Obj.cells #[.int .i64 1000, .int .i64 500, .int .i64 100, .int .i64 10] 3)).alloc (.cells #[.bool false, .bool false, .bool false, .bool false, .bool false] 4)) = W4) : RI w.heap.size SS.start W4 ∧ W4.heap.size = w.heap.size + 4 ∧ Below w.heap.size w W4 := by
  subst hW
  refine ⟨⟨?_, ?_, ?_, ?_⟩, ?_, ?_⟩
  · exact alloc_old _ (alloc_old _ (alloc_old _ (alloc_at _ _ rfl)))
  · exact alloc_old _ (alloc_old _ (alloc_at _ _ (by simp [World.size_alloc])))
  · exact alloc_old _ (alloc_at _ _ (by simp [World.size_alloc]))
  · exact alloc_at _ _ (by simp [World.size_alloc])
  · simp [World.size_alloc]
  · exact belA (belA (belA (belA (Below.refl _ _) _) _) _) _
/-- The result's box, written. -/
abbrev putR (W : World) (b : Nat) (v0 v1 : ByteArray) (v2 v3 v4 v5 : Int) : World := (((((W.setCell ⟨b, 0, none⟩ (.string v0)).setCell ⟨b, 1, none⟩ (.string v1)).setCell ⟨b, 2, none⟩ (.int .i64 v2)).setCell ⟨b, 3, none⟩ (.int .i64 v3)).setCell ⟨b, 4, none⟩ (.int .i64 v4)).setCell ⟨b, 5, none⟩ (.int .i64 v5)
theorem putR_box {W : World} {b : Nat} {t : TypeId} {u0 u1 u2 u3 u4 u5 : Value} (h : W.heap[b]? = some (.cells #[u0, u1, u2, u3, u4, u5] t (0, 0))) (v0 v1 : ByteArray) (v2 v3 v4 v5 : Int) :
    (putR W b v0 v1 v2 v3 v4 v5).heap[b]? = some (.cells #[.string v0, .string v1, .int .i64 v2, .int .i64 v3, .int .i64 v4, .int .i64 v5] t (0, 0)) ∧ (∀ k, k ≠ b → (putR W b v0 v1 v2 v3 v4 v5).heap[k]? = W.heap[k]?) ∧ ∀ B, B ≤ b → Below B W (putR W b v0 v1 v2 v3 v4 v5) := by
  refine ⟨?_, ?_, ?_⟩
  · simpa using blk_set (blk_set (blk_set (blk_set (blk_set (blk_set h 0 (.string v0)) 1 (.string v1)) 2 (.int .i64 v2)) 3 (.int .i64 v3)) 4 (.int .i64 v4)) 5 (.int .i64 v5)
  · intro k hk
    unfold putR
    rw [set_other hk, set_other hk, set_other hk, set_other hk, set_other hk, set_other hk]
  · intro B hB
    exact ((((((Below.refl B W).setCell (p := ⟨b, 0, none⟩) hB _).setCell (p := ⟨b, 1, none⟩) hB _).setCell (p := ⟨b, 2, none⟩) hB _).setCell (p := ⟨b, 3, none⟩) hB _).setCell (p := ⟨b, 4, none⟩) hB _).setCell (p := ⟨b, 5, none⟩) hB _
/-- The limits, written into the script's box. -/
theorem lims_box {b : Nat} {st : SS} {W : World} (h : RI b st W) :
    ((((W.setCell ⟨b + 1, 2, none⟩ (.int .i64 (st.lim 0))).setCell ⟨b + 1, 3, none⟩ (.int .i64 (st.lim 1))).setCell ⟨b + 1, 4, none⟩ (.int .i64 (st.lim 2))).setCell ⟨b + 1, 5, none⟩ (.int .i64 (st.lim 3))).drew.heap[b + 1]? = some (.cells #[.string (ba st.prog), .string (ba st.query), .int .i64 (st.lim 0), .int .i64 (st.lim 1), .int .i64 (st.lim 2), .int .i64 (st.lim 3)] TRS (0, 0)) ∧
    ((((W.setCell ⟨b + 1, 2, none⟩ (.int .i64 (st.lim 0))).setCell ⟨b + 1, 3, none⟩ (.int .i64 (st.lim 1))).setCell ⟨b + 1, 4, none⟩ (.int .i64 (st.lim 2))).setCell ⟨b + 1, 5, none⟩ (.int .i64 (st.lim 3))).drew.heap[b]? = some (.cells #[.string ⟨#[]⟩, .string ⟨#[]⟩, .int .i64 0, .int .i64 0, .int .i64 0, .int .i64 0] TRS (0, 0)) ∧
    ∀ B, B ≤ b → Below B W ((((W.setCell ⟨b + 1, 2, none⟩ (.int .i64 (st.lim 0))).setCell ⟨b + 1, 3, none⟩ (.int .i64 (st.lim 1))).setCell ⟨b + 1, 4, none⟩ (.int .i64 (st.lim 2))).setCell ⟨b + 1, 5, none⟩ (.int .i64 (st.lim 3))).drew := by
  refine ⟨?_, ?_, ?_⟩
  · have := blk_set (blk_set (blk_set (blk_set h.h1 2 (.int .i64 (st.lim 0))) 3 (.int .i64 (st.lim 1))) 4 (.int .i64 (st.lim 2))) 5 (.int .i64 (st.lim 3))
    exact this.trans (by first | rfl | simp)
  · exact (set_other (by omega)).trans ((set_other (by omega)).trans ((set_other (by omega)).trans ((set_other (by omega)).trans h.h0)))
  · intro B hB
    have e : B ≤ b + 1 := by omega
    exact (((((Below.refl B W).setCell (p := ⟨b + 1, 2, none⟩) e _).setCell (p := ⟨b + 1, 3, none⟩) e _).setCell (p := ⟨b + 1, 4, none⟩) e _).setCell (p := ⟨b + 1, 5, none⟩) e _).drew
/-- The end with an error. -/
theorem rs_err {tx : List UInt8} {w W : World} {n : Nat} {er : Int} (hs : scriptN tx = .error (n, er)) (he : er ≠ 0) (hb : Below w.heap.size w W) (h : W.heap[w.heap.size]? = some (.cells #[.string ⟨#[]⟩, .string ⟨#[]⟩, .int .i64 0, .int .i64 0, .int .i64 0, .int .i64 0] TRS (0, 0))) :
    ParseSP tx w (.returned (.tuple #[.agg #[.string ⟨#[]⟩, .string ⟨#[]⟩, .int .i64 0, .int .i64 0, .int .i64 0, .int .i64 0], .int .i64 (n : Int), .int .i64 er])) (putR W w.heap.size ⟨#[]⟩ ⟨#[]⟩ 0 0 0 0) :=
  ⟨⟨_, _, _, _, _, _, _, _, rfl, .inl ⟨by rw [hs, Int.toNat_natCast], by omega, he, rfl, rfl, rfl, rfl, rfl, rfl⟩⟩, hb.trans ((putR_box h _ _ _ _ _ _).2.2 _ (Nat.le_refl _))⟩
theorem head35 {x : ByteArray} (h : (bn x 0 : Int) = 35) : bu x 0 = 35 := by
  have h1 : bn x 0 = 35 := by omega
  unfold bn at h1
  exact UInt8.toNat_inj.1 h1
theorem head35' {x : ByteArray} (h : bu x 0 = 35) : (bn x 0 : Int) = 35 := by
  have h1 : bn x 0 = (bu x 0).toNat := rfl
  rw [h1, h]; rfl
/-- The loop over the lines: i of them said. -/
structure RL (b : Nat) (tx : List UInt8) (w w6 : World) (i : Nat) (st : SS) (W : World) : Prop where
  box : RI b st W
  say : sayAll ((linesL tx).take i) 1 SS.start = .ok st
  keep : ∀ g, b + 4 ≤ g → g < w6.heap.size → W.heap[g]? = w6.heap[g]?
  low : Below b w W
  sz : w6.heap.size ≤ W.heap.size
  len : st.prog.length ≤ 50003 * i
theorem RL.step {b : Nat} {tx : List UInt8} {w w6 : World} {i : Nat} {st st' : SS} {W W' : World} {l : List UInt8} (h : RL b tx w w6 i st W) (hl : (linesL tx)[i]? = some l) (hs : sayL st l = .ok st') (hi : RI b st' W')
    (hk : ∀ g, b + 4 ≤ g → g < W.heap.size → W'.heap[g]? = W.heap[g]?) (hb : Below b W W') (hp : st'.prog.length ≤ st.prog.length + 50003) : RL b tx w w6 (i + 1) st' W' :=
  ⟨hi, say_snoc h.say hl hs, fun g h1 h2 => (hk g h1 (by have := h.sz; omega)).trans (h.keep g h1 h2), h.low.trans hb, Nat.le_trans h.sz hb.size, by have := h.len; omega⟩
theorem RL.same {b : Nat} {tx : List UInt8} {w w6 : World} {i : Nat} {st : SS} {W W' : World} {l : List UInt8} (h : RL b tx w w6 i st W) (hl : (linesL tx)[i]? = some l) (hs : sayL st l = .ok st) (hb : Below W.heap.size W W') : RL b tx w w6 (i + 1) st W' :=
  h.step hl hs (h.box.below hb) (fun g _ h2 => hb.block g h2) (hb.mono (by have := heap_lt h.box.h3; omega)) (by omega)
theorem RL.bar {b : Nat} {tx : List UInt8} {w w6 : World} {i : Nat} {st : SS} {W W' : World} {l r : List UInt8} (h : RL b tx w w6 i st W) (hl : (linesL tx)[i]? = some l) (hs : sayL st l = .ok { st with prog := st.prog ++ r ++ [10] }) (hr : r.length ≤ 50000) (hb : Below W.heap.size W W') :
    RL b tx w w6 (i + 1) { st with prog := st.prog ++ r ++ [10] } (W'.setCell ⟨b + 1, 0, none⟩ (.string (ba st.prog ++ ba r ++ ⟨#[10]⟩))) := by
  have e : (ba st.prog ++ ba r ++ ⟨#[10]⟩ : ByteArray).data.toList = st.prog ++ r ++ [10] := by
    rw [cat2, cat2]
    simp [ba]
  have h3 := heap_lt h.box.h3
  refine h.step hl hs ?_ (fun g h1 h2 => (set_other (by omega)).trans (hb.block g h2)) ((hb.mono (by omega)).setCell (p := ⟨b + 1, 0, none⟩) (by show b ≤ b + 1; omega) _) ?_
  · rw [← e]
    exact (h.box.below hb).prog _
  · simp only [List.length_append, List.length_cons, List.length_nil]
    omega
theorem RL.ask {b : Nat} {tx : List UInt8} {w w6 : World} {i : Nat} {st : SS} {W W' : World} {l r : List UInt8} (h : RL b tx w w6 i st W) (hl : (linesL tx)[i]? = some l) (hs : sayL st l = .ok { st with query := r, sq := true }) (hb : Below W.heap.size W W') :
    RL b tx w w6 (i + 1) { st with query := r, sq := true } ((W'.setCell ⟨b + 1 + 1 + 1, 4, none⟩ (.bool true)).setCell ⟨b + 1, 1, none⟩ (.string (ba r))) := by
  have h3 := heap_lt h.box.h3
  have e : (ba r).data.toList = r := by simp [ba]
  refine h.step hl hs ?_ (fun g h1 h2 => (set_other (by omega)).trans ((set_other (by omega)).trans (hb.block g h2))) (((hb.mono (by omega)).setCell (p := ⟨b + 1 + 1 + 1, 4, none⟩) (by show b ≤ b + 1 + 1 + 1; omega) _).setCell (p := ⟨b + 1, 1, none⟩) (by show b ≤ b + 1; omega) _) (by show st.prog.length ≤ _; omega)
  have h4 := (h.box.below hb).said.query (ba r)
  rw [e] at h4
  exact h4
theorem RL.lim {b : Nat} {tx : List UInt8} {w w6 : World} {i : Nat} {st : SS} {W W' : World} {l : List UInt8} {k : Nat} {v : Int} (h : RL b tx w w6 i st W) (hl : (linesL tx)[i]? = some l) (hk : k < 4) (hs : sayL st l = .ok { st with lim := setF st.lim k v, sl := setF st.sl k true }) (hb : Below W.heap.size W W') :
    RL b tx w w6 (i + 1) { st with lim := setF st.lim k v, sl := setF st.sl k true } ((W'.setCell ⟨b + 1 + 1 + 1, k, none⟩ (.bool true)).setCell ⟨b + 1 + 1, k, none⟩ (.int .i64 v)) := by
  have h3 := heap_lt h.box.h3
  refine h.step hl hs ?_ (fun g h1 h2 => (set_other (by omega)).trans ((set_other (by omega)).trans (hb.block g h2))) (((hb.mono (by omega)).setCell (p := ⟨b + 1 + 1 + 1, k, none⟩) (by show b ≤ b + 1 + 1 + 1; omega) _).setCell (p := ⟨b + 1 + 1, k, none⟩) (by show b ≤ b + 1 + 1; omega) _) (by show st.prog.length ≤ _; omega)
  exact ((h.box.below hb).saidK k hk).limK k hk v
theorem script_fail {tx : List UInt8} {i : Nat} {l : List UInt8} {st : SS} {e : Int} (h : sayAll ((linesL tx).take i) 1 SS.start = .ok st) (hl : (linesL tx)[i]? = some l) (hs : sayL st l = .error e) : scriptN tx = .error (i + 1, e) := by
  unfold scriptN
  rw [say_fail h hl hs]
set_option maxRecDepth 100000 in
set_option maxHeartbeats 16000000 in
theorem rsparse_any (s : ByteArray) (w : World) (hs : s.size ≤ 50000) :
    Calls Tryd.prog 16 #[.string s] w fun e w' => ParseSP s.data.toList w e w' := by
  have CL := Lib.hid (fun (W : World) => rlines_any s W (by omega))
  have hmk := mk5
  go_enter Tryd.func16, Tryd.ntmps16
  go_wp2_with fail
  obtain ⟨W4, hW4⟩ : ∃ W4, ((((w.alloc (Obj.cells #[.string ⟨#[]⟩, .string ⟨#[]⟩, .int .i64 0, .int .i64 0, .int .i64 0, .int .i64 0] TRS)).alloc (Obj.cells #[.string ⟨#[]⟩, .string ⟨#[]⟩, .int .i64 0, .int .i64 0, .int .i64 0, .int .i64 0] TRS)).alloc
      (Obj.cells #[.int .i64 1000, .int .i64 500, .int .i64 100, .int .i64 10] 3)).alloc (.cells #[.bool false, .bool false, .bool false, .bool false, .bool false] 4)) = W4 := ⟨_, rfl⟩
  obtain ⟨i4, s4, b4⟩ := first4 w W4 hW4
  rw [hW4]
  have I4 := Lib.hid i4
  have S4 := Lib.hid s4
  have B4 := Lib.hid b4
  have C1 := Lib.hid (CL.out W4)
  clear hW4 i4 s4 b4 hmk CL
  refine C1.out.mono ?_
  rintro e w6 ⟨⟨v, ts, rfl, hown, htl, hts⟩, hb6⟩
  have I6 := Lib.hid (I4.out.below hb6)
  have B6 := Lib.hid (B4.out.trans (hb6.mono B4.out.size))
  obtain ⟨A, cc, rfl, hA1, hA2, hA3, hx⟩ := own_open hown
  have HX := Lib.hid hx
  have HTL := Lib.hid htl
  have L0 := Lib.hid (show RL w.heap.size s.data.toList w w6 0 SS.start w6 from ⟨I6.out, by rw [List.take_zero]; rfl, fun _ _ _ => rfl, B6.out, Nat.le_refl _, Nat.zero_le _⟩)
  have hcm : ts.length ≤ 50000 := by omega
  have S6 := Lib.hid (show w.heap.size + 4 ≤ w6.heap.size by have := hb6.size; have := S4.out; omega)
  clear hb6 C1 hown htl hx hA2
  go_wp2_with fail
  go_loopw [3, 4, 9] (fun nv ev iv wr => nv = .int .i64 0 ∧ ev = .int .i64 0 ∧ ∃ (i : Nat) (st : SS), iv = .int .i64 (i : Int) ∧ i ≤ ts.length ∧ RL w.heap.size s.data.toList w w6 i st wr) (fun _ _ iv _ => ts.length - (intOf iv).toNat)
  case atStart => exact ⟨rfl, rfl, 0, SS.start, rfl, Nat.zero_le _, L0.out⟩
  case round =>
    obtain ⟨rfl, rfl, i, st, rfl, hi, hRL⟩ := hrel
    have HL := Lib.hid hRL
    by_cases hil : i < ts.length
    · have hil' : (i : Int) < (ts.length : Int) := by omega
      obtain ⟨g, cur, rfl, hg, hh, hcur⟩ := HX.out (by omega)
      obtain ⟨x, hx⟩ : ∃ x, ts[i]? = some x := ⟨_, List.getElem?_eq_getElem hil⟩
      have hg6 := heap_lt hh
      have hgr : wr.heap[g]? = some (.cells cur 9 (0, 0)) := (HL.out.keep g (by have := S4.out; omega) hg6).trans hh
      have hc0 : wr.cell? ⟨g, i, none⟩ = some (.string x) := by
        rw [cell_of_row wr g i _ _ _ hgr, hcur i (by omega), List.getElem?_map, hx]
        rfl
      have hxl : (linesL s.data.toList)[i]? = some x.data.toList := by rw [hts.out, List.getElem?_map, hx]; rfl
      have hxs : x.size ≤ 50000 := by
        have h3 := lines_each _ _ _ (List.mem_of_getElem? hxl)
        have h4 : s.data.toList.length = s.size := Array.length_toList
        have h5 : x.data.toList.length = x.size := Array.length_toList
        omega
      have hpb : ∀ (K : Nat) (h : K < x.size), (x[K]'h).toNat = bn x K := fun K h => bn_eq x K h
      have HXL := Lib.hid hxl
      have KC := Lib.hid (fun (W : World) (h : Below wr.heap.size wr W) => (h.cell (p := ⟨g, i, none⟩) (by have := HL.out.sz; show g < _; omega)).trans hc0)
      clear hh hcur hx hxl hg hgr hRL
      rcases Nat.eq_zero_or_pos x.size with hx0 | hx0
      · have hxe : (x.toList == []) = true := by
          rw [ByteArray.toList_eq, List.eq_nil_of_length_eq_zero (show x.data.toList.length = 0 by rw [Array.length_toList]; exact hx0)]
          rfl
        have HS := Lib.hid (show sayL st x.data.toList = .ok st by
          unfold sayL
          rw [if_pos (.inl (List.eq_nil_of_length_eq_zero (show x.data.toList.length = 0 by rw [Array.length_toList]; exact hx0)))])
        clear hx0
        go_wp2_with fail
        go_roundw
        case rel => exact ⟨rfl, rfl, i + 1, st, by go_num, hil, HL.out.same HXL.out HS.out (Below.refl _ _)⟩
        case measure => simp [intOf]; omega
      · obtain ⟨K, hK⟩ : ∃ K, x.size = K + 1 := ⟨x.size - 1, by omega⟩
        have hxe : (x.toList == []) = false := by
          rw [ByteArray.toList_eq]
          cases h : x.data.toList with
          | nil => have := congrArg List.length h; rw [Array.length_toList] at this; exact absurd (show x.size = 0 from this) (by omega)
          | cons => rfl
        have hdr : x.data.toList = bu x 0 :: x.data.toList.drop 1 := by
          have h := drop_bu (s := x) (i := 0) hx0
          simpa using h
        by_cases hsh : (bn x 0 : Int) = 35
        · have hsh' : ((bn x 0 : Int) == 35) = true := by simpa using hsh
          have HS := Lib.hid (show sayL st x.data.toList = .ok st by
            unfold sayL
            rw [if_pos (.inr (by rw [hdr, head35 hsh]; rfl))])
          clear hsh hdr
          go_wp2_with fail
          go_roundw
          case rel => exact ⟨rfl, rfl, i + 1, st, by go_num, hil, HL.out.same HXL.out HS.out (Below.refl _ _)⟩
          case measure => simp [intOf]; omega
        have hsh' : ((bn x 0 : Int) == 35) = false := by simpa using hsh
        have HN := Lib.hid (show ¬ (x.data.toList = [] ∨ x.data.toList.head? = some 35) from fun h => by
          rw [hdr] at h
          rcases h with h | h
          · cases h
          · exact hsh (head35' (by simpa using h)))
        have CB := Lib.hid (behind_any x ⟨#[124, 32]⟩ wr)
        rw [show (⟨#[124, 32]⟩ : ByteArray).data.toList = barW from rfl] at CB
        clear hsh hdr
        cases hbar : behL barW x.data.toList with
        | some r =>
          rw [hbar, show behO (some r) = (ba r, true) from rfl] at CB
          have HS := Lib.hid (show sayL st x.data.toList = .ok { st with prog := st.prog ++ r ++ [10] } by
            unfold sayL
            rw [if_neg HN.out, hbar])
          have hrl : r.length ≤ 50000 := by
            have h1 := congrArg List.length (behL_some hbar)
            rw [List.length_append, Array.length_toList] at h1
            have h2 : x.data.size = x.size := rfl
            omega
          have HRL := Lib.hid hrl
          have hcat1 : ¬ (9223372036854775807 < (ba st.prog).size + (ba r).size) := by
            have h1 := HL.out.len
            have h2 : (ba st.prog).size = st.prog.length := by simp [ba]; rfl
            have h3 : (ba r).size = r.length := by simp [ba]; rfl
            omega
          have hcat2 : ¬ (9223372036854775807 < (ba st.prog).size + (ba r).size + 1) := by
            have h1 := HL.out.len
            have h2 : (ba st.prog).size = st.prog.length := by simp [ba]; rfl
            have h3 : (ba r).size = r.length := by simp [ba]; rfl
            omega
          have hcat3 : ¬ (9223372036854775806 < (ba st.prog).size + (ba r).size) := by omega
          clear hbar hrl
          go_wp2_with fail
          refine CB.out.mono ?_
          rintro e W1 ⟨rfl, hb1⟩
          have I1 := Lib.hid (HL.out.box.below hb1)
          have N1 := Lib.hid (HL.out.bar HXL.out HS.out HRL.out hb1)
          have x1 := I1.out.h1
          have fz1 := unfz x1
          obtain ⟨y0, y1, y2, y3, y4, y5⟩ := box6 x1
          clear hb1 CB x1
          go_wp2_with fail
          go_roundw
          case rel => exact ⟨rfl, rfl, i + 1, _, by go_num, hil, N1.out⟩
          case measure => simp [intOf]; omega
        | none =>
          rw [hbar, show behO none = (⟨#[]⟩, false) from rfl] at CB
          have HB := Lib.hid hbar
          clear hbar
          go_wp2_with fail
          refine CB.out.mono ?_
          rintro e W1 ⟨rfl, hb1⟩
          have B1 := Lib.hid hb1
          have I1 := Lib.hid (HL.out.box.below hb1)
          have CA := Lib.hid (behind_any x ⟨#[63, 32]⟩ W1)
          rw [show (⟨#[63, 32]⟩ : ByteArray).data.toList = askW from rfl] at CA
          have k1 := KC.out W1 hb1
          clear hb1 CB
          cases hask : behL askW x.data.toList with
          | some r =>
            rw [hask, show behO (some r) = (ba r, true) from rfl] at CA
            have HA := Lib.hid hask
            clear hask
            go_wp2_with fail
            refine CA.out.mono ?_
            rintro e W2 ⟨rfl, hb2⟩
            have B2 := Lib.hid (B1.out.trans (hb2.mono B1.out.size))
            have I2 := Lib.hid (I1.out.below hb2)
            clear hb2 CA
            cases hsq : st.sq with
            | true =>
              have HS := Lib.hid (show sayL st x.data.toList = .error 34 by
                unfold sayL
                rw [if_neg HN.out, HB.out, HA.out]
                dsimp only
                rw [hsq]
                rfl)
              have hh3 := I2.out.h3
              rw [hsq] at hh3
              have s4 := cell_of_row W2 _ 4 _ _ _ hh3
              have hh0 := I2.out.h0
              have fz0 := unfz hh0
              obtain ⟨z0, z1, z2, z3, z4, z5⟩ := box6 hh0
              have PB := Lib.hid (putR_box hh0 ⟨#[]⟩ ⟨#[]⟩ 0 0 0 0)
              have RE := Lib.hid (rs_err (script_fail HL.out.say HXL.out HS.out) (by decide) (HL.out.low.trans (B2.out.mono HL.out.low.size)) hh0)
              clear hsq hh3 hh0
              go_wp2_with fail
              obtain ⟨q0, q1, q2, q3, q4, q5⟩ := box6 PB.out.1
              refine bodyPost_ret (v := .tuple #[.agg #[.string ⟨#[]⟩, .string ⟨#[]⟩, .int .i64 0, .int .i64 0, .int .i64 0, .int .i64 0], .int .i64 ((i : Int) + 1), .int .i64 34]) (by simp [results, go_sem, q0, q1, q2, q3, q4, q5]) rfl ?_
              exact RE.out
            | false =>
              have HS := Lib.hid (show sayL st x.data.toList = .ok { st with query := r, sq := true } by
                unfold sayL
                rw [if_neg HN.out, HB.out, HA.out]
                dsimp only
                rw [hsq]
                rfl)
              have hh3 := I2.out.h3
              rw [hsq] at hh3
              have s4 := cell_of_row W2 _ 4 _ _ _ hh3
              have N2 := Lib.hid (HL.out.ask HXL.out HS.out B2.out)
              have hh1 := I2.out.h1
              have fz1 := unfz hh1
              have fz3 := unfz hh3
              obtain ⟨y0, y1, y2, y3, y4, y5⟩ := box6 hh1
              clear hsq hh1 hh3
              go_wp2_with fail
              go_roundw
              case rel => exact ⟨rfl, rfl, i + 1, _, by go_num, hil, N2.out⟩
              case measure => simp [intOf]; omega
          | none =>
            rw [hask, show behO none = (⟨#[]⟩, false) from rfl] at CA
            have HA := Lib.hid hask
            clear hask
            go_wp2_with fail
            refine CA.out.mono ?_
            rintro e W2 ⟨rfl, hb2⟩
            have B2 := Lib.hid (B1.out.trans (hb2.mono B1.out.size))
            clear hb2 CA k1
            go_wp2_with fail
            obtain ⟨wo, rfl⟩ : ∃ wo, wo = wr := ⟨_, rfl⟩
            go_loopw [14, 15, 16] (fun av nv kv wq => ∃ (k : Nat) (fa : Int) (fn : List UInt8), kv = .int .i64 (k : Int) ∧ k ≤ 4 ∧ av = .int .i64 fa ∧ nv = .string (ba fn) ∧ Hid (fitK x.data.toList k = (fa, fn)) ∧ Below wo.heap.size wo wq) (fun _ _ kv _ => 4 - (intOf kv).toNat)
            case atStart => exact ⟨0, -1, [], rfl, by omega, rfl, rfl, Lib.hid rfl, B2.out⟩
            case round =>
              obtain ⟨k, fa, fn, rfl, hk, rfl, rfl, HF, hbq⟩ := hrel
              have HBq := Lib.hid hbq
              by_cases hk4 : k < 4
              · have hk4' : (k : Int) < 4 := by omega
                obtain ⟨wd, hwd⟩ : ∃ wd, ba (wordL k) = wd := ⟨_, rfl⟩
                have hwl : wd.data.toList = wordL k := by rw [← hwd]; simp [ba]
                have CWd := Lib.hid (fun (W : World) => rword_any k hk4 W)
                rw [hwd] at CWd
                have KP := Lib.hid (fun (W : World) (h : Below wr.heap.size wr W) => KC.out W (hbq.trans (h.mono hbq.size)))
                have CBk := Lib.hid (fun (W : World) => behind_any x wd W)
                rw [hwl] at CBk
                have b0 := (Below.refl wr.heap.size wr).drew
                cases hbk : behL (wordL k) x.data.toList with
                | some r =>
                  rw [hbk, show behO (some r) = (ba r, true) from rfl] at CBk
                  have F := Lib.hid (show fitK x.data.toList (k + 1) = ((k : Int), r) by unfold fitK; rw [hbk])
                  clear hbk hbq hwd hwl
                  go_wp2_with fail
                  go_region_held3 (fun W => W.cell? ⟨g, i, none⟩ = some (.string x))
                    (first | (with_reducible exact KP.out _ b0) | (with_reducible exact KP.out _ b1) | (with_reducible exact KP.out _ b2))
                    ((first
                      | ((with_reducible refine (CWd.out _).mono ?_); rintro e w4 ⟨rfl, k4⟩; have b1 := b0.trans (k4.mono b0.size); clear k4)
                      | ((with_reducible refine (CBk.out _).mono ?_); rintro e w5 ⟨rfl, k5⟩; have b2 := b1.trans (k5.mono b1.size); clear k5)))
                  go_wp2_with fail
                  go_roundw
                  case rel => first | exact ⟨k + 1, _, _, by go_num, hk4, rfl, rfl, F, HBq.out.trans (b2.mono HBq.out.size)⟩ | exact ⟨_, _, _, _, _, _, _, _, _, ⟨k + 1, _, _, by go_num, hk4, rfl, rfl, F, HBq.out.trans (b2.mono HBq.out.size)⟩, rfl⟩
                  case measure => simp [intOf]; omega
                | none =>
                  rw [hbk, show behO none = (⟨#[]⟩, false) from rfl] at CBk
                  have F := Lib.hid (show fitK x.data.toList (k + 1) = (fa, fn) by unfold fitK; rw [hbk]; exact HF.out)
                  clear hbk hbq hwd hwl
                  go_wp2_with fail
                  go_region_held3 (fun W => W.cell? ⟨g, i, none⟩ = some (.string x))
                    (first | (with_reducible exact KP.out _ b0) | (with_reducible exact KP.out _ b1) | (with_reducible exact KP.out _ b2))
                    ((first
                      | ((with_reducible refine (CWd.out _).mono ?_); rintro e w4 ⟨rfl, k4⟩; have b1 := b0.trans (k4.mono b0.size); clear k4)
                      | ((with_reducible refine (CBk.out _).mono ?_); rintro e w5 ⟨rfl, k5⟩; have b2 := b1.trans (k5.mono b1.size); clear k5)))
                  go_wp2_with fail
                  go_roundw
                  case rel => first | exact ⟨k + 1, _, _, by go_num, hk4, rfl, rfl, F, HBq.out.trans (b2.mono HBq.out.size)⟩ | exact ⟨_, _, _, _, _, _, _, _, _, ⟨k + 1, _, _, by go_num, hk4, rfl, rfl, F, HBq.out.trans (b2.mono HBq.out.size)⟩, rfl⟩
                  case measure => simp [intOf]; omega
              · obtain rfl : k = 4 := by omega
                have I3 := Lib.hid (HL.out.box.below hbq)
                clear hbq
                rcases fit_word x.data.toList with ⟨hwo, hf⟩ | ⟨k, r, hk4, hwo, hf⟩
                · rw [HF.out] at hf
                  obtain ⟨rfl, rfl⟩ : fa = -1 ∧ fn = [] := by injection hf with h1 h2; exact ⟨h1, h2⟩
                  have HS := Lib.hid (show sayL st x.data.toList = .error 220 by
                    unfold sayL
                    rw [if_neg HN.out, HB.out, HA.out, hwo])
                  clear hwo hf
                  have hh0 := I3.out.h0
                  have fz0 := unfz hh0
                  obtain ⟨z0, z1, z2, z3, z4, z5⟩ := box6 hh0
                  have PB := Lib.hid (putR_box hh0 ⟨#[]⟩ ⟨#[]⟩ 0 0 0 0)
                  have RE := Lib.hid (rs_err (script_fail HL.out.say HXL.out HS.out) (by decide) (HL.out.low.trans (HBq.out.mono HL.out.low.size)) hh0)
                  clear hh0
                  go_wp2_with fail
                  obtain ⟨q0, q1, q2, q3, q4, q5⟩ := box6 PB.out.1
                  refine bodyPost_ret (v := .tuple #[.agg #[.string ⟨#[]⟩, .string ⟨#[]⟩, .int .i64 0, .int .i64 0, .int .i64 0, .int .i64 0], .int .i64 ((i : Int) + 1), .int .i64 220]) (by simp [results, go_sem, q0, q1, q2, q3, q4, q5]) rfl ?_
                  exact RE.out
                · rw [HF.out] at hf
                  obtain ⟨rfl, rfl⟩ : fa = (k : Int) ∧ fn = r := by injection hf with h1 h2; exact ⟨h1, h2⟩
                  have hk0 : ¬ ((k : Int) < 0) := by omega
                  have CN := Lib.hid (rparse_any (ba fn) wr)
                  have HWO := Lib.hid hwo
                  clear hwo hf
                  go_wp2_with fail
                  refine CN.out.mono ?_
                  rintro e w' ⟨⟨v, er, rfl, hv, hpn⟩, rfl⟩
                  have HPN := Lib.hid hpn.out
                  clear CN hpn
                  rcases HPN.out with ⟨rfl, hp⟩ | ⟨rfl, rfl, hp⟩
                  · have sk := I3.out.slK k hk4
                    have lk := I3.out.lmK k hk4
                    have hkn : (k : Int) < 5 := by omega
                    have hkm : (k : Int) < 4 := by omega
                    cases hsl : st.sl k with
                    | true =>
                      have HS := Lib.hid (show sayL st x.data.toList = .error 34 by
                        unfold sayL
                        rw [if_neg HN.out, HB.out, HA.out, HWO.out]
                        dsimp only
                        rw [hp]
                        dsimp only
                        rw [hsl]
                        rfl)
                      rw [hsl] at sk
                      clear hsl hp
                      have hh0 := I3.out.h0
                      have fz0 := unfz hh0
                      obtain ⟨z0, z1, z2, z3, z4, z5⟩ := box6 hh0
                      have PB := Lib.hid (putR_box hh0 ⟨#[]⟩ ⟨#[]⟩ 0 0 0 0)
                      have RE := Lib.hid (rs_err (script_fail HL.out.say HXL.out HS.out) (by decide) (HL.out.low.trans (HBq.out.mono HL.out.low.size)) hh0)
                      clear hh0
                      go_wp2_with fail
                      obtain ⟨q0, q1, q2, q3, q4, q5⟩ := box6 PB.out.1
                      refine bodyPost_ret (v := .tuple #[.agg #[.string ⟨#[]⟩, .string ⟨#[]⟩, .int .i64 0, .int .i64 0, .int .i64 0, .int .i64 0], .int .i64 ((i : Int) + 1), .int .i64 34]) (by simp [results, go_sem, q0, q1, q2, q3, q4, q5]) rfl ?_
                      exact RE.out
                    | false =>
                      have HS := Lib.hid (show sayL st x.data.toList = .ok { st with lim := setF st.lim k v, sl := setF st.sl k true } by
                        unfold sayL
                        rw [if_neg HN.out, HB.out, HA.out, HWO.out]
                        dsimp only
                        rw [hp]
                        dsimp only
                        rw [hsl]
                        rfl)
                      rw [hsl] at sk
                      have N3 := Lib.hid (HL.out.lim HXL.out hk4 HS.out HBq.out)
                      have fz2 := unfz I3.out.h2
                      have fz3 := unfz I3.out.h3
                      clear hsl hp
                      go_wp2_with fail
                      go_roundw
                      case rel => exact ⟨rfl, rfl, i + 1, _, by go_num, hil, N3.out⟩
                      case measure => simp [intOf]; omega
                  · have HS := Lib.hid (show sayL st x.data.toList = .error 12 by
                      unfold sayL
                      rw [if_neg HN.out, HB.out, HA.out, HWO.out]
                      dsimp only
                      rw [hp])
                    clear hp
                    have hh0 := I3.out.h0
                    have fz0 := unfz hh0
                    obtain ⟨z0, z1, z2, z3, z4, z5⟩ := box6 hh0
                    have PB := Lib.hid (putR_box hh0 ⟨#[]⟩ ⟨#[]⟩ 0 0 0 0)
                    have RE := Lib.hid (rs_err (script_fail HL.out.say HXL.out HS.out) (by decide) (HL.out.low.trans (HBq.out.mono HL.out.low.size)) hh0)
                    clear hh0
                    go_wp2_with fail
                    obtain ⟨q0, q1, q2, q3, q4, q5⟩ := box6 PB.out.1
                    refine bodyPost_ret (v := .tuple #[.agg #[.string ⟨#[]⟩, .string ⟨#[]⟩, .int .i64 0, .int .i64 0, .int .i64 0, .int .i64 0], .int .i64 ((i : Int) + 1), .int .i64 12]) (by simp [results, go_sem, q0, q1, q2, q3, q4, q5]) rfl ?_
                    exact RE.out
    · obtain rfl : ts.length = i := by omega
      have SA := Lib.hid (show sayAll (linesL s.data.toList) 1 SS.start = .ok st by
        have h := HL.out.say
        rwa [List.take_of_length_le (by rw [hts.out, List.length_map]; exact Nat.le_refl _)] at h)
      have I1 := Lib.hid HL.out.box
      have hh3 := I1.out.h3
      have hh0 := I1.out.h0
      have fz0 := unfz hh0
      obtain ⟨z0, z1, z2, z3, z4, z5⟩ := box6 hh0
      clear hRL
      cases hsq : st.sq with
      | false =>
        rw [hsq] at hh3
        have s4 := cell_of_row wr _ 4 _ _ _ hh3
        have HE := Lib.hid (show scriptN s.data.toList = .error (0, 50) by unfold scriptN; rw [SA.out]; dsimp only; rw [if_pos hsq])
        have PB := Lib.hid (putR_box hh0 ⟨#[]⟩ ⟨#[]⟩ 0 0 0 0)
        have RE := Lib.hid (rs_err HE.out (by decide) HL.out.low hh0)
        clear hsq hh3 hh0
        go_wp2_with fail
        obtain ⟨q0, q1, q2, q3, q4, q5⟩ := box6 PB.out.1
        refine bodyPost_ret (v := .tuple #[.agg #[.string ⟨#[]⟩, .string ⟨#[]⟩, .int .i64 0, .int .i64 0, .int .i64 0, .int .i64 0], .int .i64 0, .int .i64 50]) (by simp [results, go_sem, q0, q1, q2, q3, q4, q5]) rfl ?_
        exact RE.out
      | true =>
        rw [hsq] at hh3
        have s4 := cell_of_row wr _ 4 _ _ _ hh3
        obtain ⟨l0, l1, l2, l3⟩ := box4t I1.out.h2
        obtain ⟨y0, y1, y2, y3, y4, y5⟩ := box6 I1.out.h1
        have fz1 := unfz I1.out.h1
        have HQ := Lib.hid hsq
        clear hsq hh3 hh0
        go_wp2_with fail
        go_region
        have LB := lims_box I1.out
        obtain ⟨X, hX⟩ : ∃ X, ((((wr.setCell ⟨w.heap.size + 1, 2, none⟩ (.int .i64 (st.lim 0))).setCell ⟨w.heap.size + 1, 3, none⟩ (.int .i64 (st.lim 1))).setCell ⟨w.heap.size + 1, 4, none⟩ (.int .i64 (st.lim 2))).setCell ⟨w.heap.size + 1, 5, none⟩ (.int .i64 (st.lim 3))).drew = X := ⟨_, rfl⟩
        rw [hX] at LB ⊢
        have X1 := Lib.hid LB.1
        have X0 := Lib.hid LB.2.1
        have BX := Lib.hid (HL.out.low.trans (LB.2.2 _ (Nat.le_refl _)))
        have CC := Lib.hid (rcheck_any (st.lim 0) (st.lim 1) (st.lim 2) (st.lim 3) X)
        clear hX LB l0 l1 l2 l3 y0 y1 y2 y3 y4 y5 z0 z1 z2 z3 z4 z5 fz0 fz1 s4
        obtain ⟨y0, y1, y2, y3, y4, y5⟩ := box6 X1.out
        have hlim : limOk st.lim = lim4 (st.lim 0) (st.lim 1) (st.lim 2) (st.lim 3) := rfl
        cases hl4 : lim4 (st.lim 0) (st.lim 1) (st.lim 2) (st.lim 3) with
        | false =>
          rw [show lim4E (st.lim 0) (st.lim 1) (st.lim 2) (st.lim 3) = 1 by unfold lim4E; rw [hl4]; rfl] at CC
          have HE := Lib.hid (show scriptN s.data.toList = .error (0, 1) by
            unfold scriptN; rw [SA.out]; dsimp only; rw [if_neg (by rw [HQ.out]; decide), if_pos (hlim.trans hl4)])
          clear hlim hl4
          go_wp2_with fail
          refine CC.out.mono ?_
          rintro e X2 ⟨rfl, hb⟩
          have BX2 := Lib.hid (BX.out.trans (hb.mono BX.out.size))
          have hh0 := (hb.block _ (heap_lt X0.out)).trans X0.out
          have fz0 := unfz hh0
          obtain ⟨z0, z1, z2, z3, z4, z5⟩ := box6 hh0
          have PB := Lib.hid (putR_box hh0 ⟨#[]⟩ ⟨#[]⟩ 0 0 0 0)
          have RE := Lib.hid (rs_err HE.out (by decide) BX2.out hh0)
          clear hh0 hb CC y0 y1 y2 y3 y4 y5
          go_wp2_with fail
          obtain ⟨q0, q1, q2, q3, q4, q5⟩ := box6 PB.out.1
          refine bodyPost_ret (v := .tuple #[.agg #[.string ⟨#[]⟩, .string ⟨#[]⟩, .int .i64 0, .int .i64 0, .int .i64 0, .int .i64 0], .int .i64 0, .int .i64 1]) (by simp [results, go_sem, q0, q1, q2, q3, q4, q5]) rfl ?_
          exact RE.out
        | true =>
          rw [show lim4E (st.lim 0) (st.lim 1) (st.lim 2) (st.lim 3) = 0 by unfold lim4E; rw [hl4]; rfl] at CC
          have HE := Lib.hid (show scriptN s.data.toList = .ok st by
            unfold scriptN; rw [SA.out]; dsimp only; rw [if_neg (by rw [HQ.out]; decide), if_neg (by rw [hlim, hl4]; decide)])
          clear hlim hl4
          go_wp2_with fail
          refine CC.out.mono ?_
          rintro e X2 ⟨rfl, hb⟩
          have BX2 := Lib.hid (BX.out.trans (hb.mono BX.out.size))
          have hh0 := (hb.block _ (heap_lt X0.out)).trans X0.out
          have hh1 := (hb.block _ (heap_lt X1.out)).trans X1.out
          have fz0 := unfz hh0
          obtain ⟨z0, z1, z2, z3, z4, z5⟩ := box6 hh0
          have PB := Lib.hid (putR_box hh0 (ba st.prog) (ba st.query) (st.lim 0) (st.lim 1) (st.lim 2) (st.lim 3))
          clear hh0 hb CC y0 y1 y2 y3 y4 y5
          obtain ⟨y0, y1, y2, y3, y4, y5⟩ := box6 hh1
          clear hh1
          go_wp2_with fail
          obtain ⟨q0, q1, q2, q3, q4, q5⟩ := box6 PB.out.1
          refine bodyPost_ret (v := .tuple #[.agg #[.string (ba st.prog), .string (ba st.query), .int .i64 (st.lim 0), .int .i64 (st.lim 1), .int .i64 (st.lim 2), .int .i64 (st.lim 3)], .int .i64 0, .int .i64 0]) (by simp [results, go_sem, q0, q1, q2, q3, q4, q5]) rfl ?_
          exact ⟨⟨_, _, _, _, _, _, _, _, rfl, .inr ⟨st, HE.out, rfl, rfl, rfl, rfl, rfl, rfl, rfl, rfl⟩⟩, BX2.out.trans (PB.out.2.2 _ (Nat.le_refl _))⟩
end Go.Proofs.YtipddolkikhojaaDoor
