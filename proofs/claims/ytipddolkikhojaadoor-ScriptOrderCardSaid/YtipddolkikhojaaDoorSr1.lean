/- Scripts, plain: what is printed is read back; lines in another order say the same. -/
import Derived.Test.YtipddolkikhojaaDoorSr0
namespace Go.Proofs.YtipddolkikhojaaDoor
open Go.RowKit

theorem sayL_bar (st : SS) (l : List UInt8) : sayL st (barW ++ l) = .ok { st with prog := st.prog ++ l ++ [10] } := by
  unfold sayL
  rw [if_neg (by simp [barW]), behL_app]
theorem sayL_ask (st : SS) (l : List UInt8) (h : st.sq = false) : sayL st (askW ++ l) = .ok { st with query := l, sq := true } := by
  unfold sayL
  rw [if_neg (by simp [askW]), show behL barW (askW ++ l) = none from rfl, behL_app]
  dsimp only
  rw [if_neg (by rw [h]; simp)]
theorem wordOf_at (k : Nat) (hk : k < 4) (r : List UInt8) : wordOf (wordL k ++ r) = some (k, r) := by
  rcases k with _ | _ | _ | _ | k
  · unfold wordOf; rw [behL_app]
  · unfold wordOf; rw [show behL (wordL 0) (wordL 1 ++ r) = none from rfl, behL_app]
  · unfold wordOf; rw [show behL (wordL 0) (wordL 2 ++ r) = none from rfl, show behL (wordL 1) (wordL 2 ++ r) = none from rfl, behL_app]
  · unfold wordOf; rw [show behL (wordL 0) (wordL 3 ++ r) = none from rfl, show behL (wordL 1) (wordL 3 ++ r) = none from rfl, show behL (wordL 2) (wordL 3 ++ r) = none from rfl, behL_app]
  · omega
theorem sayL_lim (st : SS) (k : Nat) (hk : k < 4) (v : Int) (h0 : -9223372036854775808 ≤ v) (h1 : v ≤ 9223372036854775807) (h : st.sl k = false) :
    sayL st (wordL k ++ Lib.itoa v) = .ok { st with lim := setF st.lim k v, sl := setF st.sl k true } := by
  have e1 : ¬ (wordL k ++ Lib.itoa v = [] ∨ (wordL k ++ Lib.itoa v).head? = some 35) := by
    rcases k with _ | _ | _ | _ | k <;> simp [wordL]
  have e2 : behL barW (wordL k ++ Lib.itoa v) = none := by
    rcases k with _ | _ | _ | _ | k <;> first | rfl | omega
  have e3 : behL askW (wordL k ++ Lib.itoa v) = none := by
    rcases k with _ | _ | _ | _ | k <;> first | rfl | omega
  unfold sayL
  rw [if_neg e1, e2, e3, wordOf_at k hk]
  dsimp only
  rw [parse_itoa (s := ba (Lib.itoa v)) (by simp [ba]) h0 h1]
  dsimp only
  rw [if_neg (by rw [h]; simp)]
theorem sayAll_cons {l : List UInt8} {ls : List (List UInt8)} {n : Nat} {st st' : SS} (h : sayL st l = .ok st') : sayAll (l :: ls) n st = sayAll ls (n + 1) st' := by
  rw [sayAll, h]
theorem sayAll_bars : ∀ (ps : List (List UInt8)) (ls : List (List UInt8)) (n : Nat) (st : SS), sayAll (ps.map (fun l => barW ++ l) ++ ls) n st = sayAll ls (n + ps.length) { st with prog := st.prog ++ joinL ps }
  | [], ls, n, st => by simp [joinL]
  | p :: ps, ls, n, st => by
    rw [List.map_cons, List.cons_append, sayAll_cons (sayL_bar st p), sayAll_bars ps ls]
    simp only [joinL_cons, List.length_cons, List.append_assoc, List.cons_append, List.nil_append, Nat.add_assoc, Nat.add_comm 1]
theorem itoa_no10 (v : Int) : ∀ c ∈ Lib.itoa v, c ≠ 10 := by
  intro c hc
  have h : ∀ u, c ∈ Lib.decDigits u → c ≠ 10 := fun u h e => by
    have := (dec_digits u c h).1
    rw [e] at this
    exact absurd this (by decide)
  unfold Lib.itoa at hc
  split at hc
  · rcases List.mem_cons.1 hc with rfl | hc
    · decide
    · exact h _ hc
  · exact h _ hc
theorem word_no10 (k : Nat) : ∀ c ∈ wordL k, c ≠ 10 := by
  rcases k with _ | _ | _ | k
  · show ∀ c ∈ [102, 117, 101, 108, 32], c ≠ (10 : UInt8); decide
  · show ∀ c ∈ [114, 111, 111, 109, 32], c ≠ (10 : UInt8); decide
  · show ∀ c ∈ [115, 116, 97, 99, 107, 32], c ≠ (10 : UInt8); decide
  · show ∀ c ∈ [97, 110, 115, 119, 101, 114, 115, 32], c ≠ (10 : UInt8); decide
theorem limLine_no (f : Nat → Int) (k : Nat) : ∀ c ∈ limLine f k, c ≠ 10 := by
  intro c hc
  rcases List.mem_append.1 hc with h | h
  · exact word_no10 k c h
  · exact itoa_no10 _ c h
theorem bar_no {l : List UInt8} (h : ∀ c ∈ l, c ≠ 10) : ∀ c ∈ barW ++ l, c ≠ 10 := by
  intro c hc
  rcases List.mem_append.1 hc with h2 | h2
  · simp only [barW, List.mem_cons, List.not_mem_nil, or_false] at h2
    rcases h2 with rfl | rfl <;> decide
  · exact h c h2
theorem ask_no {l : List UInt8} (h : ∀ c ∈ l, c ≠ 10) : ∀ c ∈ askW ++ l, c ≠ 10 := by
  intro c hc
  rcases List.mem_append.1 hc with h2 | h2
  · simp only [askW, List.mem_cons, List.not_mem_nil, or_false] at h2
    rcases h2 with rfl | rfl <;> decide
  · exact h c h2
theorem scriptLines_no (p q : List UInt8) (f : Nat → Int) (hq : ∀ c ∈ q, c ≠ 10) : ∀ l ∈ scriptLines p q f, ∀ c ∈ l, c ≠ 10 := by
  intro l hl
  unfold scriptLines at hl
  rcases List.mem_append.1 hl with hl | hl
  · rcases List.mem_append.1 hl with hl | hl
    · simp only [List.mem_cons, List.not_mem_nil, or_false] at hl
      rcases hl with rfl | rfl | rfl | rfl <;> exact limLine_no f _
    · obtain ⟨x, hx, rfl⟩ := List.mem_map.1 hl
      exact bar_no (lines_no p x hx)
  · rw [List.mem_singleton] at hl
    rw [hl]
    exact ask_no hq
theorem limOk_iff {f : Nat → Int} (h : limOk f = true) : 1 ≤ f 0 ∧ f 0 ≤ 100000 ∧ 1 ≤ f 1 ∧ f 1 ≤ 1000 ∧ 1 ≤ f 2 ∧ f 2 ≤ 1000 ∧ 1 ≤ f 3 ∧ f 3 ≤ 100 := of_decide_eq_true h
/-- What is printed is read back. -/
theorem print_back {p q t : List UInt8} {f : Nat → Int} (h : printN p q f = .ok t) : ∃ st, scriptN t = .ok st ∧ st.prog = p ∧ st.query = q ∧ st.lim 0 = f 0 ∧ st.lim 1 = f 1 ∧ st.lim 2 = f 2 ∧ st.lim 3 = f 3 := by
  unfold printN at h
  split at h
  · cases h
  · rename_i h0
    have hlim : limOk f = true := by cases hh : limOk f with | true => rfl | false => exact absurd hh h0
    have hr := limOk_iff hlim
    split at h
    · cases h
    · rename_i h1
      have h2 : ∀ c ∈ q, c ≠ 10 := fun c hc e => h1 (.inl (e ▸ hc))
      have h3 : p = [] ∨ p.getLast? = some 10 := by
        rcases Classical.em (p = [] ∨ p.getLast? = some 10) with h | h
        · exact h
        · exact absurd (.inr h) h1
      injection h with h
      have hl : linesL t = scriptLines p q f := by
        rw [← h]
        have := lines_join (scriptLines p q f) [] (scriptLines_no p q f h2)
        rw [List.append_nil, lines_nil, List.append_nil] at this
        exact this
      unfold scriptN
      rw [hl]
      unfold scriptLines limLine
      simp only [List.cons_append, List.nil_append]
      rw [sayAll_cons (sayL_lim SS.start 0 (by omega) (f 0) (by omega) (by omega) rfl),
        sayAll_cons (sayL_lim _ 1 (by omega) (f 1) (by omega) (by omega) rfl),
        sayAll_cons (sayL_lim _ 2 (by omega) (f 2) (by omega) (by omega) rfl),
        sayAll_cons (sayL_lim _ 3 (by omega) (f 3) (by omega) (by omega) rfl),
        sayAll_bars, sayAll_cons (sayL_ask _ q rfl), sayAll]
      dsimp only
      rw [if_neg (by simp), if_neg (by
        simp only [Bool.not_eq_false]
        unfold limOk
        simp only [setF, decide_eq_true_eq]
        simpa using hr)]
      exact ⟨_, rfl, by simp [SS.start, join_lines _ p (Nat.le_refl _) h3], rfl, by simp [setF], by simp [setF], by simp [setF], by simp [setF]⟩
/-- A program's lines, one limit and the query, in two orders. -/
def orderA (ps : List (List UInt8)) (q : List UInt8) (v : Int) : List (List UInt8) := ps.map (fun l => barW ++ l) ++ ((wordL 0 ++ Lib.itoa v) :: (askW ++ q) :: [])
def orderB (ps : List (List UInt8)) (q : List UInt8) (v : Int) : List (List UInt8) := (askW ++ q) :: (wordL 3 ++ Lib.itoa 10) :: (wordL 0 ++ Lib.itoa v) :: (ps.map (fun l => barW ++ l) ++ [])
theorem order_no {ps : List (List UInt8)} {q : List UInt8} {v : Int} (hp : ∀ p ∈ ps, ∀ c ∈ p, c ≠ 10) (hq : ∀ c ∈ q, c ≠ 10) :
    (∀ l ∈ orderA ps q v, ∀ c ∈ l, c ≠ 10) ∧ ∀ l ∈ orderB ps q v, ∀ c ∈ l, c ≠ 10 := by
  have hb : ∀ l ∈ ps.map (fun l => barW ++ l), ∀ c ∈ l, c ≠ 10 := fun l hl => by
    obtain ⟨x, hx, rfl⟩ := List.mem_map.1 hl
    exact bar_no (hp x hx)
  have hw : ∀ k u, ∀ c ∈ wordL k ++ Lib.itoa u, c ≠ 10 := fun k u c hc => by
    rcases List.mem_append.1 hc with h | h
    · exact word_no10 k c h
    · exact itoa_no10 _ c h
  refine ⟨fun l hl => ?_, fun l hl => ?_⟩
  · rcases List.mem_append.1 hl with hl | hl
    · exact hb l hl
    · simp only [List.mem_cons, List.not_mem_nil, or_false] at hl
      rcases hl with rfl | rfl
      · exact hw 0 v
      · exact ask_no hq
  · unfold orderB at hl
    rw [List.append_nil] at hl
    rcases List.mem_cons.1 hl with rfl | hl
    · exact ask_no hq
    · rcases List.mem_cons.1 hl with rfl | hl
      · exact hw 3 10
      · rcases List.mem_cons.1 hl with rfl | hl
        · exact hw 0 v
        · exact hb l hl
theorem order_same {ps : List (List UInt8)} {q : List UInt8} {v : Int} (hp : ∀ p ∈ ps, ∀ c ∈ p, c ≠ 10) (hq : ∀ c ∈ q, c ≠ 10) (h0 : 1 ≤ v) (h1 : v ≤ 65536) :
    ∃ st st', scriptN (joinL (orderA ps q v)) = .ok st ∧ scriptN (joinL (orderB ps q v)) = .ok st' ∧ st.prog = joinL ps ∧ st'.prog = joinL ps ∧ st.query = q ∧ st'.query = q ∧
      st.lim 0 = v ∧ st.lim 1 = 500 ∧ st.lim 2 = 100 ∧ st.lim 3 = 10 ∧ st'.lim 0 = v ∧ st'.lim 1 = 500 ∧ st'.lim 2 = 100 ∧ st'.lim 3 = 10 := by
  have hl : ∀ ls : List (List UInt8), (∀ l ∈ ls, ∀ c ∈ l, c ≠ 10) → linesL (joinL ls) = ls := fun ls h => by
    have := lines_join ls [] h
    rw [List.append_nil, lines_nil, List.append_nil] at this
    exact this
  have ea : ∃ st, scriptN (joinL (orderA ps q v)) = .ok st ∧ st.prog = joinL ps ∧ st.query = q ∧ st.lim 0 = v ∧ st.lim 1 = 500 ∧ st.lim 2 = 100 ∧ st.lim 3 = 10 := by
    unfold scriptN
    rw [hl _ (order_no hp hq).1]
    unfold orderA
    rw [sayAll_bars, sayAll_cons (sayL_lim _ 0 (by omega) v (by omega) (by omega) rfl), sayAll_cons (sayL_ask _ q rfl), sayAll]
    dsimp only
    rw [if_neg (by simp), if_neg (by
      simp only [Bool.not_eq_false]
      unfold limOk
      simp only [setF, SS.start, lim0, decide_eq_true_eq]
      simp
      omega)]
    exact ⟨_, rfl, by simp [SS.start], rfl, by simp [setF], by simp [setF, SS.start, lim0], by simp [setF, SS.start, lim0], by simp [setF, SS.start, lim0]⟩
  have eb : ∃ st, scriptN (joinL (orderB ps q v)) = .ok st ∧ st.prog = joinL ps ∧ st.query = q ∧ st.lim 0 = v ∧ st.lim 1 = 500 ∧ st.lim 2 = 100 ∧ st.lim 3 = 10 := by
    unfold scriptN
    rw [hl _ (order_no hp hq).2]
    unfold orderB
    rw [sayAll_cons (sayL_ask _ q rfl), sayAll_cons (sayL_lim _ 3 (by omega) 10 (by omega) (by omega) rfl), sayAll_cons (sayL_lim _ 0 (by omega) v (by omega) (by omega) rfl), sayAll_bars, sayAll]
    dsimp only
    rw [if_neg (by simp), if_neg (by
      simp only [Bool.not_eq_false]
      unfold limOk
      simp only [setF, SS.start, lim0, decide_eq_true_eq]
      simp
      omega)]
    exact ⟨_, rfl, by simp [SS.start], rfl, by simp [setF], by simp [setF, SS.start, lim0], by simp [setF, SS.start, lim0], by simp [setF]⟩
  obtain ⟨st, a1, a2, a3, a4, a5, a6, a7⟩ := ea
  obtain ⟨st', b1, b2, b3, b4, b5, b6, b7⟩ := eb
  exact ⟨st, st', a1, b1, a2, b2, a3, b3, a4, a5, a6, a7, b4, b5, b6, b7⟩
end Go.Proofs.YtipddolkikhojaaDoor
