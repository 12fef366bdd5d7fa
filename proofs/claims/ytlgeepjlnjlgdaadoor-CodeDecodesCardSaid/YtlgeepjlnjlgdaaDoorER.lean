/- The reference's Quote: the plain one. The walks through coneyref06.parts and Good. -/
import Derived.Test.YtlgeepjlnjlgdaaDoorEG
import Derived.Test.YtlgeepjlnjlgdaaDoorEQ
import Derived.Deep.AppendLies
import Derived.Deep.CutBlock
namespace Go.Proofs.YtlgeepjlnjlgdaaDoor
open Go.RowKit

def byteVs (l : List UInt8) : List Value := (l.map fun c => (c.toNat : Int)).map (Value.int .u8)
/-- What the loop of Quote has gathered. -/
structure QR (w : World) (s : ByteArray) (b iv : Value) (wr : World) (k : Nat) (l : List UInt8) : Prop where
  hi : iv = .int .i64 (k : Int)
  own : wr.ownsRow w.heap.size 5 1 b (l.length + 1) (byteVs (39 :: l))
  up : k ≤ s.size
  esc : escN (s.data.toList.take k) = some l
  low : Below w.heap.size w wr
theorem QR.few {w : World} {s : ByteArray} {b iv : Value} {wr : World} {k : Nat} {l : List UInt8} (h : QR w s b iv wr k l) : l.length ≤ 2 * k := by
  have h1 := escN_len _ _ h.esc
  rw [List.length_take] at h1
  omega
theorem QR.step {w : World} {s : ByteArray} {b iv : Value} {wr w1 : World} {k n : Nat} {l : List UInt8} {b' iv' : Value} {vs : List Value} (h : QR w s b iv wr k l) (y : List UInt8) (hy : esc1 (bu s k) = some y)
    (hi' : iv' = .int .i64 ((k + 1 : Nat) : Int)) (hown : w1.ownsRow w.heap.size 5 1 b' n (byteVs (39 :: l) ++ vs)) (hn : n = l.length + 1 + y.length) (hv : vs = byteVs y) (hk : k < s.size) (hb : Below w.heap.size wr w1) : QR w s b' iv' w1 (k + 1) (l ++ y) := by
  subst hn; subst hv
  refine ⟨hi', ?_, hk, ?_, h.low.trans hb⟩
  · have e : byteVs (39 :: (l ++ y)) = byteVs (39 :: l) ++ byteVs y := by simp [byteVs]
    have e2 : (l ++ y).length + 1 = l.length + 1 + y.length := by simp; omega
    rw [e, e2]
    exact hown
  · rw [take_succ s hk, escN_snoc, h.esc, hy]
theorem esc_10 {s : ByteArray} {k : Nat} (h : ((bn s k : Int) == 10) = true) : esc1 (bu s k) = some [92, 110] := by
  have : bu s k = 10 := by have := (byte_eq (bu s k) 10).symm.trans h; simpa using this
  rw [this]; rfl
theorem esc_9 {s : ByteArray} {k : Nat} (h : ((bn s k : Int) == 9) = true) : esc1 (bu s k) = some [92, 116] := by
  have : bu s k = 9 := by have := (byte_eq (bu s k) 9).symm.trans h; simpa using this
  rw [this]; rfl
theorem esc_92 {s : ByteArray} {k : Nat} (h : ((bn s k : Int) == 92) = true) : esc1 (bu s k) = some [92, bu s k] := by
  have : bu s k = 92 := by have := (byte_eq (bu s k) 92).symm.trans h; simpa using this
  rw [this]; rfl
theorem esc_39 {s : ByteArray} {k : Nat} (h : ((bn s k : Int) == 39) = true) : esc1 (bu s k) = some [92, bu s k] := by
  have : bu s k = 39 := by have := (byte_eq (bu s k) 39).symm.trans h; simpa using this
  rw [this]; rfl
theorem ne_byte {s : ByteArray} {k : Nat} {d : UInt8} (h : ((bn s k : Int) == (d.toNat : Int)) = false) : bu s k ≠ d := by
  have := (byte_eq (bu s k) d).symm.trans h
  simpa using this
theorem esc_bad {s : ByteArray} {k : Nat} (h1 : ((bn s k : Int) == 10) = false) (h2 : ((bn s k : Int) == 9) = false) (h3 : ((bn s k : Int) == 92) = false) (h4 : ((bn s k : Int) == 39) = false) (h5 : (bn s k : Int) < 32 ∨ (126 : Int) < (bn s k : Int)) : esc1 (bu s k) = none := by
  unfold esc1
  rw [if_neg (ne_byte (d := 10) h1), if_neg (ne_byte (d := 9) h2), if_neg (fun e => e.elim (ne_byte (d := 92) h3) (ne_byte (d := 39) h4)), if_pos (by rw [bn_bu] at h5; omega)]
theorem esc_self {s : ByteArray} {k : Nat} (h1 : ((bn s k : Int) == 10) = false) (h2 : ((bn s k : Int) == 9) = false) (h3 : ((bn s k : Int) == 92) = false) (h4 : ((bn s k : Int) == 39) = false) (h5 : ¬ (bn s k : Int) < 32) (h6 : ¬ (126 : Int) < (bn s k : Int)) : esc1 (bu s k) = some [bu s k] := by
  unfold esc1
  rw [if_neg (ne_byte (d := 10) h1), if_neg (ne_byte (d := 9) h2), if_neg (fun e => e.elim (ne_byte (d := 92) h3) (ne_byte (d := 39) h4)), if_neg (by rw [bn_bu] at h5 h6; omega)]
theorem quote_none {s : ByteArray} {k : Nat} (hp : plainN s = false) (hk : k < s.size) (h : esc1 (bu s k) = none) : quoteN s = ⟨#[]⟩ := by
  have h1 : escN (s.data.toList.take (k + 1)) = none := by
    rw [take_succ s hk, escN_snoc, h]
    cases escN (s.data.toList.take k) <;> rfl
  have h2 := escN_none _ (s.data.toList.drop (k + 1)) h1
  rw [List.take_append_drop] at h2
  unfold quoteN
  rw [hp, h2]
  rfl
theorem quote_some {s : ByteArray} {l : List UInt8} (hp : plainN s = false) (h : escN (s.data.toList.take s.size) = some l) : quoteN s = quotedN l := by
  rw [List.take_of_length_le (by rw [list_len]; omega)] at h
  unfold quoteN
  rw [hp, h]
  rfl
theorem text_same {a b : ByteArray} (h : a.toList = b.toList) : a = b := by
  apply bytes_same
  simpa [ByteArray.toList_eq] using h
theorem quote_plain {s : ByteArray} (hp : plainN s = true) : quoteN s = s := by
  unfold quoteN
  rw [hp]
  rfl
set_option maxRecDepth 100000 in
set_option maxHeartbeats 8000000 in
theorem rquote_any (s : ByteArray) (hs : s.size ≤ 4096) (w : World) : Calls Tryd.prog 27 #[.string s] w fun e w' => e = .returned (.string (quoteN s)) ∧ Below w.heap.size w w' := by
  have hb : ∀ (i : Nat) (h : i < s.size), (s[i]'h).toNat = bn s i := bn_eq s
  obtain ⟨item, ii1, ii2, ii3, ii4⟩ := elU8.hi
  have hs' : (s.size : Int) ≤ 4096 := by omega
  go_enter Tryd.func27, Tryd.ntmps27
  go_upto_if 11 with (fail)
  go_cut [] (fun wx => Hid (plainN s = false) ∧ Below w.heap.size w wx)
  case first =>
    as_aux_lemma =>
      go_wp2_with fail
      refine (rtokens_any s _).mono ?_
      rintro e w1 ⟨⟨v, p, er, rfl, hq⟩, h1⟩
      have B1 := Lib.hid h1
      unfold TokQ at hq
      clear h1
      cases hL : lexN s with
      | bad q er0 =>
        rw [hL] at hq
        obtain ⟨rfl, rfl, rfl, hne⟩ := hq
        have hne' : (er == 0) = false := by simpa using hne
        have HP := Lib.hid (show plainN s = false by
          cases hp : plainN s with
          | false => rfl
          | true => rw [(lex_plain hp hs).1] at hL; cases hL)
        clear hL hne
        go_wp2_with fail
        go_meet
        exact ⟨HP, B1.out⟩
      | ok l =>
        rw [hL] at hq
        obtain ⟨rfl, rfl, hown, hfew, _, _⟩ := hq
        have HP := Lib.hid (show plainN s = true → l = [⟨1, s, 0, s.size⟩] from fun hp => by
          rw [(lex_plain hp hs).1] at hL
          injection hL with hL
          exact hL.symm)
        have HL := Lib.hid hL
        clear hL
        by_cases hl1 : l.length = 1
        · obtain ⟨x, rfl⟩ : ∃ x, l = [x] := List.length_eq_one_iff.1 hl1
          obtain ⟨A, c, rfl, _, _, _, hx⟩ := own_open hown
          obtain ⟨g, cur, rfl, _, hg, hcur⟩ := hx (by simp)
          have hgl := heap_lt hg
          have d0 := (cell_of_row w1 g 0 _ _ _ hg).trans ((hcur 0 (by simp)).trans (show _ = some (Value.int .i64 x.k) from rfl))
          have d1 := (cell_of_row w1 g 1 _ _ _ hg).trans ((hcur 1 (by simp)).trans (show _ = some (Value.string x.t) from rfl))
          have d3 := (cell_of_row w1 g 3 _ _ _ hg).trans ((hcur 3 (by simp)).trans (show _ = some (Value.int .i64 (x.b : Int)) from rfl))
          have hpos : 0 < s.size := by
            have := (lexN_ok HL.out).2.2 x (by simp)
            have h1 := this.2.2.2.1
            have h2 := this.2.2.2.2
            omega
          have hpos' : (0 : Int) < (s.size : Int) := by omega
          have HX := Lib.hid (show plainN s = true → x = ⟨1, s, 0, s.size⟩ from fun hp => by have := HP.out hp; injection this)
          have NO := Lib.hid (show (plainN s = true → False) → Hid (plainN s = false) from fun h => Lib.hid (by
            cases hp : plainN s with
            | false => rfl
            | true => exact absurd hp h))
          have YES := Lib.hid (show x.k = 1 → x.t = s → x.b = s.size → plainN s = true from fun h1 h2 h3 => plain_of_lex HL.out h1 h2 h3)
          clear hown hx hcur hg
          cases q1 : (x.k == 1) with
          | false =>
            have hn : plainN s = true → False := fun hp => by rw [HX.out hp] at q1; cases q1
            have HN := NO.out hn
            clear hn
            go_wp2_with fail
            go_meet
            exact ⟨HN, B1.out⟩
          | true =>
            cases q2 : (x.t.toList == s.toList) with
            | false =>
              have hn : plainN s = true → False := fun hp => by rw [HX.out hp] at q2; simp at q2
              have HN := NO.out hn
              clear hn
              go_wp2_with fail
              go_meet
              exact ⟨HN, B1.out⟩
            | true =>
              cases q3 : ((x.b : Int) == (s.size : Int)) with
              | false =>
                have hn : plainN s = true → False := fun hp => by rw [HX.out hp] at q3; simp at q3
                have HN := NO.out hn
                clear hn
                go_wp2_with fail
                go_meet
                exact ⟨HN, B1.out⟩
              | true =>
                have HP := Lib.hid (YES.out (by simpa using q1) (text_same (by simpa using q2)) (by have : (x.b : Int) = (s.size : Int) := by simpa using q3
                                                                                                    omega))
                have q4 : ((bn s 0 : Int) != 39) = true := by
                  have h := (lex_plain HP.out hs).2
                  simp [bne, h]
                go_wp2_with fail
                go_ret
                exact ⟨by rw [quote_plain HP.out]; rfl, B1.out⟩
        · obtain ⟨A, c, rfl, _, _, _, _⟩ := own_open hown
          have hl1' : ((l.length : Int) == 1) = false := by
            rw [beq_eq_false_iff_ne]
            omega
          have HN := Lib.hid (show plainN s = false by
            cases hp : plainN s with
            | false => rfl
            | true => rw [HP.out hp] at hl1; exact absurd rfl hl1)
          clear hown hl1
          go_wp2_with fail
          go_meet
          exact ⟨HN, B1.out⟩
  case rest =>
    obtain ⟨HP, hb1⟩ := hcut
    have B1 := Lib.hid hb1
    have hw1 := hb1.size
    clear hb1
    go_wp2_with fail
    go_loopw [2, 6, 7, 8] (fun _ b iv _ wr => ∃ k l, QR w s b iv wr k l) (fun _ _ iv _ _ => s.size - (intOf iv).toNat)
    case atStart =>
      exact ⟨0, [], by go_num, ⟨rfl, .inr ⟨_, 1, _, rfl, hw1, heap_alloc_new _ _, Nat.le_refl _, by simp [maxLen], rfl, rfl⟩⟩, Nat.zero_le _, rfl, B1.out.alloc hw1 _⟩
    case round =>
      obtain ⟨k, l, hr⟩ := hrel
      obtain rfl := hr.hi
      have R := Lib.hid hr
      have hk := hr.up
      have hfew := hr.few
      have hsz := hr.low.size
      clear hr
      by_cases h7 : k < s.size
      · have h7' : (k : Int) < (s.size : Int) := by omega
        cases h10 : ((bn s k : Int) == 10) with
        | true =>
          go_wp2_with (at_builtin; go_must (refine wpList_append_lies _ rfl _ _ _ rfl w.heap.size 5 item (.int .u8 0) 1 1 Tryd.underlying59 ii1 ii2 ii3 ii4 rfl (by omega) _ (l.length + 1) _ rfl (R.out.own.alloc _) ⟨wr.heap.size, 0, none⟩ 2 2 [.int .u8 92, .int .u8 110] rfl rfl (World.news_of_block (heap_alloc_new _ _)) ?_ (by omega) (by unfold maxLen; omega) (by omega) (by simp; omega) _ rfl ?_))
          · intro u hu
            simp only [List.mem_cons, List.not_mem_nil, or_false] at hu
            rcases hu with rfl | rfl <;> rfl
          intro g1 cap1 w9 hown1 hg1 hat1 _
          have R1 := Lib.hid (R.out.step [92, 110] (esc_10 h10) (iv' := .int .i64 ((k : Int) + 1)) (by go_num) hown1 rfl rfl h7 (((Below.refl _ _).alloc (by omega) _).grown hg1 (by simp; omega) fun q hq => (R.out.own.lt q hq).1))
          clear hown1 hg1 hat1
          go_wp2_with fail
          go_roundw
          case rel => exact ⟨_, _, R1.out⟩
          case measure => simp [intOf]; omega
        | false =>
          cases h9 : ((bn s k : Int) == 9) with
          | true =>
            go_wp2_with (at_builtin; go_must (refine wpList_append_lies _ rfl _ _ _ rfl w.heap.size 5 item (.int .u8 0) 1 1 Tryd.underlying59 ii1 ii2 ii3 ii4 rfl (by omega) _ (l.length + 1) _ rfl (R.out.own.alloc _) ⟨wr.heap.size, 0, none⟩ 2 2 [.int .u8 92, .int .u8 116] rfl rfl (World.news_of_block (heap_alloc_new _ _)) ?_ (by omega) (by unfold maxLen; omega) (by omega) (by simp; omega) _ rfl ?_))
            · intro u hu
              simp only [List.mem_cons, List.not_mem_nil, or_false] at hu
              rcases hu with rfl | rfl <;> rfl
            intro g1 cap1 w9 hown1 hg1 hat1 _
            have R1 := Lib.hid (R.out.step [92, 116] (esc_9 h9) (iv' := .int .i64 ((k : Int) + 1)) (by go_num) hown1 rfl rfl h7 (((Below.refl _ _).alloc (by omega) _).grown hg1 (by simp; omega) fun q hq => (R.out.own.lt q hq).1))
            clear hown1 hg1 hat1
            go_wp2_with fail
            go_roundw
            case rel => exact ⟨_, _, R1.out⟩
            case measure => simp [intOf]; omega
          | false =>
            cases h92 : ((bn s k : Int) == 92) with
            | true =>
              go_wp2_with (at_builtin; go_must (refine wpList_append_lies _ rfl _ _ _ rfl w.heap.size 5 item (.int .u8 0) 1 1 Tryd.underlying59 ii1 ii2 ii3 ii4 rfl (by omega) _ (l.length + 1) _ rfl (R.out.own.alloc _) ⟨wr.heap.size, 0, none⟩ 2 2 [.int .u8 92, .int .u8 (bn s k : Int)] rfl rfl (World.news_of_block (heap_alloc_new _ _)) ?_ (by omega) (by unfold maxLen; omega) (by omega) (by simp; omega) _ rfl ?_))
              · intro u hu
                simp only [List.mem_cons, List.not_mem_nil, or_false] at hu
                rcases hu with rfl | rfl <;> rfl
              intro g1 cap1 w9 hown1 hg1 hat1 _
              have R1 := Lib.hid (R.out.step [92, bu s k] (esc_92 h92) (iv' := .int .i64 ((k : Int) + 1)) (by go_num) hown1 rfl (by rfl) h7 (((Below.refl _ _).alloc (by omega) _).grown hg1 (by simp; omega) fun q hq => (R.out.own.lt q hq).1))
              clear hown1 hg1 hat1
              go_wp2_with fail
              go_roundw
              case rel => exact ⟨_, _, R1.out⟩
              case measure => simp [intOf]; omega
            | false =>
              cases h39 : ((bn s k : Int) == 39) with
              | true =>
                go_wp2_with (at_builtin; go_must (refine wpList_append_lies _ rfl _ _ _ rfl w.heap.size 5 item (.int .u8 0) 1 1 Tryd.underlying59 ii1 ii2 ii3 ii4 rfl (by omega) _ (l.length + 1) _ rfl (R.out.own.alloc _) ⟨wr.heap.size, 0, none⟩ 2 2 [.int .u8 92, .int .u8 (bn s k : Int)] rfl rfl (World.news_of_block (heap_alloc_new _ _)) ?_ (by omega) (by unfold maxLen; omega) (by omega) (by simp; omega) _ rfl ?_))
                · intro u hu
                  simp only [List.mem_cons, List.not_mem_nil, or_false] at hu
                  rcases hu with rfl | rfl <;> rfl
                intro g1 cap1 w9 hown1 hg1 hat1 _
                have R1 := Lib.hid (R.out.step [92, bu s k] (esc_39 h39) (iv' := .int .i64 ((k : Int) + 1)) (by go_num) hown1 rfl (by rfl) h7 (((Below.refl _ _).alloc (by omega) _).grown hg1 (by simp; omega) fun q hq => (R.out.own.lt q hq).1))
                clear hown1 hg1 hat1
                go_wp2_with fail
                go_roundw
                case rel => exact ⟨_, _, R1.out⟩
                case measure => simp [intOf]; omega
              | false =>
                by_cases hlow : (bn s k : Int) < 32
                · have HQ := Lib.hid (quote_none HP.out h7 (esc_bad h10 h9 h92 h39 (.inl hlow)))
                  go_wp2_with fail
                  go_ret
                  exact ⟨by rw [HQ.out]; rfl, R.out.low⟩
                · by_cases hgr : (126 : Int) < (bn s k : Int)
                  · have HQ := Lib.hid (quote_none HP.out h7 (esc_bad h10 h9 h92 h39 (.inr hgr)))
                    go_wp2_with fail
                    go_ret
                    exact ⟨by rw [HQ.out]; rfl, R.out.low⟩
                  · have HE := Lib.hid (esc_self h10 h9 h92 h39 hlow hgr)
                    go_wp2_with (at_builtin; go_must (refine wpList_push _ rfl _ _ _ rfl elU8 w.heap.size _ _ _ rfl (R.out.own.alloc _) _ _ (.int .u8 (bn s k : Int)) rfl (by simp [go_sem]) rfl (by omega) (by unfold maxLen; omega) (by simp; omega) ?_); intro v1 w1 hown1 hb1)
                    have R1 := Lib.hid (R.out.step [bu s k] HE.out (iv' := .int .i64 ((k : Int) + 1)) (by go_num) hown1 rfl (by rfl) h7 (((Below.refl _ _).alloc (by omega) _).trans hb1))
                    clear hown1 hb1
                    go_wp2_with fail
                    go_roundw
                    case rel => exact ⟨_, _, R1.out⟩
                    case measure => simp [intOf]; omega
      · obtain rfl : k = s.size := by omega
        go_wp2_with (at_builtin; go_must (refine wpList_push _ rfl _ _ _ rfl elU8 w.heap.size _ _ _ rfl (R.out.own.alloc _) _ _ (.int .u8 39) rfl (by simp [go_sem]) rfl (by omega) (by unfold maxLen; omega) (by simp; omega) ?_); intro v1 w1 hown1 hb1)
        have hown2 : w1.ownsRow w.heap.size 5 1 v1 (l.length + 1 + 1) (((39 :: (l ++ [39])).map fun c => (c.toNat : Int)).map (Value.int .u8)) := by simpa [byteVs] using hown1
        have hconv := own_text hown2
        have HQ := Lib.hid (quote_some HP.out R.out.esc)
        have BB := Lib.hid (R.out.low.trans (((Below.refl _ _).alloc (by omega) _).trans hb1))
        clear hown1 hb1 hown2
        go_wp2_with fail
        rw [hconv]
        go_wp2_with fail
        go_ret
        exact ⟨by rw [HQ.out]; rfl, BB.out⟩
end Go.Proofs.YtlgeepjlnjlgdaaDoor
namespace Go.Proofs.YtlgeepjlnjlgdaaDoor
open Go.RowKit

theorem quote_emp {s : ByteArray} : ((quoteN s).toList == []) = decide ((quoteN s).size = 0) := by
  have e : (quoteN s).size = (quoteN s).data.toList.length := Array.length_toList.symm
  rw [ByteArray.toList_eq, e]
  cases h : (quoteN s).data.toList with
  | nil => rfl
  | cons c l => simp
theorem quote_yes {s : ByteArray} (h : ((quoteN s).toList == []) = true) : (quoteN s).size = 0 := by
  rw [quote_emp] at h
  exact of_decide_eq_true h
theorem quote_no {s : ByteArray} (h : ((quoteN s).toList == []) = false) : (quoteN s).size ≠ 0 := by
  rw [quote_emp] at h
  exact of_decide_eq_false h
theorem legal_var {n : Int} {s : ByteArray} {m : Nat} {a : Nat → T} : (T.mk 1 n s m a).legal ↔ 0 ≤ n := by
  constructor
  · rintro (h | h | h | h)
    · exact h.2
    · exact absurd h (by decide)
    · exact absurd h.1 (by decide)
    · exact absurd h.1 (by decide)
  · exact fun h => .inl ⟨rfl, h⟩
theorem legal_atom {n : Int} {s : ByteArray} {m : Nat} {a : Nat → T} : (T.mk 3 n s m a).legal ↔ (quoteN s).size ≠ 0 := by
  constructor
  · rintro (h | h | h | h)
    · exact absurd h.1 (by decide)
    · exact absurd h (by decide)
    · exact h.2
    · exact absurd h.1 (by decide)
  · exact fun h => .inr (.inr (.inl ⟨rfl, h⟩))
theorem legal_cmp {n : Int} {s : ByteArray} {m : Nat} {a : Nat → T} (h : (T.mk 4 n s m a).legal) : (quoteN s).size ≠ 0 ∧ 0 < m := by
  rcases h with h | h | h | h
  · exact absurd h.1 (by decide)
  · exact absurd h (by decide)
  · exact absurd h.1 (by decide)
  · exact ⟨h.2.1, h.2.2.1⟩
theorem legal_no {k n : Int} {s : ByteArray} {m : Nat} {a : Nat → T} (h1 : k ≠ 1) (h2 : k ≠ 2) (h3 : k ≠ 3) (h4 : k ≠ 4) : ¬ (T.mk k n s m a).legal := by
  rintro (h | h | h | h)
  · exact h1 h.1
  · exact h2 h
  · exact h3 h.1
  · exact h4 h.1
set_option maxRecDepth 100000 in
set_option maxHeartbeats 8000000 in
theorem parts_any : ∀ t : T, t.short → ∀ (left : Int) (S : Nat → Prop) (v : Value) (w : World), left ≤ 100000 → -100000 ≤ left → TP w S t v →
    Calls Tryd.prog 69 #[v, .int .i64 left] w fun e w' => (∃ r, e = .returned (.int .i64 r) ∧ Hid (PartsR t left r)) ∧ Below w.heap.size w w' := by
  intro t
  induction t with
  | nil => intro _ _ S v w _ _ hv; exact hv.elim
  | mk k n s m a ih =>
    intro hsh left S v w hle hge hv
    obtain ⟨k', n', s', A, m', c, rfl⟩ := hv.agg
    obtain ⟨e0, e1, e2, rfl, hmc, hA, _⟩ := hv.args
    injection e0 with _ e0
    injection e1 with _ e1
    injection e2 with e2
    subst e0; subst e1; subst e2
    have HV := Lib.hid hv
    have HS := Lib.hid hsh
    have IH := Lib.hid ih
    have hs4 : s'.size ≤ 4096 := hsh.1
    have BX := Lib.hid (belA (Below.refl w.heap.size w) (Obj.cells #[.int .i64 k', .int .i64 n', .string s', .slice A m' c] 24))
    clear hv hsh ih hA
    by_cases h0 : left ≤ 0
    · have P0 := Lib.hid (parts_none (t := .mk k' n' s' m' a) h0)
      go_enter Tryd.func69, Tryd.ntmps69
      go_wp2_with fail
      go_ret
      exact ⟨⟨_, rfl, P0⟩, BX.out⟩
    obtain ⟨L, rfl⟩ : ∃ L : Int, left = L + 1 := ⟨left - 1, by omega⟩
    have hL0 : 0 ≤ L := by omega
    have hL1 : L + 1 - 1 = L := by omega
    have CQ := Lib.hid (rquote_any s' hs4 (w.alloc (Obj.cells #[.int .i64 k', .int .i64 n', .string s', .slice A m' c] 24)))
    by_cases h1 : k' = 1
    · subst h1
      by_cases hn : n' < 0
      · have P := Lib.hid (parts_bad (L := L + 1) (show ¬ (T.mk 1 n' s' m' a).legal by rw [legal_var]; omega))
        go_enter Tryd.func69, Tryd.ntmps69
        go_wp2_with fail
        go_ret
        exact ⟨⟨_, rfl, P⟩, BX.out⟩
      · have P := Lib.hid (parts_leaf (by decide) (show (T.mk 1 n' s' m' a).legal by rw [legal_var]; omega) hL0)
        go_enter Tryd.func69, Tryd.ntmps69
        go_wp2_with fail
        go_ret
        exact ⟨⟨_, rfl, P⟩, BX.out⟩
    by_cases h2 : k' = 2
    · subst h2
      have P := Lib.hid (parts_leaf (by decide) (show (T.mk 2 n' s' m' a).legal from .inr (.inl rfl)) hL0)
      go_enter Tryd.func69, Tryd.ntmps69
      go_wp2_with fail
      go_ret
      exact ⟨⟨_, rfl, P⟩, BX.out⟩
    by_cases h3 : k' = 3
    · subst h3
      cases hq : ((quoteN s').toList == []) with
      | true =>
        have P := Lib.hid (parts_bad (L := L + 1) (show ¬ (T.mk 3 n' s' m' a).legal by rw [legal_atom]; exact fun h => h (quote_yes hq)))
        go_enter Tryd.func69, Tryd.ntmps69
        go_wp2_with fail
        refine CQ.out.mono ?_
        rintro e w1 ⟨rfl, hb1⟩
        have B1 := Lib.hid (BX.out.trans (hb1.mono (by simp)))
        clear hb1
        go_wp2_with fail
        go_ret
        exact ⟨⟨_, rfl, P⟩, B1.out⟩
      | false =>
        have P := Lib.hid (parts_leaf (by decide) (show (T.mk 3 n' s' m' a).legal by rw [legal_atom]; exact quote_no hq) hL0)
        go_enter Tryd.func69, Tryd.ntmps69
        go_wp2_with fail
        refine CQ.out.mono ?_
        rintro e w1 ⟨rfl, hb1⟩
        have B1 := Lib.hid (BX.out.trans (hb1.mono (by simp)))
        clear hb1
        go_wp2_with fail
        go_ret
        exact ⟨⟨_, rfl, P⟩, B1.out⟩
    by_cases h4 : k' = 4
    · subst h4
      have X1 : ∀ w1, Below (w.alloc (Obj.cells #[.int .i64 4, .int .i64 n', .string s', .slice A m' c] 24)).heap.size (w.alloc (Obj.cells #[.int .i64 4, .int .i64 n', .string s', .slice A m' c] 24)) w1 → w1.heap[w.heap.size]? = some (.cells #[.int .i64 4, .int .i64 n', .string s', .slice A m' c] 24 (0, 0)) :=
        fun w1 h => (h.block w.heap.size (by simp)).trans (heap_alloc_new w _)
      have HX1 := Lib.hid X1
      clear X1
      cases hq : ((quoteN s').toList == []) with
      | true =>
        have P := Lib.hid (parts_bad (L := L + 1) (show ¬ (T.mk 4 n' s' m' a).legal from fun h => (legal_cmp h).1 (quote_yes hq)))
        go_enter Tryd.func69, Tryd.ntmps69
        go_wp2_with fail
        refine CQ.out.mono ?_
        rintro e w1 ⟨rfl, hb1⟩
        have B1 := Lib.hid (BX.out.trans (hb1.mono (by simp)))
        clear hb1
        go_wp2_with fail
        go_ret
        exact ⟨⟨_, rfl, P⟩, B1.out⟩
      | false =>
        have HQ := Lib.hid (quote_no hq)
        by_cases hm0 : m' = 0
        · subst hm0
          have P := Lib.hid (parts_bad (L := L + 1) (show ¬ (T.mk 4 n' s' 0 a).legal from fun h => absurd (legal_cmp h).2 (by omega)))
          go_enter Tryd.func69, Tryd.ntmps69
          go_wp2_with fail
          refine CQ.out.mono ?_
          rintro e w1 ⟨rfl, hb1⟩
          have B1 := Lib.hid (BX.out.trans (hb1.mono (by simp)))
          obtain ⟨x0, x1, x2, x3⟩ := box4t (HX1.out w1 hb1)
          clear hb1
          go_wp2_with fail
          go_ret
          exact ⟨⟨_, rfl, P⟩, B1.out⟩
        have hm0' : ((m' : Int) == 0) = false := by simp; omega
        by_cases hmL : L < (m' : Int)
        · have P := Lib.hid (parts_many (s := s') (n := n') (a := a) rfl hmL)
          go_enter Tryd.func69, Tryd.ntmps69
          go_wp2_with fail
          refine CQ.out.mono ?_
          rintro e w1 ⟨rfl, hb1⟩
          have B1 := Lib.hid (BX.out.trans (hb1.mono (by simp)))
          obtain ⟨x0, x1, x2, x3⟩ := box4t (HX1.out w1 hb1)
          clear hb1
          go_wp2_with fail
          go_ret
          exact ⟨⟨_, rfl, P⟩, B1.out⟩
        have HDONE := Lib.hid (fun r (h : RowR m' a L m' r) => RowR.done (n := n') h rfl HQ.out (by omega))
        go_enter Tryd.func69, Tryd.ntmps69
        go_wp2_with fail
        refine CQ.out.mono ?_
        rintro e w1 ⟨rfl, hb1⟩
        have B1 := Lib.hid (BX.out.trans (hb1.mono (by simp)))
        have X2 := Lib.hid (HX1.out w1 hb1)
        obtain ⟨x0, x1, x2, x3⟩ := box4t X2.out
        clear hb1
        go_wp2_with fail
        go_loopw [1, 5] (fun lv iv wr => ∃ (r : Int) (i : Nat), lv = .int .i64 r ∧ iv = .int .i64 (i : Int) ∧ i ≤ m' ∧ r ≤ L ∧ -1 ≤ r ∧ Hid (RowR m' a L i r) ∧ Below w.heap.size w wr ∧ wr.heap[w.heap.size]? = some (.cells #[.int .i64 4, .int .i64 n', .string s', .slice A m' c] 24 (0, 0))) (fun _ iv _ => m' - (intOf iv).toNat)
        case atStart => exact ⟨L, 0, rfl, rfl, Nat.zero_le _, Int.le_refl _, by omega, Lib.hid (RowR.start hL0), B1.out, X2.out⟩
        case round =>
          clear B1 X2 x0 x1 x2 x3
          obtain ⟨r, i, rfl, rfl, hi, hrL, hr1, hR, hb, hbox⟩ := hrel
          have HB := Lib.hid hb
          have HX := Lib.hid hbox
          obtain ⟨x0, x1, x2, x3⟩ := box4t hbox
          have hbl := heap_lt hbox
          clear hb hbox
          by_cases him : i < m'
          · have him' : (i : Int) < (m' : Int) := by omega
            by_cases hr0 : 0 ≤ r
            · obtain ⟨_, _, _, _, _, _, hargs⟩ := (HV.out.below HB.out).args
              obtain ⟨g, k0, k1, k2, A0, m0, c0, rfl, _, hgl, d0, d1, d2, d3, ht⟩ := hargs i him
              have CI := Lib.hid (IH.out i (HS.out.2 i him) r S _ wr (by omega) (by omega) ht)
              clear hargs ht
              go_wp2_with fail
              refine CI.out.mono ?_
              rintro e w5 ⟨⟨r', rfl, hp⟩, h5⟩
              have B5 := Lib.hid (HB.out.trans (h5.mono HB.out.size))
              have X5 := Lib.hid ((h5.block _ hbl).trans HX.out)
              have hp1 : r' ≤ r ∧ -1 ≤ r' := by
                rcases hp.out with ⟨_, q2, q3⟩ | ⟨_, q2⟩
                · omega
                · omega
              have HR2 := Lib.hid (hR.out.step him hr0 hp.out)
              clear h5
              go_wp2_with fail
              go_roundw
              case rel => exact ⟨r', i + 1, rfl, by go_num, him, by omega, hp1.2, HR2, B5.out, X5.out⟩
              case measure => simp [intOf]; omega
            · have P := Lib.hid (HDONE.out r (hR.out.cut hr0))
              go_wp2_with fail
              go_ret
              exact ⟨⟨_, rfl, P⟩, HB.out⟩
          · obtain rfl : i = m' := by omega
            have P := Lib.hid (HDONE.out r hR.out)
            go_wp2_with fail
            go_ret
            exact ⟨⟨_, rfl, P⟩, HB.out⟩
    · have P := Lib.hid (parts_bad (L := L + 1) (legal_no (n := n') (s := s') (m := m') (a := a) h1 h2 h3 h4))
      have h1' : (k' == 1) = false := by simpa using h1
      have h2' : (k' == 2) = false := by simpa using h2
      have h3' : (k' == 3) = false := by simpa using h3
      have h4' : (k' == 4) = false := by simpa using h4
      clear h1 h2 h3 h4
      go_enter Tryd.func69, Tryd.ntmps69
      go_wp2_with fail
      go_ret
      exact ⟨⟨_, rfl, P⟩, BX.out⟩
theorem rgood_any {t : T} (hs : t.short) {S : Nat → Prop} {v : Value} {w : World} (hv : TP w S t v) :
    Calls Tryd.prog 51 #[v] w fun e w' => (∃ b, e = .returned (.bool b) ∧ Hid (b = true ↔ t.goodW)) ∧ Below w.heap.size w w' := by
  obtain ⟨k, n, s, A, m, c, rfl⟩ := hv.agg
  have BX := Lib.hid (belA (Below.refl w.heap.size w) (Obj.cells #[.int .i64 k, .int .i64 n, .string s, .slice A m c] 24))
  have CP := Lib.hid (parts_any t hs 1000 S _ _ (by omega) (by omega) (hv.below BX.out))
  clear hv
  go_enter Tryd.func51, Tryd.ntmps51
  go_wp2_with fail
  refine CP.out.mono ?_
  rintro e w1 ⟨⟨r, rfl, hp⟩, hb1⟩
  have B1 := Lib.hid (BX.out.trans (hb1.mono (by simp)))
  clear hb1
  by_cases h0 : 0 ≤ r
  · have P := Lib.hid (show True ↔ t.goodW by
      rcases hp.out with ⟨q1, q2, q3⟩ | ⟨_, q2⟩
      · exact ⟨fun _ => ⟨q1, by omega⟩, fun _ => trivial⟩
      · omega)
    go_wp2_with fail
    go_ret
    exact ⟨⟨_, rfl, Lib.hid ⟨fun _ => P.out.1 trivial, fun _ => by first | rfl | trivial⟩⟩, B1.out⟩
  · have P := Lib.hid (show ¬ t.goodW by
      rintro ⟨q1, q2⟩
      rcases hp.out with ⟨_, _, q3⟩ | ⟨q4, _⟩
      · omega
      · exact q4 ⟨q1, by omega⟩)
    go_wp2_with fail
    go_ret
    exact ⟨⟨decide (0 ≤ r), by first | rfl | simp [h0], Lib.hid ⟨fun h => absurd (of_decide_eq_true h) (by omega), fun h => absurd h P.out⟩⟩, B1.out⟩
end Go.Proofs.YtlgeepjlnjlgdaaDoor
