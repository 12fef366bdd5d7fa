/- The reference's Quote: the plain one. -/
import Derived.Test.YtiefbdblefliaaaDoorGe
import Derived.Test.YtiefbdblefliaaaDoorLex4
import Derived.Deep.AppendLies
import Derived.Deep.CutBlock
namespace Go.Proofs.YtiefbdblefliaaaDoor
open Go.RowKit

def byteVs (l : List UInt8) : List Value := (l.map fun c => (c.toNat : Int)).map (Value.int .u8)
/-- What the loop of Quote has gathered. -/
structure QR (w : World) (s : ByteArray) (b iv : Value) (wr : World) (k : Nat) (l : List UInt8) : Prop where
  hi : iv = .int .i64 (k : Int)
  own : wr.ownsRow w.heap.size 5 1 b (l.length + 1) (byteVs (39 :: l))
  up : k ≤ s.size
  esc : escN (s.data.toList.take k) = some l
  low : Below w.heap.size w wr
theorem QR.few {w : World} {s : ByteArray} {b iv : Value} {wr : World} {k : Nat} {l : List UInt8} (h : QR w s b iv wr k l) : l.length ≤ 2 * k := by
  have h1 := escN_len _ _ h.esc
  rw [List.length_take] at h1
  omega
theorem QR.step {w : World} {s : ByteArray} {b iv : Value} {wr w1 : World} {k n : Nat} {l : List UInt8} {b' iv' : Value} {vs : List Value} (h : QR w s b iv wr k l) (y : List UInt8) (hy : esc1 (bu s k) = some y)
    (hi' : iv' = .int .i64 ((k + 1 : Nat) : Int)) (hown : w1.ownsRow w.heap.size 5 1 b' n (byteVs (39 :: l) ++ vs)) (hn : n = l.length + 1 + y.length) (hv : vs = byteVs y) (hk : k < s.size) (hb : Below w.heap.size wr w1) : QR w s b' iv' w1 (k + 1) (l ++ y) := by
  subst hn; subst hv
  refine ⟨hi', ?_, hk, ?_, h.low.trans hb⟩
  · have e : byteVs (39 :: (l ++ y)) = byteVs (39 :: l) ++ byteVs y := by simp [byteVs]
    have e2 : (l ++ y).length + 1 = l.length + 1 + y.length := by simp; omega
    rw [e, e2]
    exact hown
  · rw [take_succ s hk, escN_snoc, h.esc, hy]
theorem esc_10 {s : ByteArray} {k : Nat} (h : ((bn s k : Int) == 10) = true) : esc1 (bu s k) = some [92, 110] := by
  have : bu s k = 10 := by have := (byte_eq (bu s k) 10).symm.trans h; simpa using this
  rw [this]; rfl
theorem esc_9 {s : ByteArray} {k : Nat} (h : ((bn s k : Int) == 9) = true) : esc1 (bu s k) = some [92, 116] := by
  have : bu s k = 9 := by have := (byte_eq (bu s k) 9).symm.trans h; simpa using this
  rw [this]; rfl
theorem esc_92 {s : ByteArray} {k : Nat} (h : ((bn s k : Int) == 92) = true) : esc1 (bu s k) = some [92, bu s k] := by
  have : bu s k = 92 := by have := (byte_eq (bu s k) 92).symm.trans h; simpa using this
  rw [this]; rfl
theorem esc_39 {s : ByteArray} {k : Nat} (h : ((bn s k : Int) == 39) = true) : esc1 (bu s k) = some [92, bu s k] := by
  have : bu s k = 39 := by have := (byte_eq (bu s k) 39).symm.trans h; simpa using this
  rw [this]; rfl
theorem ne_byte {s : ByteArray} {k : Nat} {d : UInt8} (h : ((bn s k : Int) == (d.toNat : Int)) = false) : bu s k ≠ d := by
  have := (byte_eq (bu s k) d).symm.trans h
  simpa using this
theorem esc_bad {s : ByteArray} {k : Nat} (h1 : ((bn s k : Int) == 10) = false) (h2 : ((bn s k : Int) == 9) = false) (h3 : ((bn s k : Int) == 92) = false) (h4 : ((bn s k : Int) == 39) = false) (h5 : (bn s k : Int) < 32 ∨ (126 : Int) < (bn s k : Int)) : esc1 (bu s k) = none := by
  unfold esc1
  rw [if_neg (ne_byte (d := 10) h1), if_neg (ne_byte (d := 9) h2), if_neg (fun e => e.elim (ne_byte (d := 92) h3) (ne_byte (d := 39) h4)), if_pos (by rw [bn_bu] at h5; omega)]
theorem esc_self {s : ByteArray} {k : Nat} (h1 : ((bn s k : Int) == 10) = false) (h2 : ((bn s k : Int) == 9) = false) (h3 : ((bn s k : Int) == 92) = false) (h4 : ((bn s k : Int) == 39) = false) (h5 : ¬ (bn s k : Int) < 32) (h6 : ¬ (126 : Int) < (bn s k : Int)) : esc1 (bu s k) = some [bu s k] := by
  unfold esc1
  rw [if_neg (ne_byte (d := 10) h1), if_neg (ne_byte (d := 9) h2), if_neg (fun e => e.elim (ne_byte (d := 92) h3) (ne_byte (d := 39) h4)), if_neg (by rw [bn_bu] at h5 h6; omega)]
theorem quote_none {s : ByteArray} {k : Nat} (hp : plainN s = false) (hk : k < s.size) (h : esc1 (bu s k) = none) : quoteN s = ⟨#[]⟩ := by
  have h1 : escN (s.data.toList.take (k + 1)) = none := by
    rw [take_succ s hk, escN_snoc, h]
    cases escN (s.data.toList.take k) <;> rfl
  have h2 := escN_none _ (s.data.toList.drop (k + 1)) h1
  rw [List.take_append_drop] at h2
  unfold quoteN
  rw [hp, h2]
  rfl
theorem quote_some {s : ByteArray} {l : List UInt8} (hp : plainN s = false) (h : escN (s.data.toList.take s.size) = some l) : quoteN s = quotedN l := by
  rw [List.take_of_length_le (by rw [list_len]; omega)] at h
  unfold quoteN
  rw [hp, h]
  rfl
theorem text_same {a b : ByteArray} (h : a.toList = b.toList) : a = b := by
  apply bytes_same
  simpa [ByteArray.toList_eq] using h
theorem quote_plain {s : ByteArray} (hp : plainN s = true) : quoteN s = s := by
  unfold quoteN
  rw [hp]
  rfl
set_option maxRecDepth 100000 in
set_option maxHeartbeats 8000000 in
theorem rquote_any (s : ByteArray) (hs : s.size ≤ 4096) (w : World) : Calls Tryd.prog 44 #[.string s] w fun e w' => e = .returned (.string (quoteN s)) ∧ Below w.heap.size w w' := by
  have hb : ∀ (i : Nat) (h : i < s.size), (s[i]'h).toNat = bn s i := bn_eq s
  obtain ⟨item, ii1, ii2, ii3, ii4⟩ := elU8.hi
  have hs' : (s.size : Int) ≤ 4096 := by omega
  go_enter Tryd.func44, Tryd.ntmps44
  go_upto_if 11 with (fail)
  go_cut [] (fun wx => Hid (plainN s = false) ∧ Below w.heap.size w wx)
  case first =>
    as_aux_lemma =>
      go_wp2_with fail
      refine (rtokens_any s _).mono ?_
      rintro e w1 ⟨⟨v, p, er, rfl, hq⟩, h1⟩
      have B1 := Lib.hid h1
      unfold TokQ at hq
      clear h1
      cases hL : lexN s with
      | bad q er0 =>
        rw [hL] at hq
        obtain ⟨rfl, rfl, rfl, hne⟩ := hq
        have hne' : (er == 0) = false := by simpa using hne
        have HP := Lib.hid (show plainN s = false by
          cases hp : plainN s with
          | false => rfl
          | true => rw [(lex_plain hp hs).1] at hL; cases hL)
        clear hL hne
        go_wp2_with fail
        go_meet
        exact ⟨HP, B1.out⟩
      | ok l =>
        rw [hL] at hq
        obtain ⟨rfl, rfl, hown, hfew, _, _⟩ := hq
        have HP := Lib.hid (show plainN s = true → l = [⟨1, s, 0, s.size⟩] from fun hp => by
          rw [(lex_plain hp hs).1] at hL
          injection hL with hL
          exact hL.symm)
        have HL := Lib.hid hL
        clear hL
        by_cases hl1 : l.length = 1
        · obtain ⟨x, rfl⟩ : ∃ x, l = [x] := List.length_eq_one_iff.1 hl1
          obtain ⟨A, c, rfl, _, _, _, hx⟩ := own_open hown
          obtain ⟨g, cur, rfl, _, hg, hcur⟩ := hx (by simp)
          have hgl := heap_lt hg
          have d0 := (cell_of_row w1 g 0 _ _ _ hg).trans ((hcur 0 (by simp)).trans (show _ = some (Value.int .i64 x.k) from rfl))
          have d1 := (cell_of_row w1 g 1 _ _ _ hg).trans ((hcur 1 (by simp)).trans (show _ = some (Value.string x.t) from rfl))
          have d3 := (cell_of_row w1 g 3 _ _ _ hg).trans ((hcur 3 (by simp)).trans (show _ = some (Value.int .i64 (x.b : Int)) from rfl))
          have hpos : 0 < s.size := by
            have := (lexN_ok HL.out).2.2 x (by simp)
            have h1 := this.2.2.2.1
            have h2 := this.2.2.2.2
            omega
          have hpos' : (0 : Int) < (s.size : Int) := by omega
          have HX := Lib.hid (show plainN s = true → x = ⟨1, s, 0, s.size⟩ from fun hp => by have := HP.out hp; injection this)
          have NO := Lib.hid (show (plainN s = true → False) → Hid (plainN s = false) from fun h => Lib.hid (by
            cases hp : plainN s with
            | false => rfl
            | true => exact absurd hp h))
          have YES := Lib.hid (show x.k = 1 → x.t = s → x.b = s.size → plainN s = true from fun h1 h2 h3 => plain_of_lex HL.out h1 h2 h3)
          clear hown hx hcur hg
          cases q1 : (x.k == 1) with
          | false =>
            have hn : plainN s = true → False := fun hp => by rw [HX.out hp] at q1; cases q1
            have HN := NO.out hn
            clear hn
            go_wp2_with fail
            go_meet
            exact ⟨HN, B1.out⟩
          | true =>
            cases q2 : (x.t.toList == s.toList) with
            | false =>
              have hn : plainN s = true → False := fun hp => by rw [HX.out hp] at q2; simp at q2
              have HN := NO.out hn
              clear hn
              go_wp2_with fail
              go_meet
              exact ⟨HN, B1.out⟩
            | true =>
              cases q3 : ((x.b : Int) == (s.size : Int)) with
              | false =>
                have hn : plainN s = true → False := fun hp => by rw [HX.out hp] at q3; simp at q3
                have HN := NO.out hn
                clear hn
                go_wp2_with fail
                go_meet
                exact ⟨HN, B1.out⟩
              | true =>
                have HP := Lib.hid (YES.out (by simpa using q1) (text_same (by simpa using q2)) (by have : (x.b : Int) = (s.size : Int) := by simpa using q3
                                                                                                    omega))
                have q4 : ((bn s 0 : Int) != 39) = true := by
                  have h := (lex_plain HP.out hs).2
                  simp [bne, h]
                go_wp2_with fail
                go_ret
                exact ⟨by rw [quote_plain HP.out]; rfl, B1.out⟩
        · obtain ⟨A, c, rfl, _, _, _, _⟩ := own_open hown
          have hl1' : ((l.length : Int) == 1) = false := by
            rw [beq_eq_false_iff_ne]
            omega
          have HN := Lib.hid (show plainN s = false by
            cases hp : plainN s with
            | false => rfl
            | true => rw [HP.out hp] at hl1; exact absurd rfl hl1)
          clear hown hl1
          go_wp2_with fail
          go_meet
          exact ⟨HN, B1.out⟩
  case rest =>
    obtain ⟨HP, hb1⟩ := hcut
    have B1 := Lib.hid hb1
    have hw1 := hb1.size
    clear hb1
    go_wp2_with fail
    go_loopw [2, 6, 7, 8] (fun _ b iv _ wr => ∃ k l, QR w s b iv wr k l) (fun _ _ iv _ _ => s.size - (intOf iv).toNat)
    case atStart =>
      exact ⟨0, [], by go_num, ⟨rfl, .inr ⟨_, 1, _, rfl, hw1, heap_alloc_new _ _, Nat.le_refl _, by simp [maxLen], rfl, rfl⟩⟩, Nat.zero_le _, rfl, B1.out.alloc hw1 _⟩
    case round =>
      obtain ⟨k, l, hr⟩ := hrel
      obtain rfl := hr.hi
      have R := Lib.hid hr
      have hk := hr.up
      have hfew := hr.few
      have hsz := hr.low.size
      clear hr
      by_cases h7 : k < s.size
      · have h7' : (k : Int) < (s.size : Int) := by omega
        cases h10 : ((bn s k : Int) == 10) with
        | true =>
          go_wp2_with (at_builtin; go_must (refine wpList_append_lies _ rfl _ _ _ rfl w.heap.size 5 item (.int .u8 0) 1 1 Tryd.underlying54 ii1 ii2 ii3 ii4 rfl (by omega) _ (l.length + 1) _ rfl (R.out.own.alloc _) ⟨wr.heap.size, 0, none⟩ 2 2 [.int .u8 92, .int .u8 110] rfl rfl (World.news_of_block (heap_alloc_new _ _)) ?_ (by omega) (by unfold maxLen; omega) (by omega) (by simp; omega) _ rfl ?_))
          · intro u hu
            simp only [List.mem_cons, List.not_mem_nil, or_false] at hu
            rcases hu with rfl | rfl <;> rfl
          intro g1 cap1 w9 hown1 hg1 hat1 _
          have R1 := Lib.hid (R.out.step [92, 110] (esc_10 h10) (iv' := .int .i64 ((k : Int) + 1)) (by go_num) hown1 rfl rfl h7 (((Below.refl _ _).alloc (by omega) _).grown hg1 (by simp; omega) fun q hq => (R.out.own.lt q hq).1))
          clear hown1 hg1 hat1
          go_wp2_with fail
          go_roundw
          case rel => exact ⟨_, _, R1.out⟩
          case measure => simp [intOf]; omega
        | false =>
          cases h9 : ((bn s k : Int) == 9) with
          | true =>
            go_wp2_with (at_builtin; go_must (refine wpList_append_lies _ rfl _ _ _ rfl w.heap.size 5 item (.int .u8 0) 1 1 Tryd.underlying54 ii1 ii2 ii3 ii4 rfl (by omega) _ (l.length + 1) _ rfl (R.out.own.alloc _) ⟨wr.heap.size, 0, none⟩ 2 2 [.int .u8 92, .int .u8 116] rfl rfl (World.news_of_block (heap_alloc_new _ _)) ?_ (by omega) (by unfold maxLen; omega) (by omega) (by simp; omega) _ rfl ?_))
            · intro u hu
              simp only [List.mem_cons, List.not_mem_nil, or_false] at hu
              rcases hu with rfl | rfl <;> rfl
            intro g1 cap1 w9 hown1 hg1 hat1 _
            have R1 := Lib.hid (R.out.step [92, 116] (esc_9 h9) (iv' := .int .i64 ((k : Int) + 1)) (by go_num) hown1 rfl rfl h7 (((Below.refl _ _).alloc (by omega) _).grown hg1 (by simp; omega) fun q hq => (R.out.own.lt q hq).1))
            clear hown1 hg1 hat1
            go_wp2_with fail
            go_roundw
            case rel => exact ⟨_, _, R1.out⟩
            case measure => simp [intOf]; omega
          | false =>
            cases h92 : ((bn s k : Int) == 92) with
            | true =>
              go_wp2_with (at_builtin; go_must (refine wpList_append_lies _ rfl _ _ _ rfl w.heap.size 5 item (.int .u8 0) 1 1 Tryd.underlying54 ii1 ii2 ii3 ii4 rfl (by omega) _ (l.length + 1) _ rfl (R.out.own.alloc _) ⟨wr.heap.size, 0, none⟩ 2 2 [.int .u8 92, .int .u8 (bn s k : Int)] rfl rfl (World.news_of_block (heap_alloc_new _ _)) ?_ (by omega) (by unfold maxLen; omega) (by omega) (by simp; omega) _ rfl ?_))
              · intro u hu
                simp only [List.mem_cons, List.not_mem_nil, or_false] at hu
                rcases hu with rfl | rfl <;> rfl
              intro g1 cap1 w9 hown1 hg1 hat1 _
              have R1 := Lib.hid (R.out.step [92, bu s k] (esc_92 h92) (iv' := .int .i64 ((k : Int) + 1)) (by go_num) hown1 rfl (by rfl) h7 (((Below.refl _ _).alloc (by omega) _).grown hg1 (by simp; omega) fun q hq => (R.out.own.lt q hq).1))
              clear hown1 hg1 hat1
              go_wp2_with fail
              go_roundw
              case rel => exact ⟨_, _, R1.out⟩
              case measure => simp [intOf]; omega
            | false =>
              cases h39 : ((bn s k : Int) == 39) with
              | true =>
                go_wp2_with (at_builtin; go_must (refine wpList_append_lies _ rfl _ _ _ rfl w.heap.size 5 item (.int .u8 0) 1 1 Tryd.underlying54 ii1 ii2 ii3 ii4 rfl (by omega) _ (l.length + 1) _ rfl (R.out.own.alloc _) ⟨wr.heap.size, 0, none⟩ 2 2 [.int .u8 92, .int .u8 (bn s k : Int)] rfl rfl (World.news_of_block (heap_alloc_new _ _)) ?_ (by omega) (by unfold maxLen; omega) (by omega) (by simp; omega) _ rfl ?_))
                · intro u hu
                  simp only [List.mem_cons, List.not_mem_nil, or_false] at hu
                  rcases hu with rfl | rfl <;> rfl
                intro g1 cap1 w9 hown1 hg1 hat1 _
                have R1 := Lib.hid (R.out.step [92, bu s k] (esc_39 h39) (iv' := .int .i64 ((k : Int) + 1)) (by go_num) hown1 rfl (by rfl) h7 (((Below.refl _ _).alloc (by omega) _).grown hg1 (by simp; omega) fun q hq => (R.out.own.lt q hq).1))
                clear hown1 hg1 hat1
                go_wp2_with fail
                go_roundw
                case rel => exact ⟨_, _, R1.out⟩
                case measure => simp [intOf]; omega
              | false =>
                by_cases hlow : (bn s k : Int) < 32
                · have HQ := Lib.hid (quote_none HP.out h7 (esc_bad h10 h9 h92 h39 (.inl hlow)))
                  go_wp2_with fail
                  go_ret
                  exact ⟨by rw [HQ.out]; rfl, R.out.low⟩
                · by_cases hgr : (126 : Int) < (bn s k : Int)
                  · have HQ := Lib.hid (quote_none HP.out h7 (esc_bad h10 h9 h92 h39 (.inr hgr)))
                    go_wp2_with fail
                    go_ret
                    exact ⟨by rw [HQ.out]; rfl, R.out.low⟩
                  · have HE := Lib.hid (esc_self h10 h9 h92 h39 hlow hgr)
                    go_wp2_with (at_builtin; go_must (refine wpList_push _ rfl _ _ _ rfl elU8 w.heap.size _ _ _ rfl (R.out.own.alloc _) _ _ (.int .u8 (bn s k : Int)) rfl (by simp [go_sem]) rfl (by omega) (by unfold maxLen; omega) (by simp; omega) ?_); intro v1 w1 hown1 hb1)
                    have R1 := Lib.hid (R.out.step [bu s k] HE.out (iv' := .int .i64 ((k : Int) + 1)) (by go_num) hown1 rfl (by rfl) h7 (((Below.refl _ _).alloc (by omega) _).trans hb1))
                    clear hown1 hb1
                    go_wp2_with fail
                    go_roundw
                    case rel => exact ⟨_, _, R1.out⟩
                    case measure => simp [intOf]; omega
      · obtain rfl : k = s.size := by omega
        go_wp2_with (at_builtin; go_must (refine wpList_push _ rfl _ _ _ rfl elU8 w.heap.size _ _ _ rfl (R.out.own.alloc _) _ _ (.int .u8 39) rfl (by simp [go_sem]) rfl (by omega) (by unfold maxLen; omega) (by simp; omega) ?_); intro v1 w1 hown1 hb1)
        have hown2 : w1.ownsRow w.heap.size 5 1 v1 (l.length + 1 + 1) (((39 :: (l ++ [39])).map fun c => (c.toNat : Int)).map (Value.int .u8)) := by simpa [byteVs] using hown1
        have hconv := own_text hown2
        have HQ := Lib.hid (quote_some HP.out R.out.esc)
        have BB := Lib.hid (R.out.low.trans (((Below.refl _ _).alloc (by omega) _).trans hb1))
        clear hown1 hb1 hown2
        go_wp2_with fail
        rw [hconv]
        go_wp2_with fail
        go_ret
        exact ⟨by rw [HQ.out]; rfl, BB.out⟩
end Go.Proofs.YtiefbdblefliaaaDoor
