/- The walk through the law LexAtoms. -/
import Derived.Test.YtgaganmcfoeejaaLp7
import Derived.Test.YtgaganmcfoeejaaLq3
import Derived.Test.YtgaganmcfoeejaaLq4
import Derived.Test.YtgaganmcfoeejaaLsame
namespace Go.Proofs.Ytgaganmcfoeejaa
open Go.RowKit

theorem Try.info_strs : (Try.prog.info? 9).map (fun i => (i.zero, i.size, i.bytes)) = some (some (.string ⟨#[]⟩), 1, 16) := by kernel_rfl
theorem elStrs : El Try.prog 33 9 (.string ⟨#[]⟩) 1 16 := by
  obtain ⟨i0, hi, hz0, hz1, hz2⟩ := info_parts Try.info_strs
  exact ⟨Try.underlying33, ⟨i0, hi, hz0, hz1, hz2⟩, rfl, by omega⟩
/-- The sizes of the first names. -/
def sumN (f : Nat → ByteArray) : Nat → Nat
  | 0 => 0
  | k + 1 => sumN f k + min (f k).size 1048576
theorem sumN_mono (f : Nat → ByteArray) : ∀ {a b : Nat}, a ≤ b → sumN f a ≤ sumN f b
  | a, 0, h => by obtain rfl : a = 0 := by omega
                  exact Nat.le_refl _
  | a, b + 1, h => by
    rcases Nat.eq_or_lt_of_le h with rfl | h1
    · exact Nat.le_refl _
    · have := sumN_mono f (show a ≤ b by omega)
      simp only [sumN]
      omega
theorem sumN_one (f : Nat → ByteArray) {i n : Nat} (hi : i < n) (h : sumN f n ≤ 1024) : (f i).size ≤ 1024 := by
  have := sumN_mono f (show i + 1 ≤ n by omega)
  simp only [sumN] at this
  omega
/-- What the loop of the law has gathered. -/
structure AtR (w w0 : World) (f : Nat → ByteArray) (len : Nat) (sv wv iv : Value) (wr : World) (k : Nat) (ns : List ByteArray) : Prop where
  hs : sv = .string (catL ns)
  hi : iv = .int .i64 (k : Int)
  up : k ≤ len
  own : wr.ownsRow w0.heap.size 9 1 wv ns.length (ns.map Value.string)
  good : ∀ n ∈ ns, n.size ≤ 2000 ∧ (quoteN n).size ≠ 0
  few : ns.length ≤ k
  sz : (catL ns).size ≤ 2 * sumN f k + 3 * k
  low : Below w0.heap.size w0 wr
theorem empty_text' {q : ByteArray} : (q.toList == []) = decide (q.size = 0) := by
  rw [ByteArray.toList_eq, Bool.eq_iff_iff, beq_iff_eq, decide_eq_true_eq, ← list_len]
  exact List.length_eq_zero_iff.symm
theorem quote_long {n : ByteArray} (h : n.size ≤ 2000) : (quoteN n).size ≤ 2 * n.size + 2 := by
  by_cases h0 : (quoteN n).size = 0
  · omega
  · exact (lex_quote h h0).2.2
theorem AtR.step {w : World} {f : Nat → ByteArray} {len : Nat} {sv wv iv : Value} {wr w' : World} {k : Nat} {ns : List ByteArray} {sv' wv' iv' : Value} (h : AtR w w f len sv wv iv wr k ns) (hk : k < len) (hs : (f k).size ≤ 1024) (hq : (quoteN (f k)).size ≠ 0)
    (hs' : sv' = .string (catL ns ++ quoteN (f k) ++ ⟨#[32]⟩)) (hi' : iv' = .int .i64 ((k + 1 : Nat) : Int)) (hown : w'.ownsRow w.heap.size 9 1 wv' (ns.length + 1) (ns.map Value.string ++ [.string (f k)])) (hb : Below w.heap.size wr w') :
    AtR w w f len sv' wv' iv' w' (k + 1) (ns ++ [f k]) := by
  have h1 := quote_long (n := f k) (by omega)
  have h32 : (ByteArray.mk #[32]).size = 1 := rfl
  refine ⟨by rw [catL_snoc]; exact hs', hi', hk, by simpa using hown, fun n hn => ?_, by have := h.few; simp; omega, ?_, h.low.trans hb⟩
  · rcases List.mem_append.1 hn with hn | hn
    · exact h.good n hn
    · simp at hn; subst hn; exact ⟨by omega, hq⟩
  · rw [catL_snoc, ByteArray.size_append, ByteArray.size_append, h32]
    have := h.sz
    simp only [sumN]
    omega
theorem AtR.skip {w : World} {f : Nat → ByteArray} {len : Nat} {sv wv iv : Value} {wr w' : World} {k : Nat} {ns : List ByteArray} {iv' : Value} (h : AtR w w f len sv wv iv wr k ns) (hk : k < len)
    (hi' : iv' = .int .i64 ((k + 1 : Nat) : Int)) (hown : w'.ownsRow w.heap.size 9 1 wv ns.length (ns.map Value.string)) (hb : Below w.heap.size wr w') :
    AtR w w f len sv wv iv' w' (k + 1) ns := by
  refine ⟨h.hs, hi', hk, hown, h.good, by have := h.few; omega, ?_, h.low.trans hb⟩
  have := h.sz
  simp only [sumN]
  omega
theorem strrow {w : World} {B : Nat} {A : Option Addr} {c i : Nat} {l : List ByteArray} (h : w.ownsRow B 9 1 (.slice A l.length c) l.length (l.map Value.string)) (hi : i < l.length) : ∃ g, A = some ⟨g, 0, none⟩ ∧ g < w.heap.size ∧ w.cell? ⟨g, i, none⟩ = some (.string (l[i]'hi)) := by
  obtain ⟨A', c', he, _, _, _, hx⟩ := own_open h
  injection he with e1 _ e3
  subst e1; subst e3
  obtain ⟨g, cur, rfl, _, hh, hc⟩ := hx (by omega)
  refine ⟨g, rfl, heap_lt hh, ?_⟩
  rw [cell_of_row w g i _ _ _ hh, hc i (by omega)]
  simp [hi]
set_option maxHeartbeats 8000000 in
set_option maxRecDepth 100000 in
theorem lexatoms_any (A : Option Addr) (len cap : Nat) (f : Nat → ByteArray) {w : World} 
    (hc : 0 < len → ∃ b off, A = some ⟨b, off, none⟩ ∧ b < w.heap.size ∧ ∀ i, i < len → w.cell? ⟨b, off + i, none⟩ = some (.string (f i))) {mx : Int} (hmx : w.cell? ⟨0, 0, none⟩ = some (.int .i64 mx)) :
    Calls Try.prog 6 #[.slice A len cap] w fun e w' => e = .returned (.bool true) ∧ Below w.heap.size w w' := by
  have HC := Lib.hid hc
  have HMX := Lib.hid hmx
  have hw0 := Lib.hid (World.block_lt_of_cell? w _ hmx)
  clear hc hmx
  go_enter Try.func6, Try.ntmps6
  go_wp2_with fail
  go_loopw [3, 4] (fun nv iv wr => ∃ k : Nat, nv = .int .i64 ((len + sumN f k : Nat) : Int) ∧ iv = .int .i64 (k : Int) ∧ k ≤ len ∧ w = wr) (fun _ iv _ => len - (intOf iv).toNat)
  case atStart => exact ⟨0, by simp [sumN], rfl, Nat.zero_le _, rfl⟩
  case round =>
    obtain ⟨k, rfl, rfl, hk, rfl⟩ := hrel
    by_cases hmany : (1024 : Int) < ((len + sumN f k : Nat) : Int)
    · have hm2 : ¬ ((len + sumN f k : Nat) : Int) ≤ 1024 := by omega
      by_cases hkl : (k : Int) < (len : Int)
      · go_wp2_with fail
        go_ret
        exact ⟨rfl, Below.refl _ _⟩
      · go_wp2_with fail
        go_ret
        exact ⟨rfl, Below.refl _ _⟩
    · have hm2 : ((len + sumN f k : Nat) : Int) ≤ 1024 := by omega
      by_cases hkl : k < len
      · have hkl' : (k : Int) < (len : Int) := by omega
        obtain ⟨b, off, rfl, hbw, hcell⟩ := HC.out (by omega)
        have hck := hcell k hkl
        clear hcell
        go_wp2_with fail
        exact ⟨⟨k + 1, by congr 1; simp only [sumN]; omega, by go_num, hkl, trivial⟩, by simp [intOf]; omega⟩
      · have hkn : k = len := by omega
        have hsum : sumN f len ≤ 1024 := by subst hkn; omega
        have hl : len ≤ 1024 := by omega
        have HSz := Lib.hid (fun i (hi : i < len) => sumN_one f hi hsum)
        have HSum := Lib.hid hsum
        have HK := Lib.hid hkn
        clear hkn hsum
        go_wp2_with fail
        go_loopw [2, 5, 6, 7, 8] (fun _ sv wv iv _ wr => ∃ k ns, AtR w w f len sv wv iv wr k ns) (fun _ _ _ iv _ _ => len - (intOf iv).toNat)
        case atStart =>
          exact ⟨0, [], rfl, rfl, Nat.zero_le _, ownsRow_empty _ _ _ _ (heap_alloc_new _ _), by simp, by simp, (by show (0 : Nat) ≤ _; omega), (Below.refl _ _).alloc (Nat.le_refl _) _⟩
        case round =>
          obtain ⟨j, ns, hr⟩ := hrel
          obtain rfl := hr.hi
          obtain rfl := hr.hs
          have R := Lib.hid hr
          have hj := hr.up
          have hfew := hr.few
          have hcs := hr.sz
          have hlow := hr.low.size
          have hcat : (catL ns).size ≤ 5200 := by
            have := sumN_mono f hj
            have := HSum.out
            omega
          clear hr hcs
          by_cases hjl : j < len
          · have hjl' : (j : Int) < (len : Int) := by omega
            obtain ⟨b, off, rfl, hbw, hcell⟩ := HC.out (by omega)
            have hck := (R.out.low.cell (p := ⟨b, off + j, none⟩) hbw).trans (hcell j hjl)
            have hfz := HSz.out j hjl
            have CP := Lib.hid (pquote_any (f j) (by omega))
            have CR := Lib.hid (rquote_any (f j) (by omega))
            have HQL := Lib.hid (quote_long (n := f j) (by omega))
            obtain ⟨q, hq⟩ : ∃ q, q = quoteN (f j) := ⟨_, rfl⟩
            rw [← hq] at CP CR HQL
            have HQ := Lib.hid hq
            have hqs : q.size ≤ 3000 := by have := HQL.out; omega
            clear hcell hq
            go_wp2_with fail
            refine (CP.out wr).mono ?_
            rintro e w1 ⟨rfl, hb1⟩
            have B1 := Lib.hid (hb1.mono hlow)
            have hck1 := (hb1.cell (p := ⟨b, off + j, none⟩) (Nat.lt_of_lt_of_le hbw hlow)).trans hck
            have O1 := Lib.hid (own_below R.out.own hb1)
            clear hb1 CP hck
            go_wp2_with fail
            refine (CR.out w1).mono ?_
            rintro e w2 ⟨rfl, hb2⟩
            have B2 := Lib.hid (B1.out.trans (hb2.mono (Nat.le_trans hlow B1.out.size)))
            have O2 := Lib.hid (own_below O1.out hb2)
            have hck2 := (hb2.cell (p := ⟨b, off + j, none⟩) (World.block_lt_of_cell? _ _ hck1)).trans hck1
            have hw2 : w.heap.size ≤ w2.heap.size := Nat.le_trans hlow B2.out.size
            clear hb2 CR hck1 B1 O1
            by_cases hz : q.size = 0
            · have he : (q.toList == []) = true := by rw [empty_text', decide_eq_true hz]
              have R1 := Lib.hid (R.out.skip (iv' := .int .i64 ((j : Int) + 1)) hjl (by go_num) O2.out B2.out)
              clear hck2
              go_wp2_with fail
              go_roundw
              case rel => exact ⟨_, _, R1.out⟩
              case measure => simp [intOf]; omega
            · have he : (q.toList == []) = false := by rw [empty_text', decide_eq_false hz]
              go_wp2_with (at_builtin; go_must (refine wpList_push _ rfl _ _ _ rfl elStrs w.heap.size _ _ _ rfl (O2.out.alloc _) _ _ (.string (f j)) rfl (by simp [go_sem]) rfl (by omega) (by unfold maxLen; omega) (by simp; omega) ?_); intro v3 w3 hown3 hb3)
              have R1 := Lib.hid (R.out.step (iv' := .int .i64 ((j : Int) + 1)) hjl hfz (by rw [← HQ.out]; exact hz) rfl (by go_num) hown3 (B2.out.trans (((Below.refl _ _).alloc hw2 _).trans hb3)))
              rw [← HQ.out] at R1
              clear hown3 hb3 hck2
              go_wp2_with fail
              go_roundw
              case rel => exact ⟨_, _, R1.out⟩
              case measure => simp [intOf]; omega
          · have hjn : j = len := by omega
            have M0 := Lib.hid ((R.out.low.cell hw0.out).trans HMX.out)
            obtain ⟨A6, c6, rfl, hc6, _, _, _⟩ := own_open R.out.own
            have hns : ns.length ≤ 1024 := by omega
            by_cases hbig : (4096 : Int) < ((catL ns).size : Int)
            · go_wp2_with fail
              go_ret
              exact ⟨rfl, R.out.low⟩
            by_cases hbig2 : (1000 : Int) < (ns.length : Int)
            · go_wp2_with fail
              go_ret
              exact ⟨rfl, R.out.low⟩
            obtain ⟨r, hlex, hm⟩ := lex_cat ns R.out.good (by omega) (by omega)
            have hrl : r.length = ns.length := by have := congrArg List.length hm; simpa using this
            have HX := Lib.hid hlex
            have HM := Lib.hid hm
            have HRL := Lib.hid hrl
            clear hlex hm hrl hjn
            go_wp2_with fail
            refine (ptokens_any _ wr M0.out).mono ?_
            rintro e w1 ⟨⟨v, p, er, rfl, hq⟩, hb1⟩
            unfold TokQ at hq
            rw [HX.out] at hq
            obtain ⟨rfl, rfl, hown, _, _, _⟩ := hq
            have OR := Lib.hid hown
            have ON := Lib.hid (own_below R.out.own hb1)
            have B1 := Lib.hid (R.out.low.trans (hb1.mono hlow))
            obtain ⟨A7, c7, rfl, hc7, _, _, _⟩ := own_open hown
            have hrl' : (r.length : Int) = (ns.length : Int) := by have := HRL.out; omega
            clear hown hb1
            go_wp2_with fail
            go_loopw [12] (fun iv wy => ∃ (i : Nat), iv = .int .i64 (i : Int) ∧ i ≤ r.length ∧ Below w1.heap.size w1 wy) (fun iv _ => r.length - (intOf iv).toNat)
            case atStart => exact ⟨0, rfl, Nat.zero_le _, Below.refl _ _⟩
            case round =>
              obtain ⟨i, rfl, hi, hbw⟩ := hrel
              have BW := Lib.hid hbw
              have ORy := Lib.hid (own_below OR.out hbw)
              have ONy := Lib.hid (own_below ON.out hbw)
              clear hbw
              by_cases hir : i < r.length
              · have hir' : (i : Int) < (r.length : Int) := by omega
                have hin : i < ns.length := by omega
                have hin' : (i : Int) < (ns.length : Int) := by omega
                have hkt : (r[i]'hir).kt = (1, ns[i]'hin) := by
                  have h1 : (r.map Tk.kt)[i]? = (ns.map fun n => ((1 : Int), n))[i]? := by rw [HM.out]
                  simpa [hir, hin] using h1
                obtain ⟨g, rfl, hg, hcell⟩ := tokrow ORy.out rfl hir
                have h0 := hcell 0 (by omega)
                have h1 := hcell 1 (by omega)
                obtain ⟨x, hx⟩ : ∃ x, r[i]'hir = x := ⟨_, rfl⟩
                obtain ⟨n, hn⟩ : ∃ n, ns[i]'hin = n := ⟨_, rfl⟩
                rw [hx] at h0 h1 hkt
                rw [hn] at hkt
                simp only [Tk.kt, Prod.mk.injEq] at hkt
                simp [Tk.cells] at h0 h1
                rw [hkt.1] at h0
                rw [hkt.2] at h1
                obtain ⟨g2, rfl, hg2, k0⟩ := strrow ONy.out hin
                rw [hn] at k0
                clear hcell hkt hx hn
                go_wp2_with fail
                go_region
                go_wp2_with fail
                go_roundw
                case rel =>
                  refine ⟨i + 1, by go_num, by omega, ?_⟩
                  first | exact BW.out | exact BW.out.drew
                case measure => simp [intOf]; omega
              · go_wp2_with fail
                go_ret
                exact ⟨rfl, B1.out.trans (BW.out.mono B1.out.size)⟩
end Go.Proofs.Ytgaganmcfoeejaa
