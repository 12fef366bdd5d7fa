/- The reference's parser: One. -/
import Derived.Test.YtlogcealmiokkaaGreatDoorKRd13
namespace Go.Proofs.YtlogcealmiokkaaGreatDoor
open Go.RowKit
theorem box5 {w : World} {g : Nat} {t : TypeId} {f : Nat × Nat} {a b c d e : Value} (h : w.heap[g]? = some (.cells #[a, b, c, d, e] t f)) :
 w.cell? ⟨g, 0, none⟩ = some a ∧ w.cell? ⟨g, 1, none⟩ = some b ∧ w.cell? ⟨g, 2, none⟩ = some c ∧ w.cell? ⟨g, 3, none⟩ = some d ∧ w.cell? ⟨g, 4, none⟩ = some e :=
 ⟨cell_of_row w g 0 _ _ _ h, cell_of_row w g 1 _ _ _ h, cell_of_row w g 2 _ _ _ h, cell_of_row w g 3 _ _ _ h, cell_of_row w g 4 _ _ _ h⟩
theorem box_put5 {w : World} {g : Nat} {t : TypeId} {m : Nat × Nat} {u0 u1 u2 u3 u4 : Value} (h : w.heap[g]? = some (.cells #[u0, u1, u2, u3, u4] t m)) (a b c d e : Value) {W : World}
 (hW : ((((w.setCell ⟨g, 0, none⟩ a).setCell ⟨g, 1, none⟩ b).setCell ⟨g, 2, none⟩ c).setCell ⟨g, 3, none⟩ d).setCell ⟨g, 4, none⟩ e = W) :
 W.heap[g]? = some (.cells #[a, b, c, d, e] t m) ∧ (∀ k, k ≠ g → W.heap[k]? = w.heap[k]?) ∧ ∀ B w0, B ≤ g → Below B w0 w → Below B w0 W := by
 subst hW
 refine ⟨by simpa using blk_set (blk_set (blk_set (blk_set (blk_set h 0 a) 1 b) 2 c) 3 d) 4 e, fun k hk => ?_, fun B w0 hB hw => ((((hw.setCell hB a).setCell hB b).setCell hB c).setCell hB d).setCell hB e⟩
 rw [Below.heap_setCell _ _ _ k hk, Below.heap_setCell _ _ _ k hk, Below.heap_setCell _ _ _ k hk, Below.heap_setCell _ _ _ k hk, Below.heap_setCell _ _ _ k hk]
def OneN (s : ByteArray) (w : World) (e : Ending) (w' : World) : Prop :=
 (∃ (k n : Int) (nm : ByteArray) (A : Option Addr) (m c : Nat) (NA : Option Addr) (nn nc : Nat) (p er : Int), e = .returned (.tuple #[.agg #[.int .i64 k, .int .i64 n, .string nm, .slice A m c, .slice NA nn nc], .int .i64 p, .int .i64 er]) ∧
   Hid (er = 0 → ∃ (t : T) (ns : List ByteArray), sentN s = .ok (t, ns) ∧ TP w' (fun b => w.heap.size ≤ b) t (.agg #[.int .i64 k, .int .i64 n, .string nm, .slice A m c]) ∧ t.good ∧ t.nodes ≤ 1000 ∧ w'.ownsRow w.heap.size 9 1 (.slice NA nn nc) nn (ns.map Value.string) ∧ nn ≤ 1000) ∧
   Hid (er ≠ 0 → sentN s = .error (p, er) ∧ k = 0 ∧ n = 0 ∧ nm = ⟨#[]⟩ ∧ A = none ∧ m = 0 ∧ c = 0 ∧ NA = none ∧ nn = 0 ∧ nc = 0)) ∧ Below w.heap.size w w'
theorem names_out {w w2 W : World} {xs : List Value} {ls : Sens} {x : T × List ByteArray} {lo : Nat} {NA : Option Addr} {nn nc : Nat} (h : Nam1 w2 lo xs ls) (hx : ls = [x]) (h4 : xs[5 * 0 + 4]? = some (.slice NA nn nc)) (hl : w.heap.size ≤ lo) {cs : Array Value} {f : Nat × Nat} (hb : w2.heap[w.heap.size]? = some (.cells cs 34 f)) (hk : ∀ k, k ≠ w.heap.size → W.heap[k]? = w2.heap[k]?) :
 W.ownsRow w.heap.size 9 1 (.slice NA nn nc) nn (x.2.map Value.string) ∧ nn ≤ 1000 := by
 obtain ⟨A, q, c, h1, h2, h3⟩ := h x hx
 have h4 : xs[4]? = some (.slice NA nn nc) := h4
 rw [h4] at h1
 injection h1 with h1
 injection h1 with e1 e2 e3
 subst e1 e2 e3
 refine ⟨own_keep (ownsRow_more h2 hl) fun g hg => hk g ?_, h3⟩
 rintro rfl
 exact own_ne5 h2 hb (by decide) hg.symm
theorem sent_bad {s : ByteArray} {p : Nat} {e : Int} (h : lexN s = .bad p e) : sentN s = .error ((p : Int), e) := by unfold sentN; rw [h]
theorem sent_err {s tx : ByteArray} {l : List Tk} {p e : Int} (h : lexN s = .ok l) (ht : endedN l s = tx) (hr : readN tx = .error (p, e)) : sentN s = .error (min p (s.size : Int), e) := by unfold sentN; rw [h]; dsimp only; rw [ht, hr]
theorem sent_one {s tx : ByteArray} {l : List Tk} {x : T × List ByteArray} (h : lexN s = .ok l) (ht : endedN l s = tx) (hr : readN tx = .ok [x]) : sentN s = .ok x := by unfold sentN; rw [h]; dsimp only; rw [ht, hr]
theorem sent_many {s tx : ByteArray} {l : List Tk} {r : Sens} (h : lexN s = .ok l) (ht : endedN l s = tx) (hr : readN tx = .ok r) (hn : r.length ≠ 1) : sentN s = .error ((s.size : Int), 50) := by
 unfold sentN; rw [h]; dsimp only; rw [ht, hr]
 match r, hn with
 | [], _ => rfl
 | [_], hn => exact absurd rfl hn
 | _ :: _ :: _, _ => rfl
theorem readQ_split {s : ByteArray} {w : World} {v : Value} {p er : Int} {w' : World} (h : ReadQ s w v p er w') : (er ≠ 0 → v = .slice none 0 0 ∧ readN s = .error (p, er)) ∧ (er = 0 → ∃ (n : Nat) (xs : List Value) (l : Sens), readN s = .ok l ∧ n = l.length ∧ w'.ownsRow w.heap.size 34 5 v n xs ∧ S5 w' w.heap.size xs n (sensT l) ∧ n ≤ 1000 ∧ Nam1 w' w.heap.size xs l) := by
 unfold ReadQ at h
 cases hr : readN s with
 | ok l =>
  rw [hr] at h
  obtain ⟨_, rfl, xs, h1, h2, h3, h4⟩ := h
  exact ⟨fun e => absurd rfl e, fun _ => ⟨_, xs, l, rfl, rfl, h1, h2, h3, h4⟩⟩
 | error e =>
  rw [hr] at h
  obtain ⟨rfl, rfl, h3, h4⟩ := h
  exact ⟨fun _ => ⟨h4, rfl⟩, fun e => absurd e h3⟩
set_option maxRecDepth 100000 in
set_option maxHeartbeats 8000000 in
theorem onexn_any (s : ByteArray) (w : World) : Calls Tryz.prog 14 #[.string s] w fun e w' => OneN s w e w' := by
 go_enter Tryz.func14, Tryz.ntmps14
 go_wp2_with fail
 refine (rtokens_any s _).mono ?_
 rintro e w1 ⟨⟨v, p, er, rfl, hok⟩, h1⟩
 have hbx1 := Lib.hid ((h1.block w.heap.size (by simp)).trans (heap_alloc_new w (Obj.cells #[.int .i64 0, .int .i64 0, .string ⟨#[]⟩, .slice none 0 0, .slice none 0 0] 34)))
 have B1 := Lib.hid (((Below.refl w.heap.size w).alloc (Nat.le_refl _) (Obj.cells #[.int .i64 0, .int .i64 0, .string ⟨#[]⟩, .slice none 0 0, .slice none 0 0] 34)).trans (h1.mono (by simp)))
 obtain ⟨x0, x1, x2, x3, x4⟩ := box5 hbx1.out
 have xf : ∀ j, w1.frozen? ⟨w.heap.size, j, none⟩ = false := fun j => by simp [World.frozen?, hbx1.out]
 clear h1
 by_cases he : er = 0
 ·subst he
  obtain ⟨n, l, hlex, rfl, hown, hl, hn, hsz, htk⟩ : ∃ n l, lexN s = .ok l ∧ p = 0 ∧ w1.ownsRow (w.heap.size + 1) 60 4 v n (tkCells l) ∧ l.length = n ∧ n ≤ 1000 ∧ s.size ≤ 4096 ∧ ∀ x ∈ l, x.ok s.size := by
   unfold TokQ at hok
   cases hL : lexN s with
   | ok l => rw [hL] at hok; exact ⟨_, l, rfl, hok.1, by simpa using hok.2.2.1, rfl, hok.2.2.2.1, hok.2.2.2.2.1, hok.2.2.2.2.2⟩
   | bad q e => rw [hL] at hok; exact absurd rfl hok.2.2.2
  have HLX := Lib.hid hlex
  obtain ⟨A, tc, rfl, hc, hA, hcm, hx⟩ := own_open hown
  clear hok hown hlex
  have hsum : s.size + 2 ≤ 5000 := by omega
  rcases Nat.eq_zero_or_pos n with h0 | h0
  ·subst h0
   have HEN := Lib.hid (show endedN l s = s ++ ⟨#[32, 46]⟩ by rw [List.length_eq_zero_iff.1 hl]; rfl)
   go_wp2_with fail
   refine (readx_any _ _).mono ?_
   rintro e w2 ⟨⟨v2, q, er2, rfl, hq⟩, h2⟩
   obtain ⟨hnil, hok2⟩ := readQ_split hq
   have hbx2 := Lib.hid ((h2.block _ (heap_lt hbx1.out)).trans hbx1.out)
   have B2 := Lib.hid (B1.out.trans (h2.mono B1.out.size))
   have hs1 := B1.out.size
   obtain ⟨x0, x1, x2, x3, x4⟩ := box5 hbx2.out
   have xf : ∀ j, w2.frozen? ⟨w.heap.size, j, none⟩ = false := fun j => by simp [World.frozen?, hbx2.out]
   clear h2 hq
   by_cases he2 : er2 = 0
   ·subst he2
    obtain ⟨n2, xs, ls, hread, hnl, hown2, h5, hn2, hnam⟩ := hok2 rfl
    have HRD := Lib.hid hread
    have HNL := Lib.hid hnl
    have hl2 := own_len hown2
    obtain ⟨A2, c2, rfl, hc2, hA2, _, hx2⟩ := own_open hown2
    clear hok2 hnil hown2 hread hnl
    by_cases h12 : n2 = 1
    ·subst h12
     obtain ⟨x, hls⟩ : ∃ x, ls = [x] := List.length_eq_one_iff.1 HNL.out.symm
     have HLS := Lib.hid hls
     have HX0 := Lib.hid (show sensT ls 0 = x.1 by rw [hls]; rfl)
     have HNA := Lib.hid (fun NA nn nc h4 => fun W hk => names_out (w := w) (W := W) (NA := NA) (nn := nn) (nc := nc) hnam hls h4 hs1 hbx2.out hk)
     clear hls hnam
     obtain ⟨g, cur, rfl, _, hh, hcur⟩ := hx2 (by omega)
     obtain ⟨v0, v1, v2, v3, NA, nn, nc, c0, c1, c2', c3, c4, htp, hgd, hnd⟩ := h5 0 (by omega)
     rw [HX0.out] at htp hgd hnd
     have hag := htp.agg
     obtain ⟨k0, k1, k2, A0, m0, cc0, hag⟩ := hag
     injection hag with hag
     simp only [Array.mk.injEq, List.cons.injEq, and_true] at hag
     obtain ⟨rfl, rfl, rfl, rfl⟩ := hag
     have hr := fun (j : Nat) (hj : j < 1 * 5) => (cell_of_row w2 g j _ _ _ hh).trans (hcur j hj)
     have z0 := (hr 0 (by omega)).trans c0
     have z1 := (hr 1 (by omega)).trans c1
     have z2 := (hr 2 (by omega)).trans c2'
     have z3 := (hr 3 (by omega)).trans c3
     have z4 := (hr 4 (by omega)).trans c4
     have HT := Lib.hid htp
     have HN4 := Lib.hid (HNA.out _ _ _ c4)
     clear HNA
     clear hr hcur hx2 hx htp h5 c0 c1 c2' c3 c4
     go_wp2_with fail
     have P := box_put5 hbx2.out (.int .i64 k0) (.int .i64 k1) (.string k2) (.slice A0 m0 cc0) (.slice NA nn nc) rfl
     obtain ⟨p0, p1, p2, p3, p4⟩ := box5 P.1
     refine bodyPost_ret (v := .tuple #[.agg #[.int .i64 k0, .int .i64 k1, .string k2, .slice A0 m0 cc0, .slice NA nn nc], .int .i64 0, .int .i64 0]) (by simp [results, go_sem, p0, p1, p2, p3, p4]) rfl ?_
     refine ⟨⟨_, _, _, _, _, _, _, _, _, _, _, rfl, Lib.hid fun _ => ⟨x.1, x.2, sent_one HLX.out HEN.out (by rw [HRD.out, HLS.out]), (HT.out.more fun b hb => Nat.le_trans hs1 hb).keep fun b cs f hS hb => ⟨(P.2.1 b ?_).trans hb, hS⟩, hgd, hnd, HN4.out _ P.2.1⟩, Lib.hid fun e => absurd rfl e⟩, P.2.2 _ _ (Nat.le_refl _) B2.out⟩
     rintro rfl
     rw [hbx2.out] at hb
     injection hb with hb
     injection hb with _ hb
     exact absurd hb (by decide)
    ·have h12' : ((n2 : Int) != 1) = true := by simp; omega
     clear hx2 h5 hx
     go_wp2_with fail
     obtain ⟨p0, p1, p2, p3, p4⟩ := box5 (box_put5 hbx2.out (.int .i64 0) (.int .i64 0) (.string ⟨#[]⟩) (.slice none 0 0) (.slice none 0 0) rfl).1
     refine bodyPost_ret (v := .tuple #[.agg #[.int .i64 0, .int .i64 0, .string ⟨#[]⟩, .slice none 0 0, .slice none 0 0], .int .i64 _, .int .i64 50]) (by simp [results, go_sem, p0, p1, p2, p3, p4]; first | rfl | done) rfl ?_
     exact ⟨⟨_, _, _, _, _, _, _, _, _, _, 50, rfl, Lib.hid fun e => absurd e (by decide), Lib.hid fun _ => ⟨sent_many HLX.out HEN.out HRD.out (by have := HNL.out; omega), rfl, rfl, rfl, rfl, rfl, rfl, rfl, rfl, rfl⟩⟩, (box_put5 hbx2.out _ _ _ _ _ rfl).2.2 _ _ (Nat.le_refl _) B2.out⟩
   ·have hne2 : (er2 != 0) = true := by simpa using he2
    obtain ⟨rfl, hre⟩ := hnil he2
    have HSE := Lib.hid (sent_err HLX.out HEN.out hre)
    clear hok2 hx hnil hre
    go_wp2_with fail
    all_goals
     obtain ⟨p0, p1, p2, p3, p4⟩ := box5 (box_put5 hbx2.out (.int .i64 0) (.int .i64 0) (.string ⟨#[]⟩) (.slice none 0 0) (.slice none 0 0) rfl).1
     refine bodyPost_ret (v := .tuple #[.agg #[.int .i64 0, .int .i64 0, .string ⟨#[]⟩, .slice none 0 0, .slice none 0 0], .int .i64 _, .int .i64 er2]) (by simp [results, go_sem, p0, p1, p2, p3, p4]; first | rfl | done) rfl ?_
     first
     | exact ⟨⟨_, _, _, _, _, _, _, _, _, q, er2, rfl, Lib.hid fun e => absurd e he2, Lib.hid fun _ => ⟨by rw [HSE.out, show min q (s.size : Int) = q by omega], rfl, rfl, rfl, rfl, rfl, rfl, rfl, rfl, rfl⟩⟩, (box_put5 hbx2.out _ _ _ _ _ rfl).2.2 _ _ (Nat.le_refl _) B2.out⟩
     | exact ⟨⟨_, _, _, _, _, _, _, _, _, (s.size : Int), er2, rfl, Lib.hid fun e => absurd e he2, Lib.hid fun _ => ⟨by rw [HSE.out, show min q (s.size : Int) = (s.size : Int) by omega], rfl, rfl, rfl, rfl, rfl, rfl, rfl, rfl, rfl⟩⟩, (box_put5 hbx2.out _ _ _ _ _ rfl).2.2 _ _ (Nat.le_refl _) B2.out⟩
  ·obtain ⟨m, rfl⟩ : ∃ m, n = m + 1 := ⟨n - 1, by omega⟩
   obtain ⟨g, cur, rfl, _, hh, hcur⟩ := hx h0
   have hlm : m < l.length := by omega
   have hc0 : w1.cell? ⟨g, m * 4, none⟩ = some (.int .i64 (l[m]'hlm).k) := by
    rw [Nat.mul_comm m 4, cell_of_row w1 g (4 * m) _ _ _ hh, hcur (4 * m) (by omega)]
    simpa [Tk.cells] using tkCells_at l m hlm 0 (by omega)
   have HLA := Lib.hid (show l.getLast? = some (l[m]'hlm) by rw [List.getLast?_eq_getElem?, hl]; exact List.getElem?_eq_getElem hlm)
   obtain ⟨kk, hkk⟩ : ∃ kk, kk = (l[m]'hlm).k := ⟨_, rfl⟩
   rw [← hkk] at hc0
   have HKK := Lib.hid hkk
   clear hcur hh hkk
   cases hk6 : (kk != 6) with
   | true =>
    have HEN := Lib.hid (show endedN l s = s ++ ⟨#[32, 46]⟩ by
     unfold endedN
     rw [HLA.out]
     dsimp only
     rw [← HKK.out, if_neg (by simpa using hk6)])
    go_wp2_with fail
    refine (readx_any _ _).mono ?_
    rintro e w2 ⟨⟨v2, q, er2, rfl, hq⟩, h2⟩
    obtain ⟨hnil, hok2⟩ := readQ_split hq
    have hbx2 := Lib.hid ((h2.block _ (heap_lt hbx1.out)).trans hbx1.out)
    have B2 := Lib.hid (B1.out.trans (h2.mono B1.out.size))
    have hs1 := B1.out.size
    obtain ⟨x0, x1, x2, x3, x4⟩ := box5 hbx2.out
    have xf : ∀ j, w2.frozen? ⟨w.heap.size, j, none⟩ = false := fun j => by simp [World.frozen?, hbx2.out]
    clear h2 hq
    by_cases he2 : er2 = 0
    ·subst he2
     obtain ⟨n2, xs, ls, hread, hnl, hown2, h5, hn2, hnam⟩ := hok2 rfl
     have HRD := Lib.hid hread
     have HNL := Lib.hid hnl
     have hl2 := own_len hown2
     obtain ⟨A2, c2, rfl, hc2, hA2, _, hx2⟩ := own_open hown2
     clear hok2 hnil hown2 hread hnl
     by_cases h12 : n2 = 1
     ·subst h12
      obtain ⟨x, hls⟩ : ∃ x, ls = [x] := List.length_eq_one_iff.1 HNL.out.symm
      have HLS := Lib.hid hls
      have HX0 := Lib.hid (show sensT ls 0 = x.1 by rw [hls]; rfl)
      have HNA := Lib.hid (fun NA nn nc h4 => fun W hk => names_out (w := w) (W := W) (NA := NA) (nn := nn) (nc := nc) hnam hls h4 hs1 hbx2.out hk)
      clear hls hnam
      obtain ⟨g, cur, rfl, _, hh, hcur⟩ := hx2 (by omega)
      obtain ⟨v0, v1, v2, v3, NA, nn, nc, c0, c1, c2', c3, c4, htp, hgd, hnd⟩ := h5 0 (by omega)
      rw [HX0.out] at htp hgd hnd
      have hag := htp.agg
      obtain ⟨k0, k1, k2, A0, m0, cc0, hag⟩ := hag
      injection hag with hag
      simp only [Array.mk.injEq, List.cons.injEq, and_true] at hag
      obtain ⟨rfl, rfl, rfl, rfl⟩ := hag
      have hr := fun (j : Nat) (hj : j < 1 * 5) => (cell_of_row w2 g j _ _ _ hh).trans (hcur j hj)
      have z0 := (hr 0 (by omega)).trans c0
      have z1 := (hr 1 (by omega)).trans c1
      have z2 := (hr 2 (by omega)).trans c2'
      have z3 := (hr 3 (by omega)).trans c3
      have z4 := (hr 4 (by omega)).trans c4
      have HT := Lib.hid htp
      have HN4 := Lib.hid (HNA.out _ _ _ c4)
      clear HNA
      clear hr hcur hx2 hx htp h5 c0 c1 c2' c3 c4
      go_wp2_with fail
      have P := box_put5 hbx2.out (.int .i64 k0) (.int .i64 k1) (.string k2) (.slice A0 m0 cc0) (.slice NA nn nc) rfl
      obtain ⟨p0, p1, p2, p3, p4⟩ := box5 P.1
      refine bodyPost_ret (v := .tuple #[.agg #[.int .i64 k0, .int .i64 k1, .string k2, .slice A0 m0 cc0, .slice NA nn nc], .int .i64 0, .int .i64 0]) (by simp [results, go_sem, p0, p1, p2, p3, p4]) rfl ?_
      refine ⟨⟨_, _, _, _, _, _, _, _, _, _, _, rfl, Lib.hid fun _ => ⟨x.1, x.2, sent_one HLX.out HEN.out (by rw [HRD.out, HLS.out]), (HT.out.more fun b hb => Nat.le_trans hs1 hb).keep fun b cs f hS hb => ⟨(P.2.1 b ?_).trans hb, hS⟩, hgd, hnd, HN4.out _ P.2.1⟩, Lib.hid fun e => absurd rfl e⟩, P.2.2 _ _ (Nat.le_refl _) B2.out⟩
      rintro rfl
      rw [hbx2.out] at hb
      injection hb with hb
      injection hb with _ hb
      exact absurd hb (by decide)
     ·have h12' : ((n2 : Int) != 1) = true := by simp; omega
      clear hx2 h5 hx
      go_wp2_with fail
      obtain ⟨p0, p1, p2, p3, p4⟩ := box5 (box_put5 hbx2.out (.int .i64 0) (.int .i64 0) (.string ⟨#[]⟩) (.slice none 0 0) (.slice none 0 0) rfl).1
      refine bodyPost_ret (v := .tuple #[.agg #[.int .i64 0, .int .i64 0, .string ⟨#[]⟩, .slice none 0 0, .slice none 0 0], .int .i64 _, .int .i64 50]) (by simp [results, go_sem, p0, p1, p2, p3, p4]; first | rfl | done) rfl ?_
      exact ⟨⟨_, _, _, _, _, _, _, _, _, _, 50, rfl, Lib.hid fun e => absurd e (by decide), Lib.hid fun _ => ⟨sent_many HLX.out HEN.out HRD.out (by have := HNL.out; omega), rfl, rfl, rfl, rfl, rfl, rfl, rfl, rfl, rfl⟩⟩, (box_put5 hbx2.out _ _ _ _ _ rfl).2.2 _ _ (Nat.le_refl _) B2.out⟩
    ·have hne2 : (er2 != 0) = true := by simpa using he2
     obtain ⟨rfl, hre⟩ := hnil he2
     have HSE := Lib.hid (sent_err HLX.out HEN.out hre)
     clear hok2 hx hnil hre
     go_wp2_with fail
     all_goals
      obtain ⟨p0, p1, p2, p3, p4⟩ := box5 (box_put5 hbx2.out (.int .i64 0) (.int .i64 0) (.string ⟨#[]⟩) (.slice none 0 0) (.slice none 0 0) rfl).1
      refine bodyPost_ret (v := .tuple #[.agg #[.int .i64 0, .int .i64 0, .string ⟨#[]⟩, .slice none 0 0, .slice none 0 0], .int .i64 _, .int .i64 er2]) (by simp [results, go_sem, p0, p1, p2, p3, p4]; first | rfl | done) rfl ?_
      first
      | exact ⟨⟨_, _, _, _, _, _, _, _, _, q, er2, rfl, Lib.hid fun e => absurd e he2, Lib.hid fun _ => ⟨by rw [HSE.out, show min q (s.size : Int) = q by omega], rfl, rfl, rfl, rfl, rfl, rfl, rfl, rfl, rfl⟩⟩, (box_put5 hbx2.out _ _ _ _ _ rfl).2.2 _ _ (Nat.le_refl _) B2.out⟩
      | exact ⟨⟨_, _, _, _, _, _, _, _, _, (s.size : Int), er2, rfl, Lib.hid fun e => absurd e he2, Lib.hid fun _ => ⟨by rw [HSE.out, show min q (s.size : Int) = (s.size : Int) by omega], rfl, rfl, rfl, rfl, rfl, rfl, rfl, rfl, rfl⟩⟩, (box_put5 hbx2.out _ _ _ _ _ rfl).2.2 _ _ (Nat.le_refl _) B2.out⟩
   | false =>
    have HEN := Lib.hid (show endedN l s = s by
     unfold endedN
     rw [HLA.out]
     dsimp only
     rw [← HKK.out, if_pos (by simpa using hk6)])
    go_wp2_with fail
    refine (readx_any _ _).mono ?_
    rintro e w2 ⟨⟨v2, q, er2, rfl, hq⟩, h2⟩
    obtain ⟨hnil, hok2⟩ := readQ_split hq
    have hbx2 := Lib.hid ((h2.block _ (heap_lt hbx1.out)).trans hbx1.out)
    have B2 := Lib.hid (B1.out.trans (h2.mono B1.out.size))
    have hs1 := B1.out.size
    obtain ⟨x0, x1, x2, x3, x4⟩ := box5 hbx2.out
    have xf : ∀ j, w2.frozen? ⟨w.heap.size, j, none⟩ = false := fun j => by simp [World.frozen?, hbx2.out]
    clear h2 hq
    by_cases he2 : er2 = 0
    ·subst he2
     obtain ⟨n2, xs, ls, hread, hnl, hown2, h5, hn2, hnam⟩ := hok2 rfl
     have HRD := Lib.hid hread
     have HNL := Lib.hid hnl
     have hl2 := own_len hown2
     obtain ⟨A2, c2, rfl, hc2, hA2, _, hx2⟩ := own_open hown2
     clear hok2 hnil hown2 hread hnl
     by_cases h12 : n2 = 1
     ·subst h12
      obtain ⟨x, hls⟩ : ∃ x, ls = [x] := List.length_eq_one_iff.1 HNL.out.symm
      have HLS := Lib.hid hls
      have HX0 := Lib.hid (show sensT ls 0 = x.1 by rw [hls]; rfl)
      have HNA := Lib.hid (fun NA nn nc h4 => fun W hk => names_out (w := w) (W := W) (NA := NA) (nn := nn) (nc := nc) hnam hls h4 hs1 hbx2.out hk)
      clear hls hnam
      obtain ⟨g, cur, rfl, _, hh, hcur⟩ := hx2 (by omega)
      obtain ⟨v0, v1, v2, v3, NA, nn, nc, c0, c1, c2', c3, c4, htp, hgd, hnd⟩ := h5 0 (by omega)
      rw [HX0.out] at htp hgd hnd
      have hag := htp.agg
      obtain ⟨k0, k1, k2, A0, m0, cc0, hag⟩ := hag
      injection hag with hag
      simp only [Array.mk.injEq, List.cons.injEq, and_true] at hag
      obtain ⟨rfl, rfl, rfl, rfl⟩ := hag
      have hr := fun (j : Nat) (hj : j < 1 * 5) => (cell_of_row w2 g j _ _ _ hh).trans (hcur j hj)
      have z0 := (hr 0 (by omega)).trans c0
      have z1 := (hr 1 (by omega)).trans c1
      have z2 := (hr 2 (by omega)).trans c2'
      have z3 := (hr 3 (by omega)).trans c3
      have z4 := (hr 4 (by omega)).trans c4
      have HT := Lib.hid htp
      have HN4 := Lib.hid (HNA.out _ _ _ c4)
      clear HNA
      clear hr hcur hx2 hx htp h5 c0 c1 c2' c3 c4
      go_wp2_with fail
      have P := box_put5 hbx2.out (.int .i64 k0) (.int .i64 k1) (.string k2) (.slice A0 m0 cc0) (.slice NA nn nc) rfl
      obtain ⟨p0, p1, p2, p3, p4⟩ := box5 P.1
      refine bodyPost_ret (v := .tuple #[.agg #[.int .i64 k0, .int .i64 k1, .string k2, .slice A0 m0 cc0, .slice NA nn nc], .int .i64 0, .int .i64 0]) (by simp [results, go_sem, p0, p1, p2, p3, p4]) rfl ?_
      refine ⟨⟨_, _, _, _, _, _, _, _, _, _, _, rfl, Lib.hid fun _ => ⟨x.1, x.2, sent_one HLX.out HEN.out (by rw [HRD.out, HLS.out]), (HT.out.more fun b hb => Nat.le_trans hs1 hb).keep fun b cs f hS hb => ⟨(P.2.1 b ?_).trans hb, hS⟩, hgd, hnd, HN4.out _ P.2.1⟩, Lib.hid fun e => absurd rfl e⟩, P.2.2 _ _ (Nat.le_refl _) B2.out⟩
      rintro rfl
      rw [hbx2.out] at hb
      injection hb with hb
      injection hb with _ hb
      exact absurd hb (by decide)
     ·have h12' : ((n2 : Int) != 1) = true := by simp; omega
      clear hx2 h5 hx
      go_wp2_with fail
      obtain ⟨p0, p1, p2, p3, p4⟩ := box5 (box_put5 hbx2.out (.int .i64 0) (.int .i64 0) (.string ⟨#[]⟩) (.slice none 0 0) (.slice none 0 0) rfl).1
      refine bodyPost_ret (v := .tuple #[.agg #[.int .i64 0, .int .i64 0, .string ⟨#[]⟩, .slice none 0 0, .slice none 0 0], .int .i64 _, .int .i64 50]) (by simp [results, go_sem, p0, p1, p2, p3, p4]; first | rfl | done) rfl ?_
      exact ⟨⟨_, _, _, _, _, _, _, _, _, _, 50, rfl, Lib.hid fun e => absurd e (by decide), Lib.hid fun _ => ⟨sent_many HLX.out HEN.out HRD.out (by have := HNL.out; omega), rfl, rfl, rfl, rfl, rfl, rfl, rfl, rfl, rfl⟩⟩, (box_put5 hbx2.out _ _ _ _ _ rfl).2.2 _ _ (Nat.le_refl _) B2.out⟩
    ·have hne2 : (er2 != 0) = true := by simpa using he2
     obtain ⟨rfl, hre⟩ := hnil he2
     have HSE := Lib.hid (sent_err HLX.out HEN.out hre)
     clear hok2 hx hnil hre
     go_wp2_with fail
     all_goals
      obtain ⟨p0, p1, p2, p3, p4⟩ := box5 (box_put5 hbx2.out (.int .i64 0) (.int .i64 0) (.string ⟨#[]⟩) (.slice none 0 0) (.slice none 0 0) rfl).1
      refine bodyPost_ret (v := .tuple #[.agg #[.int .i64 0, .int .i64 0, .string ⟨#[]⟩, .slice none 0 0, .slice none 0 0], .int .i64 _, .int .i64 er2]) (by simp [results, go_sem, p0, p1, p2, p3, p4]; first | rfl | done) rfl ?_
      first
      | exact ⟨⟨_, _, _, _, _, _, _, _, _, q, er2, rfl, Lib.hid fun e => absurd e he2, Lib.hid fun _ => ⟨by rw [HSE.out, show min q (s.size : Int) = q by omega], rfl, rfl, rfl, rfl, rfl, rfl, rfl, rfl, rfl⟩⟩, (box_put5 hbx2.out _ _ _ _ _ rfl).2.2 _ _ (Nat.le_refl _) B2.out⟩
      | exact ⟨⟨_, _, _, _, _, _, _, _, _, (s.size : Int), er2, rfl, Lib.hid fun e => absurd e he2, Lib.hid fun _ => ⟨by rw [HSE.out, show min q (s.size : Int) = (s.size : Int) by omega], rfl, rfl, rfl, rfl, rfl, rfl, rfl, rfl, rfl⟩⟩, (box_put5 hbx2.out _ _ _ _ _ rfl).2.2 _ _ (Nat.le_refl _) B2.out⟩
 ·have hne : (er != 0) = true := by simpa using he
  have HSB := Lib.hid (show sentN s = .error (p, er) by
   unfold TokQ at hok
   cases hL : lexN s with
   | ok l => rw [hL] at hok; exact absurd hok.2.1 he
   | bad q e =>
    rw [hL] at hok
    obtain ⟨_, rfl, rfl, _⟩ := hok
    exact sent_bad hL)
  clear hok
  go_wp2_with fail
  obtain ⟨p0, p1, p2, p3, p4⟩ := box5 (box_put5 hbx1.out (.int .i64 0) (.int .i64 0) (.string ⟨#[]⟩) (.slice none 0 0) (.slice none 0 0) rfl).1
  refine bodyPost_ret (v := .tuple #[.agg #[.int .i64 0, .int .i64 0, .string ⟨#[]⟩, .slice none 0 0, .slice none 0 0], .int .i64 _, .int .i64 er]) (by simp [results, go_sem, p0, p1, p2, p3, p4]; first | rfl | done) rfl ?_
  exact ⟨⟨_, _, _, _, _, _, _, _, _, _, er, rfl, Lib.hid fun e => absurd e he, Lib.hid fun _ => ⟨HSB.out, rfl, rfl, rfl, rfl, rfl, rfl, rfl, rfl, rfl⟩⟩, (box_put5 hbx1.out _ _ _ _ _ rfl).2.2 _ _ (Nat.le_refl _) B1.out⟩
end Go.Proofs.YtlogcealmiokkaaGreatDoor
