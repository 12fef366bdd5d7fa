/- The program's parser: an operand. -/
import Derived.Test.YtlogcealmiokkaaGreatDoorKRqd
namespace Go.Proofs.YtlogcealmiokkaaGreatDoor
open Go.RowKit
theorem fld_tok1 (a b d : Value) (s : ByteArray) (W : World) : (Instr.field 60 (.agg #[a, .string s, b, d]) 1).run Tryz.prog W = .ok (.string s) W := by kernel_rfl
theorem var_lt0 {x : ByteArray} : ∀ (ns : List ByteArray) (i r : Nat), varI x ns i = some r → r < i + ns.length
 | [], _, _, h => by cases h
 | y :: ns, i, r, h => by
  unfold varI at h
  split at h
  ·injection h with h; subst h; simp
  ·have := var_lt0 ns (i + 1) r h
   simp only [List.length_cons]
   omega
theorem var_lt (x : ByteArray) (ns : List ByteArray) : (varN x ns).1 < (varN x ns).2.length := by
 unfold varN
 cases h : varI x ns 0 with
 | none => simp
 | some r => have := var_lt0 ns 0 r h; simpa using this
theorem must_map {α β : Type} {tk : List Tk} {sz : Nat} {m : ByteArray} (F : α → β) (X : PR α) : (X.andThen fun r j n => mustN tk sz m (F r) j n) = (X.andThen fun r j n => mustN tk sz m r j n).andThen fun r j n => .ok (F r, j, n) := by
 cases X with
 | error e => rfl
 | ok y =>
  obtain ⟨r, j, n⟩ := y
  show mustN tk sz m (F r) j n = (mustN tk sz m r j n).andThen _
  unfold mustN
  split <;> rfl
section
variable {tk : List Tk} {sz : Nat} {tm : Int → Nat → List ByteArray → PR T} {most : Int} {i : Nat} {ns : List ByteArray} {x : Tk}
theorem isM_k {m : ByteArray} (h : isM tk sz i m = true) : (nxT tk sz i).k = 5 := by
 unfold isM at h
 simp at h
 exact h.1
theorem isM_not {m : ByteArray} (h : (nxT tk sz i).k ≠ 5) : isM tk sz i m = false := by
 unfold isM
 simp [h]
theorem qop_int (hx : nxT tk sz i = x) (h : x.k = 3) : operandP tk sz tm most i ns = (intP x false (i + 1) ns).andThen fun r j ns1 => .ok ((r, 0), j, ns1) := by
 unfold operandP; dsimp only; rw [hx, if_pos h]
theorem qop_var (hx : nxT tk sz i = x) (h : x.k = 2) : operandP tk sz tm most i ns = .ok ((vrT (varN x.t ns).1, 0), i + 1, (varN x.t ns).2) := by
 unfold operandP; dsimp only; rw [hx, if_neg (by omega), if_pos h]
theorem qop_atom (hx : nxT tk sz i = x) (h : x.k = 1) : operandP tk sz tm most i ns = namedP tk sz tm x most (i + 1) ns := by
 have hn : ∀ m, isM tk sz i m = false := fun m => isM_not (by rw [hx]; omega)
 unfold operandP; dsimp only
 rw [hx, if_neg (by omega), if_neg (by omega), if_neg (by rw [hn]; simp; omega), hn, hn, if_neg (by decide), if_neg (by decide), if_pos h]
theorem qop_open (hx : nxT tk sz i = x) (h : x.k = 4 ∨ isM tk sz i ⟨#[40]⟩ = true) : operandP tk sz tm most i ns = ((tm 1200 (i + 1) ns).andThen fun r j n => mustN tk sz ⟨#[41]⟩ r j n).andThen fun r j n => .ok ((r, 0), j, n) := by
 have h2 : x.k ≠ 3 ∧ x.k ≠ 2 := by
  rcases h with h | h
  ·omega
  ·have := isM_k h; rw [hx] at this; omega
 unfold operandP; dsimp only
 rw [hx, if_neg h2.1, if_neg h2.2, if_pos h]
 exact must_map (fun r => (r, 0)) _
theorem qop_list (hx : nxT tk sz i = x) (h0 : isM tk sz i ⟨#[40]⟩ = false) (h : isM tk sz i ⟨#[91]⟩ = true) : operandP tk sz tm most i ns = (listP tk sz tm (i + 1) ns).andThen fun r j ns1 => .ok ((r, 0), j, ns1) := by
 have := isM_k h; rw [hx] at this
 unfold operandP; dsimp only
 rw [hx, if_neg (by omega), if_neg (by omega), if_neg (by rw [h0]; simp; omega), if_pos h]
theorem qop_cur (hx : nxT tk sz i = x) (h0 : isM tk sz i ⟨#[40]⟩ = false) (h1 : isM tk sz i ⟨#[91]⟩ = false) (h : isM tk sz i ⟨#[123]⟩ = true) (h2 : isM tk sz (i + 1) ⟨#[125]⟩ = true) : operandP tk sz tm most i ns = .ok ((atT curS, 0), i + 2, ns) := by
 have := isM_k h; rw [hx] at this
 unfold operandP; dsimp only
 rw [hx, if_neg (by omega), if_neg (by omega), if_neg (by rw [h0]; simp; omega), if_neg (by rw [h1]; decide), if_pos h, if_pos h2]
theorem qop_cur2 (hx : nxT tk sz i = x) (h0 : isM tk sz i ⟨#[40]⟩ = false) (h1 : isM tk sz i ⟨#[91]⟩ = false) (h : isM tk sz i ⟨#[123]⟩ = true) (h2 : isM tk sz (i + 1) ⟨#[125]⟩ = false) :
 operandP tk sz tm most i ns = ((tm 1200 (i + 1) ns).andThen fun r j n => mustN tk sz ⟨#[125]⟩ r j n).andThen fun r j n => .ok ((oneT curS r, 0), j, n) := by
 have := isM_k h; rw [hx] at this
 unfold operandP; dsimp only
 rw [hx, if_neg (by omega), if_neg (by omega), if_neg (by rw [h0]; simp; omega), if_neg (by rw [h1]; decide), if_pos h, if_neg (by rw [h2]; decide)]
 exact must_map (fun r => (oneT curS r, 0)) _
theorem qop_err (hx : nxT tk sz i = x) (h0 : isM tk sz i ⟨#[40]⟩ = false) (h1 : isM tk sz i ⟨#[91]⟩ = false) (h2 : isM tk sz i ⟨#[123]⟩ = false) (h : x.k ≠ 1 ∧ x.k ≠ 2 ∧ x.k ≠ 3 ∧ x.k ≠ 4) : operandP tk sz tm most i ns = .error ((x.a : Int), 50) := by
 unfold operandP errA; dsimp only
 rw [hx, if_neg h.2.2.1, if_neg h.2.1, if_neg (by rw [h0]; simp; exact h.2.2.2), if_neg (by rw [h1]; decide), if_neg (by rw [h2]; decide), if_neg h.1]
end
set_option maxRecDepth 100000 in
set_option maxHeartbeats 8000000 in
theorem poperand_any {c : Rdc} (D : Nat) {tm : Int → Nat → List ByteArray → PR T} (IH : PTermC c ((D : Int) + 1) tm) (hD : D ≤ 64) (most : Int) (w : World) (i : Nat) (ns : List ByteArray) (h : Pd w c i ns) (hev : Ev c w) :
 Calls Tryz.prog 54 #[.pointer (some ⟨c.R, 0, none⟩), .int .i64 most, .int .i64 (D : Int)] w fun e w' => PQ c w i (operandP c.tk c.s.size tm most i ns) (RelT2 w i) e w' := by
 have hB := h.base
 have HNL := Lib.hid h.names
 have H := Lib.hid h
 have HE := Lib.hid hev
 clear h hev
 obtain ⟨RS, hRS⟩ : ∃ RS, operandP c.tk c.s.size tm most i ns = RS := ⟨_, rfl⟩
 rw [hRS]
 have HRS := Lib.hid hRS
 obtain ⟨x, hx⟩ : ∃ x, nx c i = x := ⟨_, rfl⟩
 have HX := Lib.hid hx
 have HXT := Lib.hid (show nxT c.tk c.s.size i = x from hx)
 have B1 := Lib.hid (belP (Below.refl w.heap.size w) (Obj.cells #[.int .i64 0, .int .i64 0, .string ⟨#[]⟩, .slice none 0 0] 31))
 have H1 := Lib.hid (H.out.below B1.out)
 have X1 := Lib.hid (heap_alloc_new w (Obj.cells #[.int .i64 0, .int .i64 0, .string ⟨#[]⟩, .slice none 0 0] 31))
 have PK := Lib.hid (ppeek_any _ H1.out)
 rw [hx] at PK
 clear hRS hx
 go_enter Tryz.func54, Tryz.ntmps54
 go_wp2_with fail
 refine PK.out.mono ?_
 rintro e w2 ⟨rfl, hb2⟩
 have ha2 := hb2.size
 have hs2 : w.heap.size + 1 ≤ w2.heap.size := by simpa using ha2
 have B2 := Lib.hid ((B1.out.trans (hb2.mono B1.out.size)).alloc (by omega) (Obj.cells #[.int .i64 x.k, .string x.t, .int .i64 (x.a : Int), .int .i64 (x.b : Int)] 60))
 have H2 := Lib.hid ((H1.out.below hb2).alloc (Obj.cells #[.int .i64 x.k, .string x.t, .int .i64 (x.a : Int), .int .i64 (x.b : Int)] 60))
 have F2 := Lib.hid (Frp.of_below B2.out hB)
 have K2 := Lib.hid (heap_alloc_new w2 (Obj.cells #[.int .i64 x.k, .string x.t, .int .i64 (x.a : Int), .int .i64 (x.b : Int)] 60))
 have X2 := Lib.hid ((Below.heap_alloc w2 (Obj.cells #[.int .i64 x.k, .string x.t, .int .i64 (x.a : Int), .int .i64 (x.b : Int)] 60) w.heap.size (by omega)).trans ((hb2.block _ (heap_lt X1.out)).trans X1.out))
 obtain ⟨s0, s1, s2, s3⟩ := box4t K2.out
 clear hb2 ha2 PK
 by_cases k3 : x.k = 3
 ·have b3 : (x.k == 3) = true := by simpa using k3
  have HRB := Lib.hid (HRS.out.symm.trans (qop_int (tm := tm) (most := most) (ns := ns) HXT.out k3))
  have CT := Lib.hid (ptake_any _ H2.out (by rw [HX.out]; rw [k3]; decide))
  have HUP := Lib.hid (nx_ltp H2.out (by rw [HX.out]; rw [k3]; decide))
  rw [HX.out] at CT
  have hfx := nx_fine H2.out (by rw [HX.out, k3]; decide)
  rw [HX.out] at hfx
  have HFX := Lib.hid (And.intro (hfx.1.2 k3).1 hfx.2)
  clear k3 hfx
  go_wp2_with fail
  refine CT.out.mono ?_
  rintro e w3 ⟨rfl, h3, f3⟩
  have H3 := Lib.hid h3
  have F3 := Lib.hid (F2.out.trans f3)
  have X3 := Lib.hid (f3.boxp H2.out X2.out (by decide) (by decide))
  clear h3 f3 CT
  have CI := Lib.hid (show Calls Tryz.prog 72 #[.pointer (some ⟨c.R, 0, none⟩), .agg #[.int .i64 x.k, .string x.t, .int .i64 (x.a : Int), .int .i64 (x.b : Int)], .string ⟨#[]⟩] w3 fun e w' => PQ c w3 (i + 1) (intP x false (i + 1) ns) (fun t _ v _ => ∃ n, t = inT n ∧ I64 n ∧ v = .agg #[.int .i64 2, .int .i64 n, .string ⟨#[]⟩, .slice none 0 0]) e w' from
   pinteger_any x false w3 H3.out (HE.out.fr F3.out) (by omega) HFX.out.2 HFX.out.1)
  go_wp2_with fail
  refine CI.out.mono ?_
  rintro e w4 hq
  cases hres : intP x false (i + 1) ns with
  | error pk =>
   obtain ⟨p, k⟩ := pk
   obtain ⟨f4, rfl⟩ := hq.err hres
   have HR := Lib.hid (show RS = .error (p, k) by rw [HRB.out, hres]; rfl)
   clear hq hres
   go_wp2_with fail
   refine ⟨rfl, ?_⟩
   rw [HR.out]
   exact ⟨F3.out.trans f4, rfl⟩
  | ok yy =>
   obtain ⟨t, j, ns4⟩ := yy
   obtain ⟨f4, v, rfl, h4, hj, n, rfl, hn, rfl⟩ := hq.ok hres
   have HR := Lib.hid (show RS = .ok ((inT n, 0), j, ns4) by rw [HRB.out, hres]; rfl)
   have H4 := Lib.hid h4
   have F4 := Lib.hid (F3.out.trans f4)
   have X4 := Lib.hid (f4.boxp H3.out X3.out (by decide) (by decide))
   have HNN := Lib.hid hn
   clear hq hres h4 f4 hn
   obtain ⟨x0, x1, x2, x3⟩ := box4t X4.out
   have xf : ∀ j, w4.frozen? ⟨w.heap.size, j, none⟩ = false := fun j => by simp [World.frozen?, X4.out]
   go_wp2_with fail
   obtain ⟨p0, p1, p2, p3⟩ := box4t (box_put4 X4.out (.int .i64 2) (.int .i64 n) (.string ⟨#[]⟩) (.slice none 0 0) rfl).1
   refine bodyPost_ret (v := .tuple #[.agg #[.int .i64 2, .int .i64 n, .string ⟨#[]⟩, .slice none 0 0], .int .i64 0]) (by simp [results, go_sem, p0, p1, p2, p3]) rfl ?_
   exact ret_box2 H4.out F4.out hB X4.out (Nat.le_refl _) (TP.leaf _ _ 2 n _) (by omega) ⟨.inr (.inl ⟨rfl, HNN.out, rfl, rfl⟩), fun i hi => absurd hi (by omega)⟩ (by rw [leaf_nodes]; omega) HR.out
 ·have b3 : (x.k == 3) = false := by simpa using k3
  by_cases k2 : x.k = 2
  ·have b2 : (x.k == 2) = true := by simpa using k2
   have HR := Lib.hid (HRS.out.symm.trans (qop_var (tm := tm) (most := most) (ns := ns) HXT.out k2))
   have CT := Lib.hid (ptake_any _ H2.out (by rw [HX.out]; rw [k2]; decide))
   have HUP := Lib.hid (nx_ltp H2.out (by rw [HX.out]; rw [k2]; decide))
   rw [HX.out] at CT
   clear k2 k3
   go_wp2_with fail
   refine CT.out.mono ?_
   rintro e w3 ⟨rfl, h3, f3⟩
   have H3 := Lib.hid h3
   have F3 := Lib.hid (F2.out.trans f3)
   have X3 := Lib.hid (f3.boxp H2.out X2.out (by decide) (by decide))
   clear h3 f3 CT
   have fl := fld_tok1
   have hup3 := H3.out.few
   go_wp2_with fail
   refine (pvariable_any x.t _ H3.out HNL.out (HE.out.fr F3.out).1).mono ?_
   rintro e w4 ⟨rfl, h4, f4⟩
   have H4 := Lib.hid h4
   have F4 := Lib.hid (F3.out.trans f4)
   have X4 := Lib.hid (f4.boxp H3.out X3.out (by decide) (by decide))
   have HVN := Lib.hid (show (varN x.t ns).1 < 1000 by
    have hv := H4.out.names
    have := var_lt x.t ns
    have := HUP.out
    have := HNL.out
    omega)
   obtain ⟨vn, hvn⟩ : ∃ vn, (varN x.t ns).1 = vn := ⟨_, rfl⟩
   rw [hvn] at HVN HR ⊢
   clear h4 f4 hvn
   obtain ⟨x0, x1, x2, x3⟩ := box4t X4.out
   have xf : ∀ j, w4.frozen? ⟨w.heap.size, j, none⟩ = false := fun j => by simp [World.frozen?, X4.out]
   go_wp2_with fail
   obtain ⟨p0, p1, p2, p3⟩ := box4t (box_put4 X4.out (.int .i64 1) (.int .i64 (vn : Int)) (.string ⟨#[]⟩) (.slice none 0 0) rfl).1
   refine bodyPost_ret (v := .tuple #[.agg #[.int .i64 1, .int .i64 (vn : Int), .string ⟨#[]⟩, .slice none 0 0], .int .i64 0]) (by simp [results, go_sem, p0, p1, p2, p3]) rfl ?_
   exact ret_box2 H4.out F4.out hB X4.out (Nat.le_refl _) (TP.leaf _ _ 1 (vn : Int) _) (by omega) (leaf_good _ (by omega) (by have := HVN.out; omega)) (by rw [leaf_nodes]; omega) HR.out
  ·have b2 : (x.k == 2) = false := by simpa using k2
   by_cases k1 : x.k = 1
   ·have b1 : (x.k == 1) = true := by simpa using k1
    have HRB := Lib.hid (HRS.out.symm.trans (qop_atom (tm := tm) (most := most) (ns := ns) HXT.out k1))
    have HNO := Lib.hid (nx_sizep H2.out)
    rw [HX.out] at HNO
    have CT := Lib.hid (ptake_any _ H2.out (by rw [HX.out]; rw [k1]; decide))
    have HUP := Lib.hid (nx_ltp H2.out (by rw [HX.out]; rw [k1]; decide))
    rw [HX.out] at CT
    clear k1 k2 k3
    go_wp2_with fail
    refine CT.out.mono ?_
    rintro e w3 ⟨rfl, h3, f3⟩
    have H3 := Lib.hid h3
    have F3 := Lib.hid (F2.out.trans f3)
    have X3 := Lib.hid (f3.boxp H2.out X2.out (by decide) (by decide))
    clear h3 f3 CT
    go_wp2_with fail
    refine (pnamed_any D IH hD most x HNO.out _ i _ H3.out (HE.out.fr F3.out)).mono ?_
    rintro e w4 hq
    cases hres : namedP c.tk c.s.size tm x most (i + 1) ns with
    | error pk =>
     obtain ⟨p, k⟩ := pk
     obtain ⟨f4, rfl⟩ := hq.err hres
     have HR := Lib.hid (show RS = .error (p, k) by rw [HRB.out, hres])
     clear hq hres
     go_wp2_with fail
     refine ⟨rfl, ?_⟩
     rw [HR.out]
     exact ⟨F3.out.trans f4, rfl⟩
    | ok yy =>
     obtain ⟨⟨t, pr⟩, j, ns4⟩ := yy
     obtain ⟨f4, v, rfl, h4, hj, tv, rfl, ht, hgood, hnod⟩ := hq.ok hres
     obtain ⟨k0, k1, k2, A0, m0, c0, rfl⟩ := ht.agg
     have HR := Lib.hid (show RS = .ok ((t, pr), j, ns4) by rw [HRB.out, hres])
     have H4 := Lib.hid h4
     have F4 := Lib.hid (F3.out.trans f4)
     have X4 := Lib.hid (f4.boxp H3.out X3.out (by decide) (by decide))
     have hs6 := F3.out.size
     have hx6 := heap_lt X3.out
     have TP7 := Lib.hid (ht.more (S' := fun b => w.heap.size ≤ b ∧ b ≠ w.heap.size) fun b hb => ⟨by omega, by omega⟩)
     have HJ := Lib.hid (And.intro hj (And.intro hgood hnod))
     clear hq hres h4 f4 ht hj hgood hnod hs6 hx6
     obtain ⟨x0, x1, x2, x3⟩ := box4t X4.out
     have xf : ∀ j, w4.frozen? ⟨w.heap.size, j, none⟩ = false := fun j => by simp [World.frozen?, X4.out]
     go_wp2_with fail
     obtain ⟨p0, p1, p2, p3⟩ := box4t (box_put4 X4.out (.int .i64 k0) (.int .i64 k1) (.string k2) (.slice A0 m0 c0) rfl).1
     refine bodyPost_ret (v := .tuple #[.agg #[.int .i64 k0, .int .i64 k1, .string k2, .slice A0 m0 c0], .int .i64 pr]) (by simp [results, go_sem, p0, p1, p2, p3]) rfl ?_
     exact ret_box2 H4.out F4.out hB X4.out (Nat.le_refl _) TP7.out (by have := HJ.out.1; omega) HJ.out.2.1 HJ.out.2.2 HR.out
   ·have b1 : (x.k == 1) = false := by simpa using k1
    by_cases k4 : x.k = 4
    ·have b4 : (x.k == 4) = true := by simpa using k4
     have HRB := Lib.hid (HRS.out.symm.trans (qop_open (tm := tm) (most := most) (ns := ns) HXT.out (.inl k4)))
     have CT := Lib.hid (ptake_any _ H2.out (by rw [HX.out]; rw [k4]; decide))
     have HUP := Lib.hid (nx_ltp H2.out (by rw [HX.out]; rw [k4]; decide))
     rw [HX.out] at CT
     clear k1 k2 k3 k4
     go_wp2_with fail
     refine CT.out.mono ?_
     rintro e w3 ⟨rfl, h3, f3⟩
     have H3 := Lib.hid h3
     have F3 := Lib.hid (F2.out.trans f3)
     have X3 := Lib.hid (f3.boxp H2.out X2.out (by decide) (by decide))
     clear h3 f3 CT
     go_wp2_with fail
     refine (pinside_any D IH hD ⟨#[41]⟩ _ _ _ H3.out (HE.out.fr F3.out)).mono ?_
     rintro e w7 hq
     cases hres : (tm 1200 (i + 1) ns).andThen fun r j n => mustN c.tk c.s.size ⟨#[41]⟩ r j n with
     | error pk =>
      obtain ⟨p, k⟩ := pk
      obtain ⟨f7, rfl⟩ := hq.err hres
      have HR := Lib.hid (show RS = .error (p, k) by rw [HRB.out, hres]; rfl)
      clear hq hres
      go_wp2_with fail
      refine ⟨rfl, ?_⟩
      rw [HR.out]
      exact ⟨F3.out.trans f7, rfl⟩
     | ok yy =>
      obtain ⟨t, j, ns7⟩ := yy
      obtain ⟨f7, v, rfl, h7, hj7, ht, hgood, hnod⟩ := hq.ok hres
      obtain ⟨k0, k1, k2, A0, m0, c0, rfl⟩ := ht.agg
      have HR := Lib.hid (show RS = .ok ((t, 0), j, ns7) by rw [HRB.out, hres]; rfl)
      have H7 := Lib.hid h7
      have F7 := Lib.hid (F3.out.trans f7)
      have X7 := Lib.hid (f7.boxp H3.out X3.out (by decide) (by decide))
      have hs6 := F3.out.size
      have hx6 := heap_lt X3.out
      have TP7 := Lib.hid (ht.more (S' := fun b => w.heap.size ≤ b ∧ b ≠ w.heap.size) fun b hb => ⟨by omega, by omega⟩)
      have HJ := Lib.hid (And.intro hj7 (And.intro hgood hnod))
      clear hq hres h7 f7 ht hj7 hgood hnod hs6 hx6
      obtain ⟨x0, x1, x2, x3⟩ := box4t X7.out
      have xf : ∀ j, w7.frozen? ⟨w.heap.size, j, none⟩ = false := fun j => by simp [World.frozen?, X7.out]
      go_wp2_with fail
      obtain ⟨p0, p1, p2, p3⟩ := box4t (box_put4 X7.out (.int .i64 k0) (.int .i64 k1) (.string k2) (.slice A0 m0 c0) rfl).1
      refine bodyPost_ret (v := .tuple #[.agg #[.int .i64 k0, .int .i64 k1, .string k2, .slice A0 m0 c0], .int .i64 0]) (by simp [results, go_sem, p0, p1, p2, p3]) rfl ?_
      exact ret_box2 H7.out F7.out hB X7.out (Nat.le_refl _) TP7.out (by have := HJ.out.1; omega) HJ.out.2.1 (by have := HJ.out.2.2; omega) HR.out
    ·have b4 : (x.k == 4) = false := by simpa using k4
     have HK := Lib.hid (And.intro k1 (And.intro k2 (And.intro k3 k4)))
     clear k1 k2 k3 k4
     go_wp2_with fail
     refine (pmark_any _ _ H2.out).mono ?_
     rintro e w3 ⟨b, rfl, hM, h3, f3, hlt⟩
     have HM := Lib.hid hM
     cases b with
     | true =>
      have HRB := Lib.hid (HRS.out.symm.trans (qop_open (tm := tm) (most := most) (ns := ns) HXT.out (.inr HM.out)))
      replace h3 : Pd w3 c (i + 1) ns := h3
      have H3 := Lib.hid h3
      have F3 := Lib.hid (F2.out.trans f3)
      have X3 := Lib.hid (f3.boxp H2.out X2.out (by decide) (by decide))
      clear h3 f3 hlt hM
      go_wp2_with fail
      refine (pinside_any D IH hD ⟨#[41]⟩ _ _ _ H3.out (HE.out.fr F3.out)).mono ?_
      rintro e w7 hq
      cases hres : (tm 1200 (i + 1) ns).andThen fun r j n => mustN c.tk c.s.size ⟨#[41]⟩ r j n with
      | error pk =>
       obtain ⟨p, k⟩ := pk
       obtain ⟨f7, rfl⟩ := hq.err hres
       have HR := Lib.hid (show RS = .error (p, k) by rw [HRB.out, hres]; rfl)
       clear hq hres
       go_wp2_with fail
       refine ⟨rfl, ?_⟩
       rw [HR.out]
       exact ⟨F3.out.trans f7, rfl⟩
      | ok yy =>
       obtain ⟨t, j, ns7⟩ := yy
       obtain ⟨f7, v, rfl, h7, hj7, ht, hgood, hnod⟩ := hq.ok hres
       obtain ⟨k0, k1, k2, A0, m0, c0, rfl⟩ := ht.agg
       have HR := Lib.hid (show RS = .ok ((t, 0), j, ns7) by rw [HRB.out, hres]; rfl)
       have H7 := Lib.hid h7
       have F7 := Lib.hid (F3.out.trans f7)
       have X7 := Lib.hid (f7.boxp H3.out X3.out (by decide) (by decide))
       have hs6 := F3.out.size
       have hx6 := heap_lt X3.out
       have TP7 := Lib.hid (ht.more (S' := fun b => w.heap.size ≤ b ∧ b ≠ w.heap.size) fun b hb => ⟨by omega, by omega⟩)
       have HJ := Lib.hid (And.intro hj7 (And.intro hgood hnod))
       clear hq hres h7 f7 ht hj7 hgood hnod hs6 hx6
       obtain ⟨x0, x1, x2, x3⟩ := box4t X7.out
       have xf : ∀ j, w7.frozen? ⟨w.heap.size, j, none⟩ = false := fun j => by simp [World.frozen?, X7.out]
       go_wp2_with fail
       obtain ⟨p0, p1, p2, p3⟩ := box4t (box_put4 X7.out (.int .i64 k0) (.int .i64 k1) (.string k2) (.slice A0 m0 c0) rfl).1
       refine bodyPost_ret (v := .tuple #[.agg #[.int .i64 k0, .int .i64 k1, .string k2, .slice A0 m0 c0], .int .i64 0]) (by simp [results, go_sem, p0, p1, p2, p3]) rfl ?_
       exact ret_box2 H7.out F7.out hB X7.out (Nat.le_refl _) TP7.out (by have := HJ.out.1; omega) HJ.out.2.1 (by have := HJ.out.2.2; omega) HR.out
     | false =>
      replace h3 : Pd w3 c i ns := h3
      have H3 := Lib.hid h3
      have F3 := Lib.hid (F2.out.trans f3)
      have X3 := Lib.hid (f3.boxp H2.out X2.out (by decide) (by decide))
      have K3 := Lib.hid (f3.keep _ _ _ _ K2.out (by have h9 := H.out.lt; omega) (fun h => absurd h (by decide)))
      clear h3 f3 hlt hM s0 s1 s2 s3
      go_wp2_with fail
      refine (pmark_any _ _ H3.out).mono ?_
      rintro e w4 ⟨b, rfl, hM, h4, f4, hlt⟩
      have HM2 := Lib.hid hM
      cases b with
      | true =>
       have HRB := Lib.hid (HRS.out.symm.trans (qop_list (tm := tm) (most := most) (ns := ns) HXT.out HM.out HM2.out))
       replace h4 : Pd w4 c (i + 1) ns := h4
       have H4 := Lib.hid h4
       have F4 := Lib.hid (F3.out.trans f4)
       have X4 := Lib.hid (f4.boxp H3.out X3.out (by decide) (by decide))
       clear h4 f4 hlt hM
       go_wp2_with fail
       refine (plist_any D IH hD _ i _ H4.out (HE.out.fr F4.out)).mono ?_
       rintro e w7 hq
       cases hres : listP c.tk c.s.size tm (i + 1) ns with
       | error pk =>
        obtain ⟨p, k⟩ := pk
        obtain ⟨f7, rfl⟩ := hq.err hres
        have HR := Lib.hid (show RS = .error (p, k) by rw [HRB.out, hres]; rfl)
        clear hq hres
        go_wp2_with fail
        refine ⟨rfl, ?_⟩
        rw [HR.out]
        exact ⟨F4.out.trans f7, rfl⟩
       | ok yy =>
        obtain ⟨t, j, ns7⟩ := yy
        obtain ⟨f7, v, rfl, h7, hj7, ht, hgood, hnod⟩ := hq.ok hres
        obtain ⟨k0, k1, k2, A0, m0, c0, rfl⟩ := ht.agg
        have HR := Lib.hid (show RS = .ok ((t, 0), j, ns7) by rw [HRB.out, hres]; rfl)
        have H7 := Lib.hid h7
        have F7 := Lib.hid (F4.out.trans f7)
        have X7 := Lib.hid (f7.boxp H4.out X4.out (by decide) (by decide))
        have hs6 := F4.out.size
        have hx6 := heap_lt X4.out
        have TP7 := Lib.hid (ht.more (S' := fun b => w.heap.size ≤ b ∧ b ≠ w.heap.size) fun b hb => ⟨by omega, by omega⟩)
        have HJ := Lib.hid (And.intro hj7 (And.intro hgood hnod))
        clear hq hres h7 f7 ht hj7 hgood hnod hs6 hx6
        obtain ⟨x0, x1, x2, x3⟩ := box4t X7.out
        have xf : ∀ j, w7.frozen? ⟨w.heap.size, j, none⟩ = false := fun j => by simp [World.frozen?, X7.out]
        go_wp2_with fail
        obtain ⟨p0, p1, p2, p3⟩ := box4t (box_put4 X7.out (.int .i64 k0) (.int .i64 k1) (.string k2) (.slice A0 m0 c0) rfl).1
        refine bodyPost_ret (v := .tuple #[.agg #[.int .i64 k0, .int .i64 k1, .string k2, .slice A0 m0 c0], .int .i64 0]) (by simp [results, go_sem, p0, p1, p2, p3]) rfl ?_
        exact ret_box2 H7.out F7.out hB X7.out (Nat.le_refl _) TP7.out (by have := HJ.out.1; omega) HJ.out.2.1 (by have := HJ.out.2.2; omega) HR.out
      | false =>
       replace h4 : Pd w4 c i ns := h4
       have H4 := Lib.hid h4
       have F4 := Lib.hid (F3.out.trans f4)
       have X4 := Lib.hid (f4.boxp H3.out X3.out (by decide) (by decide))
       have K4 := Lib.hid (f4.keep _ _ _ _ K3.out (by have h9 := H.out.lt; omega) (fun h => absurd h (by decide)))
       clear h4 f4 hlt hM
       go_wp2_with fail
       refine (pmark_any _ _ H4.out).mono ?_
       rintro e w5 ⟨b, rfl, hM, h5, f5, hlt⟩
       have HM3 := Lib.hid hM
       cases b with
       | true =>
        replace h5 : Pd w5 c (i + 1) ns := h5
        have H5 := Lib.hid h5
        have F5 := Lib.hid (F4.out.trans f5)
        have X5 := Lib.hid (f5.boxp H4.out X4.out (by decide) (by decide))
        clear h5 f5 hlt hM
        go_wp2_with fail
        refine (pmark_any _ _ H5.out).mono ?_
        rintro e w6 ⟨b, rfl, hM, h6, f6, hlt⟩
        have HM4 := Lib.hid hM
        cases b with
        | true =>
         have HR := Lib.hid (HRS.out.symm.trans (qop_cur (tm := tm) (most := most) (ns := ns) HXT.out HM.out HM2.out HM3.out HM4.out))
         replace h6 : Pd w6 c (i + 1 + 1) ns := h6
         have H6 := Lib.hid h6
         have F6 := Lib.hid (F5.out.trans f6)
         have X6 := Lib.hid (f6.boxp H5.out X5.out (by decide) (by decide))
         clear h6 f6 hlt hM
         go_wp2_with fail
         refine (pconst_any _ _).mono ?_
         rintro e w7 ⟨rfl, hb7⟩
         have H7 := Lib.hid (H6.out.below hb7)
         have F7 := Lib.hid (F6.out.trans (Frp.of_below hb7 H6.out.base))
         have X7 := Lib.hid ((hb7.block _ (heap_lt X6.out)).trans X6.out)
         clear hb7
         obtain ⟨x0, x1, x2, x3⟩ := box4t X7.out
         have xf : ∀ j, w7.frozen? ⟨w.heap.size, j, none⟩ = false := fun j => by simp [World.frozen?, X7.out]
         go_wp2_with fail
         obtain ⟨p0, p1, p2, p3⟩ := box4t (box_put4 X7.out (.int .i64 3) (.int .i64 0) (.string ⟨#[123, 125]⟩) (.slice none 0 0) rfl).1
         refine bodyPost_ret (v := .tuple #[.agg #[.int .i64 3, .int .i64 0, .string ⟨#[123, 125]⟩, .slice none 0 0], .int .i64 0]) (by simp [results, go_sem, p0, p1, p2, p3]) rfl ?_
         exact ret_box2 H7.out F7.out hB X7.out (Nat.le_refl _) (TP.leaf _ _ 3 0 _) (by omega) (atom_good _ (by decide)) (by rw [leaf_nodes]; omega) HR.out
        | false =>
         have HRB := Lib.hid (HRS.out.symm.trans (qop_cur2 (tm := tm) (most := most) (ns := ns) HXT.out HM.out HM2.out HM3.out HM4.out))
         replace h6 : Pd w6 c (i + 1) ns := h6
         have H6 := Lib.hid h6
         have F6 := Lib.hid (F5.out.trans f6)
         have X6 := Lib.hid (f6.boxp H5.out X5.out (by decide) (by decide))
         clear h6 f6 hlt hM
         go_wp2_with fail
         refine (pinside_any D IH hD ⟨#[125]⟩ _ _ _ H6.out (HE.out.fr F6.out)).mono ?_
         rintro e w7 hq
         cases hres : (tm 1200 (i + 1) ns).andThen fun r j n => mustN c.tk c.s.size ⟨#[125]⟩ r j n with
         | error pk =>
          obtain ⟨p, k⟩ := pk
          obtain ⟨f7, rfl⟩ := hq.err hres
          have HR := Lib.hid (show RS = .error (p, k) by rw [HRB.out, hres]; rfl)
          clear hq hres
          go_wp2_with fail
          refine ⟨rfl, ?_⟩
          rw [HR.out]
          exact ⟨F6.out.trans f7, rfl⟩
         | ok yy =>
          obtain ⟨t, j, ns7⟩ := yy
          obtain ⟨f7, v, rfl, h7, hj7, ht, hgood, hnod⟩ := hq.ok hres
          obtain ⟨k0, k1, k2, A0, m0, c0, rfl⟩ := ht.agg
          have HR := Lib.hid (show RS = .ok ((oneT curS t, 0), j, ns7) by rw [HRB.out, hres]; rfl)
          have H7 := Lib.hid h7
          have F7 := Lib.hid (F6.out.trans f7)
          have X7 := Lib.hid (f7.boxp H6.out X6.out (by decide) (by decide))
          have hs6 := F6.out.size
          have hs7 := f7.size
          have hx6 := heap_lt X6.out
          have hb8 := Lib.hid ((Below.refl w7.heap.size w7).alloc (Nat.le_refl _) (Obj.cells #[.int .i64 k0, .int .i64 k1, .string k2, .slice A0 m0 c0] 31))
          have TP8 := Lib.hid (show TP (w7.alloc (Obj.cells #[.int .i64 k0, .int .i64 k1, .string k2, .slice A0 m0 c0] 31)) (fun b => w.heap.size ≤ b ∧ b ≠ w.heap.size) (oneT curS t) (.agg #[.int .i64 4, .int .i64 0, .string ⟨#[123, 125]⟩, .slice (some ⟨w7.heap.size, 0, none⟩) 1 1]) from
           ⟨_, _, rfl, Nat.le_refl _, (fun h => by cases h), fun _ => ⟨w7.heap.size, _, _, rfl, ⟨by omega, by omega⟩, heap_alloc_new w7 _, fun k hk => by
            obtain rfl : k = 0 := by omega
            exact ⟨_, _, _, _, rfl, rfl, rfl, rfl, (ht.below hb8.out).more fun b hb => ⟨by omega, by omega⟩⟩⟩⟩)
          have HG := Lib.hid (show (oneT curS t).good from ⟨.inr (.inr (.inr ⟨rfl, rfl, by decide, by omega⟩)), fun i _ => hgood⟩)
          have HN := Lib.hid (show i + (oneT curS t).nodes ≤ j by
           have : (oneT curS t).nodes = 1 + t.nodes := by simp [oneT, T.nodes, sumTo]
           rw [this]; omega)
          have HJ := Lib.hid hj7
          clear hq hres h7 f7 ht hj7 hgood hnod hs6 hx6
          go_wp2_with fail
          refine (pcell_any ⟨#[123, 125]⟩ _ 1 1 _).mono ?_
          rintro e w8 ⟨rfl, hb9⟩
          have H8 := Lib.hid ((H7.out.below hb8.out).below hb9)
          have F8 := Lib.hid ((F7.out.trans (Frp.of_below hb8.out H7.out.base)).trans (Frp.of_below hb9 (H7.out.below hb8.out).base))
          have X8 := Lib.hid ((hb9.block _ (by have := heap_lt X7.out; simp; omega)).trans ((hb8.out.block _ (heap_lt X7.out)).trans X7.out))
          have TP9 := Lib.hid (TP8.out.below hb9)
          clear hb9
          obtain ⟨x0, x1, x2, x3⟩ := box4t X8.out
          have xf : ∀ j, w8.frozen? ⟨w.heap.size, j, none⟩ = false := fun j => by simp [World.frozen?, X8.out]
          go_wp2_with fail
          obtain ⟨p0, p1, p2, p3⟩ := box4t (box_put4 X8.out (.int .i64 4) (.int .i64 0) (.string ⟨#[123, 125]⟩) (.slice (some ⟨w7.heap.size, 0, none⟩) 1 1) rfl).1
          refine bodyPost_ret (v := .tuple #[.agg #[.int .i64 4, .int .i64 0, .string ⟨#[123, 125]⟩, .slice (some ⟨w7.heap.size, 0, none⟩) 1 1], .int .i64 0]) (by simp [results, go_sem, p0, p1, p2, p3]) rfl ?_
          exact ret_box2 H8.out F8.out hB X8.out (Nat.le_refl _) TP9.out (by have := HJ.out; omega) HG.out HN.out HR.out
       | false =>
        replace h5 : Pd w5 c i ns := h5
        have F5 := Lib.hid (F4.out.trans f5)
        have K5 := Lib.hid (f5.keep _ _ _ _ K4.out (by have h9 := H.out.lt; omega) (fun h => absurd h (by decide)))
        have HR := Lib.hid (HRS.out.symm.trans (qop_err (tm := tm) (most := most) (ns := ns) HXT.out HM.out HM2.out HM3.out ⟨HK.out.1, HK.out.2.1, HK.out.2.2.1, HK.out.2.2.2⟩))
        obtain ⟨s0, s1, s2, s3⟩ := box4t K5.out
        clear h5 f5 hlt hM
        go_wp2_with fail
        refine ⟨rfl, ?_⟩
        rw [HR.out]
        exact ⟨F5.out, rfl⟩
end Go.Proofs.YtlogcealmiokkaaGreatDoor
