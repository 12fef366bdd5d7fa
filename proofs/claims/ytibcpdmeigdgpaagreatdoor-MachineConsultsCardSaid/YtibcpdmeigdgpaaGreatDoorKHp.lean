/- The program's parser: an operand. The program's parser: the closure of 'term' that reads an operand. The program's parser: a term: the stack of pending operators. -/
import Derived.Test.YtibcpdmeigdgpaaGreatDoorKRqd
import Derived.Test.YtibcpdmeigdgpaaGreatDoorKRd12
import Derived.Test.YtibcpdmeigdgpaaGreatDoorKHh
import Derived.Lib.OwnKind
namespace Go.Proofs.YtibcpdmeigdgpaaGreatDoor
open Go.RowKit
theorem fld_tok1 (a b d : Value) (s : ByteArray) (W : World) : (Instr.field 83 (.agg #[a, .string s, b, d]) 1).run Tryz.prog W = .ok (.string s) W := by kernel_rfl
theorem var_lt0 {x : ByteArray} : ∀ (ns : List ByteArray) (i r : Nat), varI x ns i = some r → r < i + ns.length
 | [], _, _, h => by cases h
 | y :: ns, i, r, h => by
  unfold varI at h
  split at h
  ·injection h with h; subst h; simp
  ·have := var_lt0 ns (i + 1) r h
   simp only [List.length_cons]
   omega
theorem var_lt (x : ByteArray) (ns : List ByteArray) : (varN x ns).1 < (varN x ns).2.length := by
 unfold varN
 cases h : varI x ns 0 with
 | none => simp
 | some r => have := var_lt0 ns 0 r h; simpa using this
theorem must_map {α β : Type} {tk : List Tk} {sz : Nat} {m : ByteArray} (F : α → β) (X : PR α) : (X.andThen fun r j n => mustN tk sz m (F r) j n) = (X.andThen fun r j n => mustN tk sz m r j n).andThen fun r j n => .ok (F r, j, n) := by
 cases X with
 | error e => rfl
 | ok y =>
  obtain ⟨r, j, n⟩ := y
  show mustN tk sz m (F r) j n = (mustN tk sz m r j n).andThen _
  unfold mustN
  split <;> rfl
section
variable {tk : List Tk} {sz : Nat} {tm : Int → Nat → List ByteArray → PR T} {most : Int} {i : Nat} {ns : List ByteArray} {x : Tk}
theorem isM_k {m : ByteArray} (h : isM tk sz i m = true) : (nxT tk sz i).k = 5 := by
 unfold isM at h
 simp at h
 exact h.1
theorem isM_not {m : ByteArray} (h : (nxT tk sz i).k ≠ 5) : isM tk sz i m = false := by
 unfold isM
 simp [h]
theorem qop_int (hx : nxT tk sz i = x) (h : x.k = 3) : operandP tk sz tm most i ns = (intP x false (i + 1) ns).andThen fun r j ns1 => .ok ((r, 0), j, ns1) := by
 unfold operandP; dsimp only; rw [hx, if_pos h]
theorem qop_var (hx : nxT tk sz i = x) (h : x.k = 2) : operandP tk sz tm most i ns = .ok ((vrT (varN x.t ns).1, 0), i + 1, (varN x.t ns).2) := by
 unfold operandP; dsimp only; rw [hx, if_neg (by omega), if_pos h]
theorem qop_atom (hx : nxT tk sz i = x) (h : x.k = 1) : operandP tk sz tm most i ns = namedP tk sz tm x most (i + 1) ns := by
 have hn : ∀ m, isM tk sz i m = false := fun m => isM_not (by rw [hx]; omega)
 unfold operandP; dsimp only
 rw [hx, if_neg (by omega), if_neg (by omega), if_neg (by rw [hn]; simp; omega), hn, hn, if_neg (by decide), if_neg (by decide), if_pos h]
theorem qop_open (hx : nxT tk sz i = x) (h : x.k = 4 ∨ isM tk sz i ⟨#[40]⟩ = true) : operandP tk sz tm most i ns = ((tm 1200 (i + 1) ns).andThen fun r j n => mustN tk sz ⟨#[41]⟩ r j n).andThen fun r j n => .ok ((r, 0), j, n) := by
 have h2 : x.k ≠ 3 ∧ x.k ≠ 2 := by
  rcases h with h | h
  ·omega
  ·have := isM_k h; rw [hx] at this; omega
 unfold operandP; dsimp only
 rw [hx, if_neg h2.1, if_neg h2.2, if_pos h]
 exact must_map (fun r => (r, 0)) _
theorem qop_list (hx : nxT tk sz i = x) (h0 : isM tk sz i ⟨#[40]⟩ = false) (h : isM tk sz i ⟨#[91]⟩ = true) : operandP tk sz tm most i ns = (listP tk sz tm (i + 1) ns).andThen fun r j ns1 => .ok ((r, 0), j, ns1) := by
 have := isM_k h; rw [hx] at this
 unfold operandP; dsimp only
 rw [hx, if_neg (by omega), if_neg (by omega), if_neg (by rw [h0]; simp; omega), if_pos h]
theorem qop_cur (hx : nxT tk sz i = x) (h0 : isM tk sz i ⟨#[40]⟩ = false) (h1 : isM tk sz i ⟨#[91]⟩ = false) (h : isM tk sz i ⟨#[123]⟩ = true) (h2 : isM tk sz (i + 1) ⟨#[125]⟩ = true) : operandP tk sz tm most i ns = .ok ((atT curS, 0), i + 2, ns) := by
 have := isM_k h; rw [hx] at this
 unfold operandP; dsimp only
 rw [hx, if_neg (by omega), if_neg (by omega), if_neg (by rw [h0]; simp; omega), if_neg (by rw [h1]; decide), if_pos h, if_pos h2]
theorem qop_cur2 (hx : nxT tk sz i = x) (h0 : isM tk sz i ⟨#[40]⟩ = false) (h1 : isM tk sz i ⟨#[91]⟩ = false) (h : isM tk sz i ⟨#[123]⟩ = true) (h2 : isM tk sz (i + 1) ⟨#[125]⟩ = false) :
 operandP tk sz tm most i ns = ((tm 1200 (i + 1) ns).andThen fun r j n => mustN tk sz ⟨#[125]⟩ r j n).andThen fun r j n => .ok ((oneT curS r, 0), j, n) := by
 have := isM_k h; rw [hx] at this
 unfold operandP; dsimp only
 rw [hx, if_neg (by omega), if_neg (by omega), if_neg (by rw [h0]; simp; omega), if_neg (by rw [h1]; decide), if_pos h, if_neg (by rw [h2]; decide)]
 exact must_map (fun r => (oneT curS r, 0)) _
theorem qop_err (hx : nxT tk sz i = x) (h0 : isM tk sz i ⟨#[40]⟩ = false) (h1 : isM tk sz i ⟨#[91]⟩ = false) (h2 : isM tk sz i ⟨#[123]⟩ = false) (h : x.k ≠ 1 ∧ x.k ≠ 2 ∧ x.k ≠ 3 ∧ x.k ≠ 4) : operandP tk sz tm most i ns = .error ((x.a : Int), 50) := by
 unfold operandP errA; dsimp only
 rw [hx, if_neg h.2.2.1, if_neg h.2.1, if_neg (by rw [h0]; simp; exact h.2.2.2), if_neg (by rw [h1]; decide), if_neg (by rw [h2]; decide), if_neg h.1]
end
set_option maxRecDepth 100000 in
set_option maxHeartbeats 8000000 in
theorem poperand_any {c : Rdc} (D : Nat) {tm : Int → Nat → List ByteArray → PR T} (IH : PTermC c ((D : Int) + 1) tm) (hD : D ≤ 64) (most : Int) (w : World) (i : Nat) (ns : List ByteArray) (h : Pd w c i ns) (hev : Ev c w) :
 Calls Tryz.prog 63 #[.pointer (some ⟨c.R, 0, none⟩), .int .i64 most, .int .i64 (D : Int)] w fun e w' => PQ c w i (operandP c.tk c.s.size tm most i ns) (RelT2 w i) e w' := by
 have hB := h.base
 have HNL := Lib.hid h.names
 have H := Lib.hid h
 have HE := Lib.hid hev
 clear h hev
 obtain ⟨RS, hRS⟩ : ∃ RS, operandP c.tk c.s.size tm most i ns = RS := ⟨_, rfl⟩
 rw [hRS]
 have HRS := Lib.hid hRS
 obtain ⟨x, hx⟩ : ∃ x, nx c i = x := ⟨_, rfl⟩
 have HX := Lib.hid hx
 have HXT := Lib.hid (show nxT c.tk c.s.size i = x from hx)
 have B1 := Lib.hid (belP (Below.refl w.heap.size w) (Obj.cells #[.int .i64 0, .int .i64 0, .string ⟨#[]⟩, .slice none 0 0] 39))
 have H1 := Lib.hid (H.out.below B1.out)
 have X1 := Lib.hid (heap_alloc_new w (Obj.cells #[.int .i64 0, .int .i64 0, .string ⟨#[]⟩, .slice none 0 0] 39))
 have PK := Lib.hid (ppeek_any _ H1.out)
 rw [hx] at PK
 clear hRS hx
 go_enter Tryz.func63, Tryz.ntmps63
 go_wp2_with fail
 refine PK.out.mono ?_
 rintro e w2 ⟨rfl, hb2⟩
 have ha2 := hb2.size
 have hs2 : w.heap.size + 1 ≤ w2.heap.size := by simpa using ha2
 have B2 := Lib.hid ((B1.out.trans (hb2.mono B1.out.size)).alloc (by omega) (Obj.cells #[.int .i64 x.k, .string x.t, .int .i64 (x.a : Int), .int .i64 (x.b : Int)] 83))
 have H2 := Lib.hid ((H1.out.below hb2).alloc (Obj.cells #[.int .i64 x.k, .string x.t, .int .i64 (x.a : Int), .int .i64 (x.b : Int)] 83))
 have F2 := Lib.hid (Frp.of_below B2.out hB)
 have K2 := Lib.hid (heap_alloc_new w2 (Obj.cells #[.int .i64 x.k, .string x.t, .int .i64 (x.a : Int), .int .i64 (x.b : Int)] 83))
 have X2 := Lib.hid ((Below.heap_alloc w2 (Obj.cells #[.int .i64 x.k, .string x.t, .int .i64 (x.a : Int), .int .i64 (x.b : Int)] 83) w.heap.size (by omega)).trans ((hb2.block _ (heap_lt X1.out)).trans X1.out))
 obtain ⟨s0, s1, s2, s3⟩ := box4t K2.out
 clear hb2 ha2 PK
 by_cases k3 : x.k = 3
 ·have b3 : (x.k == 3) = true := by simpa using k3
  have HRB := Lib.hid (HRS.out.symm.trans (qop_int (tm := tm) (most := most) (ns := ns) HXT.out k3))
  have CT := Lib.hid (ptake_any _ H2.out (by rw [HX.out]; rw [k3]; decide))
  have HUP := Lib.hid (nx_ltp H2.out (by rw [HX.out]; rw [k3]; decide))
  rw [HX.out] at CT
  have hfx := nx_fine H2.out (by rw [HX.out, k3]; decide)
  rw [HX.out] at hfx
  have HFX := Lib.hid (And.intro (hfx.1.2 k3).1 hfx.2)
  clear k3 hfx
  go_wp2_with fail
  refine CT.out.mono ?_
  rintro e w3 ⟨rfl, h3, f3⟩
  have H3 := Lib.hid h3
  have F3 := Lib.hid (F2.out.trans f3)
  have X3 := Lib.hid (f3.boxp H2.out X2.out (by decide) (by decide))
  clear h3 f3 CT
  have CI := Lib.hid (show Calls Tryz.prog 82 #[.pointer (some ⟨c.R, 0, none⟩), .agg #[.int .i64 x.k, .string x.t, .int .i64 (x.a : Int), .int .i64 (x.b : Int)], .string ⟨#[]⟩] w3 fun e w' => PQ c w3 (i + 1) (intP x false (i + 1) ns) (fun t _ v _ => ∃ n, t = inT n ∧ I64 n ∧ v = .agg #[.int .i64 2, .int .i64 n, .string ⟨#[]⟩, .slice none 0 0]) e w' from
   pinteger_any x false w3 H3.out (HE.out.fr F3.out) (by omega) HFX.out.2 HFX.out.1)
  go_wp2_with fail
  refine CI.out.mono ?_
  rintro e w4 hq
  cases hres : intP x false (i + 1) ns with
  | error pk =>
   obtain ⟨p, k⟩ := pk
   obtain ⟨f4, rfl⟩ := hq.err hres
   have HR := Lib.hid (show RS = .error (p, k) by rw [HRB.out, hres]; rfl)
   clear hq hres
   go_wp2_with fail
   refine ⟨rfl, ?_⟩
   rw [HR.out]
   exact ⟨F3.out.trans f4, rfl⟩
  | ok yy =>
   obtain ⟨t, j, ns4⟩ := yy
   obtain ⟨f4, v, rfl, h4, hj, n, rfl, hn, rfl⟩ := hq.ok hres
   have HR := Lib.hid (show RS = .ok ((inT n, 0), j, ns4) by rw [HRB.out, hres]; rfl)
   have H4 := Lib.hid h4
   have F4 := Lib.hid (F3.out.trans f4)
   have X4 := Lib.hid (f4.boxp H3.out X3.out (by decide) (by decide))
   have HNN := Lib.hid hn
   clear hq hres h4 f4 hn
   obtain ⟨x0, x1, x2, x3⟩ := box4t X4.out
   have xf : ∀ j, w4.frozen? ⟨w.heap.size, j, none⟩ = false := fun j => by simp [World.frozen?, X4.out]
   go_wp2_with fail
   obtain ⟨p0, p1, p2, p3⟩ := box4t (box_put4 X4.out (.int .i64 2) (.int .i64 n) (.string ⟨#[]⟩) (.slice none 0 0) rfl).1
   refine bodyPost_ret (v := .tuple #[.agg #[.int .i64 2, .int .i64 n, .string ⟨#[]⟩, .slice none 0 0], .int .i64 0]) (by simp [results, go_sem, p0, p1, p2, p3]) rfl ?_
   exact ret_box2 H4.out F4.out hB X4.out (Nat.le_refl _) (TP.leaf _ _ 2 n _) (by omega) ⟨.inr (.inl ⟨rfl, HNN.out, rfl, rfl⟩), fun i hi => absurd hi (by omega)⟩ (by rw [leaf_nodes]; omega) HR.out
 ·have b3 : (x.k == 3) = false := by simpa using k3
  by_cases k2 : x.k = 2
  ·have b2 : (x.k == 2) = true := by simpa using k2
   have HR := Lib.hid (HRS.out.symm.trans (qop_var (tm := tm) (most := most) (ns := ns) HXT.out k2))
   have CT := Lib.hid (ptake_any _ H2.out (by rw [HX.out]; rw [k2]; decide))
   have HUP := Lib.hid (nx_ltp H2.out (by rw [HX.out]; rw [k2]; decide))
   rw [HX.out] at CT
   clear k2 k3
   go_wp2_with fail
   refine CT.out.mono ?_
   rintro e w3 ⟨rfl, h3, f3⟩
   have H3 := Lib.hid h3
   have F3 := Lib.hid (F2.out.trans f3)
   have X3 := Lib.hid (f3.boxp H2.out X2.out (by decide) (by decide))
   clear h3 f3 CT
   have fl := fld_tok1
   have hup3 := H3.out.few
   go_wp2_with fail
   refine (pvariable_any x.t _ H3.out HNL.out (HE.out.fr F3.out).1).mono ?_
   rintro e w4 ⟨rfl, h4, f4⟩
   have H4 := Lib.hid h4
   have F4 := Lib.hid (F3.out.trans f4)
   have X4 := Lib.hid (f4.boxp H3.out X3.out (by decide) (by decide))
   have HVN := Lib.hid (show (varN x.t ns).1 < 1000 by
    have hv := H4.out.names
    have := var_lt x.t ns
    have := HUP.out
    have := HNL.out
    omega)
   obtain ⟨vn, hvn⟩ : ∃ vn, (varN x.t ns).1 = vn := ⟨_, rfl⟩
   rw [hvn] at HVN HR ⊢
   clear h4 f4 hvn
   obtain ⟨x0, x1, x2, x3⟩ := box4t X4.out
   have xf : ∀ j, w4.frozen? ⟨w.heap.size, j, none⟩ = false := fun j => by simp [World.frozen?, X4.out]
   go_wp2_with fail
   obtain ⟨p0, p1, p2, p3⟩ := box4t (box_put4 X4.out (.int .i64 1) (.int .i64 (vn : Int)) (.string ⟨#[]⟩) (.slice none 0 0) rfl).1
   refine bodyPost_ret (v := .tuple #[.agg #[.int .i64 1, .int .i64 (vn : Int), .string ⟨#[]⟩, .slice none 0 0], .int .i64 0]) (by simp [results, go_sem, p0, p1, p2, p3]) rfl ?_
   exact ret_box2 H4.out F4.out hB X4.out (Nat.le_refl _) (TP.leaf _ _ 1 (vn : Int) _) (by omega) (leaf_good _ (by omega) (by have := HVN.out; omega)) (by rw [leaf_nodes]; omega) HR.out
  ·have b2 : (x.k == 2) = false := by simpa using k2
   by_cases k1 : x.k = 1
   ·have b1 : (x.k == 1) = true := by simpa using k1
    have HRB := Lib.hid (HRS.out.symm.trans (qop_atom (tm := tm) (most := most) (ns := ns) HXT.out k1))
    have HNO := Lib.hid (nx_sizep H2.out)
    rw [HX.out] at HNO
    have CT := Lib.hid (ptake_any _ H2.out (by rw [HX.out]; rw [k1]; decide))
    have HUP := Lib.hid (nx_ltp H2.out (by rw [HX.out]; rw [k1]; decide))
    rw [HX.out] at CT
    clear k1 k2 k3
    go_wp2_with fail
    refine CT.out.mono ?_
    rintro e w3 ⟨rfl, h3, f3⟩
    have H3 := Lib.hid h3
    have F3 := Lib.hid (F2.out.trans f3)
    have X3 := Lib.hid (f3.boxp H2.out X2.out (by decide) (by decide))
    clear h3 f3 CT
    go_wp2_with fail
    refine (pnamed_any D IH hD most x HNO.out _ i _ H3.out (HE.out.fr F3.out)).mono ?_
    rintro e w4 hq
    cases hres : namedP c.tk c.s.size tm x most (i + 1) ns with
    | error pk =>
     obtain ⟨p, k⟩ := pk
     obtain ⟨f4, rfl⟩ := hq.err hres
     have HR := Lib.hid (show RS = .error (p, k) by rw [HRB.out, hres])
     clear hq hres
     go_wp2_with fail
     refine ⟨rfl, ?_⟩
     rw [HR.out]
     exact ⟨F3.out.trans f4, rfl⟩
    | ok yy =>
     obtain ⟨⟨t, pr⟩, j, ns4⟩ := yy
     obtain ⟨f4, v, rfl, h4, hj, tv, rfl, ht, hgood, hnod⟩ := hq.ok hres
     obtain ⟨k0, k1, k2, A0, m0, c0, rfl⟩ := ht.agg
     have HR := Lib.hid (show RS = .ok ((t, pr), j, ns4) by rw [HRB.out, hres])
     have H4 := Lib.hid h4
     have F4 := Lib.hid (F3.out.trans f4)
     have X4 := Lib.hid (f4.boxp H3.out X3.out (by decide) (by decide))
     have hs6 := F3.out.size
     have hx6 := heap_lt X3.out
     have TP7 := Lib.hid (ht.more (S' := fun b => w.heap.size ≤ b ∧ b ≠ w.heap.size) fun b hb => ⟨by omega, by omega⟩)
     have HJ := Lib.hid (And.intro hj (And.intro hgood hnod))
     clear hq hres h4 f4 ht hj hgood hnod hs6 hx6
     obtain ⟨x0, x1, x2, x3⟩ := box4t X4.out
     have xf : ∀ j, w4.frozen? ⟨w.heap.size, j, none⟩ = false := fun j => by simp [World.frozen?, X4.out]
     go_wp2_with fail
     obtain ⟨p0, p1, p2, p3⟩ := box4t (box_put4 X4.out (.int .i64 k0) (.int .i64 k1) (.string k2) (.slice A0 m0 c0) rfl).1
     refine bodyPost_ret (v := .tuple #[.agg #[.int .i64 k0, .int .i64 k1, .string k2, .slice A0 m0 c0], .int .i64 pr]) (by simp [results, go_sem, p0, p1, p2, p3]) rfl ?_
     exact ret_box2 H4.out F4.out hB X4.out (Nat.le_refl _) TP7.out (by have := HJ.out.1; omega) HJ.out.2.1 HJ.out.2.2 HR.out
   ·have b1 : (x.k == 1) = false := by simpa using k1
    by_cases k4 : x.k = 4
    ·have b4 : (x.k == 4) = true := by simpa using k4
     have HRB := Lib.hid (HRS.out.symm.trans (qop_open (tm := tm) (most := most) (ns := ns) HXT.out (.inl k4)))
     have CT := Lib.hid (ptake_any _ H2.out (by rw [HX.out]; rw [k4]; decide))
     have HUP := Lib.hid (nx_ltp H2.out (by rw [HX.out]; rw [k4]; decide))
     rw [HX.out] at CT
     clear k1 k2 k3 k4
     go_wp2_with fail
     refine CT.out.mono ?_
     rintro e w3 ⟨rfl, h3, f3⟩
     have H3 := Lib.hid h3
     have F3 := Lib.hid (F2.out.trans f3)
     have X3 := Lib.hid (f3.boxp H2.out X2.out (by decide) (by decide))
     clear h3 f3 CT
     go_wp2_with fail
     refine (pinside_any D IH hD ⟨#[41]⟩ _ _ _ H3.out (HE.out.fr F3.out)).mono ?_
     rintro e w7 hq
     cases hres : (tm 1200 (i + 1) ns).andThen fun r j n => mustN c.tk c.s.size ⟨#[41]⟩ r j n with
     | error pk =>
      obtain ⟨p, k⟩ := pk
      obtain ⟨f7, rfl⟩ := hq.err hres
      have HR := Lib.hid (show RS = .error (p, k) by rw [HRB.out, hres]; rfl)
      clear hq hres
      go_wp2_with fail
      refine ⟨rfl, ?_⟩
      rw [HR.out]
      exact ⟨F3.out.trans f7, rfl⟩
     | ok yy =>
      obtain ⟨t, j, ns7⟩ := yy
      obtain ⟨f7, v, rfl, h7, hj7, ht, hgood, hnod⟩ := hq.ok hres
      obtain ⟨k0, k1, k2, A0, m0, c0, rfl⟩ := ht.agg
      have HR := Lib.hid (show RS = .ok ((t, 0), j, ns7) by rw [HRB.out, hres]; rfl)
      have H7 := Lib.hid h7
      have F7 := Lib.hid (F3.out.trans f7)
      have X7 := Lib.hid (f7.boxp H3.out X3.out (by decide) (by decide))
      have hs6 := F3.out.size
      have hx6 := heap_lt X3.out
      have TP7 := Lib.hid (ht.more (S' := fun b => w.heap.size ≤ b ∧ b ≠ w.heap.size) fun b hb => ⟨by omega, by omega⟩)
      have HJ := Lib.hid (And.intro hj7 (And.intro hgood hnod))
      clear hq hres h7 f7 ht hj7 hgood hnod hs6 hx6
      obtain ⟨x0, x1, x2, x3⟩ := box4t X7.out
      have xf : ∀ j, w7.frozen? ⟨w.heap.size, j, none⟩ = false := fun j => by simp [World.frozen?, X7.out]
      go_wp2_with fail
      obtain ⟨p0, p1, p2, p3⟩ := box4t (box_put4 X7.out (.int .i64 k0) (.int .i64 k1) (.string k2) (.slice A0 m0 c0) rfl).1
      refine bodyPost_ret (v := .tuple #[.agg #[.int .i64 k0, .int .i64 k1, .string k2, .slice A0 m0 c0], .int .i64 0]) (by simp [results, go_sem, p0, p1, p2, p3]) rfl ?_
      exact ret_box2 H7.out F7.out hB X7.out (Nat.le_refl _) TP7.out (by have := HJ.out.1; omega) HJ.out.2.1 (by have := HJ.out.2.2; omega) HR.out
    ·have b4 : (x.k == 4) = false := by simpa using k4
     have HK := Lib.hid (And.intro k1 (And.intro k2 (And.intro k3 k4)))
     clear k1 k2 k3 k4
     go_wp2_with fail
     refine (pmark_any _ _ H2.out).mono ?_
     rintro e w3 ⟨b, rfl, hM, h3, f3, hlt⟩
     have HM := Lib.hid hM
     cases b with
     | true =>
      have HRB := Lib.hid (HRS.out.symm.trans (qop_open (tm := tm) (most := most) (ns := ns) HXT.out (.inr HM.out)))
      replace h3 : Pd w3 c (i + 1) ns := h3
      have H3 := Lib.hid h3
      have F3 := Lib.hid (F2.out.trans f3)
      have X3 := Lib.hid (f3.boxp H2.out X2.out (by decide) (by decide))
      clear h3 f3 hlt hM
      go_wp2_with fail
      refine (pinside_any D IH hD ⟨#[41]⟩ _ _ _ H3.out (HE.out.fr F3.out)).mono ?_
      rintro e w7 hq
      cases hres : (tm 1200 (i + 1) ns).andThen fun r j n => mustN c.tk c.s.size ⟨#[41]⟩ r j n with
      | error pk =>
       obtain ⟨p, k⟩ := pk
       obtain ⟨f7, rfl⟩ := hq.err hres
       have HR := Lib.hid (show RS = .error (p, k) by rw [HRB.out, hres]; rfl)
       clear hq hres
       go_wp2_with fail
       refine ⟨rfl, ?_⟩
       rw [HR.out]
       exact ⟨F3.out.trans f7, rfl⟩
      | ok yy =>
       obtain ⟨t, j, ns7⟩ := yy
       obtain ⟨f7, v, rfl, h7, hj7, ht, hgood, hnod⟩ := hq.ok hres
       obtain ⟨k0, k1, k2, A0, m0, c0, rfl⟩ := ht.agg
       have HR := Lib.hid (show RS = .ok ((t, 0), j, ns7) by rw [HRB.out, hres]; rfl)
       have H7 := Lib.hid h7
       have F7 := Lib.hid (F3.out.trans f7)
       have X7 := Lib.hid (f7.boxp H3.out X3.out (by decide) (by decide))
       have hs6 := F3.out.size
       have hx6 := heap_lt X3.out
       have TP7 := Lib.hid (ht.more (S' := fun b => w.heap.size ≤ b ∧ b ≠ w.heap.size) fun b hb => ⟨by omega, by omega⟩)
       have HJ := Lib.hid (And.intro hj7 (And.intro hgood hnod))
       clear hq hres h7 f7 ht hj7 hgood hnod hs6 hx6
       obtain ⟨x0, x1, x2, x3⟩ := box4t X7.out
       have xf : ∀ j, w7.frozen? ⟨w.heap.size, j, none⟩ = false := fun j => by simp [World.frozen?, X7.out]
       go_wp2_with fail
       obtain ⟨p0, p1, p2, p3⟩ := box4t (box_put4 X7.out (.int .i64 k0) (.int .i64 k1) (.string k2) (.slice A0 m0 c0) rfl).1
       refine bodyPost_ret (v := .tuple #[.agg #[.int .i64 k0, .int .i64 k1, .string k2, .slice A0 m0 c0], .int .i64 0]) (by simp [results, go_sem, p0, p1, p2, p3]) rfl ?_
       exact ret_box2 H7.out F7.out hB X7.out (Nat.le_refl _) TP7.out (by have := HJ.out.1; omega) HJ.out.2.1 (by have := HJ.out.2.2; omega) HR.out
     | false =>
      replace h3 : Pd w3 c i ns := h3
      have H3 := Lib.hid h3
      have F3 := Lib.hid (F2.out.trans f3)
      have X3 := Lib.hid (f3.boxp H2.out X2.out (by decide) (by decide))
      have K3 := Lib.hid (f3.keep _ _ _ _ K2.out (by have h9 := H.out.lt; omega) (fun h => absurd h (by decide)))
      clear h3 f3 hlt hM s0 s1 s2 s3
      go_wp2_with fail
      refine (pmark_any _ _ H3.out).mono ?_
      rintro e w4 ⟨b, rfl, hM, h4, f4, hlt⟩
      have HM2 := Lib.hid hM
      cases b with
      | true =>
       have HRB := Lib.hid (HRS.out.symm.trans (qop_list (tm := tm) (most := most) (ns := ns) HXT.out HM.out HM2.out))
       replace h4 : Pd w4 c (i + 1) ns := h4
       have H4 := Lib.hid h4
       have F4 := Lib.hid (F3.out.trans f4)
       have X4 := Lib.hid (f4.boxp H3.out X3.out (by decide) (by decide))
       clear h4 f4 hlt hM
       go_wp2_with fail
       refine (plist_any D IH hD _ i _ H4.out (HE.out.fr F4.out)).mono ?_
       rintro e w7 hq
       cases hres : listP c.tk c.s.size tm (i + 1) ns with
       | error pk =>
        obtain ⟨p, k⟩ := pk
        obtain ⟨f7, rfl⟩ := hq.err hres
        have HR := Lib.hid (show RS = .error (p, k) by rw [HRB.out, hres]; rfl)
        clear hq hres
        go_wp2_with fail
        refine ⟨rfl, ?_⟩
        rw [HR.out]
        exact ⟨F4.out.trans f7, rfl⟩
       | ok yy =>
        obtain ⟨t, j, ns7⟩ := yy
        obtain ⟨f7, v, rfl, h7, hj7, ht, hgood, hnod⟩ := hq.ok hres
        obtain ⟨k0, k1, k2, A0, m0, c0, rfl⟩ := ht.agg
        have HR := Lib.hid (show RS = .ok ((t, 0), j, ns7) by rw [HRB.out, hres]; rfl)
        have H7 := Lib.hid h7
        have F7 := Lib.hid (F4.out.trans f7)
        have X7 := Lib.hid (f7.boxp H4.out X4.out (by decide) (by decide))
        have hs6 := F4.out.size
        have hx6 := heap_lt X4.out
        have TP7 := Lib.hid (ht.more (S' := fun b => w.heap.size ≤ b ∧ b ≠ w.heap.size) fun b hb => ⟨by omega, by omega⟩)
        have HJ := Lib.hid (And.intro hj7 (And.intro hgood hnod))
        clear hq hres h7 f7 ht hj7 hgood hnod hs6 hx6
        obtain ⟨x0, x1, x2, x3⟩ := box4t X7.out
        have xf : ∀ j, w7.frozen? ⟨w.heap.size, j, none⟩ = false := fun j => by simp [World.frozen?, X7.out]
        go_wp2_with fail
        obtain ⟨p0, p1, p2, p3⟩ := box4t (box_put4 X7.out (.int .i64 k0) (.int .i64 k1) (.string k2) (.slice A0 m0 c0) rfl).1
        refine bodyPost_ret (v := .tuple #[.agg #[.int .i64 k0, .int .i64 k1, .string k2, .slice A0 m0 c0], .int .i64 0]) (by simp [results, go_sem, p0, p1, p2, p3]) rfl ?_
        exact ret_box2 H7.out F7.out hB X7.out (Nat.le_refl _) TP7.out (by have := HJ.out.1; omega) HJ.out.2.1 (by have := HJ.out.2.2; omega) HR.out
      | false =>
       replace h4 : Pd w4 c i ns := h4
       have H4 := Lib.hid h4
       have F4 := Lib.hid (F3.out.trans f4)
       have X4 := Lib.hid (f4.boxp H3.out X3.out (by decide) (by decide))
       have K4 := Lib.hid (f4.keep _ _ _ _ K3.out (by have h9 := H.out.lt; omega) (fun h => absurd h (by decide)))
       clear h4 f4 hlt hM
       go_wp2_with fail
       refine (pmark_any _ _ H4.out).mono ?_
       rintro e w5 ⟨b, rfl, hM, h5, f5, hlt⟩
       have HM3 := Lib.hid hM
       cases b with
       | true =>
        replace h5 : Pd w5 c (i + 1) ns := h5
        have H5 := Lib.hid h5
        have F5 := Lib.hid (F4.out.trans f5)
        have X5 := Lib.hid (f5.boxp H4.out X4.out (by decide) (by decide))
        clear h5 f5 hlt hM
        go_wp2_with fail
        refine (pmark_any _ _ H5.out).mono ?_
        rintro e w6 ⟨b, rfl, hM, h6, f6, hlt⟩
        have HM4 := Lib.hid hM
        cases b with
        | true =>
         have HR := Lib.hid (HRS.out.symm.trans (qop_cur (tm := tm) (most := most) (ns := ns) HXT.out HM.out HM2.out HM3.out HM4.out))
         replace h6 : Pd w6 c (i + 1 + 1) ns := h6
         have H6 := Lib.hid h6
         have F6 := Lib.hid (F5.out.trans f6)
         have X6 := Lib.hid (f6.boxp H5.out X5.out (by decide) (by decide))
         clear h6 f6 hlt hM
         go_wp2_with fail
         refine (pconst_any _ _).mono ?_
         rintro e w7 ⟨rfl, hb7⟩
         have H7 := Lib.hid (H6.out.below hb7)
         have F7 := Lib.hid (F6.out.trans (Frp.of_below hb7 H6.out.base))
         have X7 := Lib.hid ((hb7.block _ (heap_lt X6.out)).trans X6.out)
         clear hb7
         obtain ⟨x0, x1, x2, x3⟩ := box4t X7.out
         have xf : ∀ j, w7.frozen? ⟨w.heap.size, j, none⟩ = false := fun j => by simp [World.frozen?, X7.out]
         go_wp2_with fail
         obtain ⟨p0, p1, p2, p3⟩ := box4t (box_put4 X7.out (.int .i64 3) (.int .i64 0) (.string ⟨#[123, 125]⟩) (.slice none 0 0) rfl).1
         refine bodyPost_ret (v := .tuple #[.agg #[.int .i64 3, .int .i64 0, .string ⟨#[123, 125]⟩, .slice none 0 0], .int .i64 0]) (by simp [results, go_sem, p0, p1, p2, p3]) rfl ?_
         exact ret_box2 H7.out F7.out hB X7.out (Nat.le_refl _) (TP.leaf _ _ 3 0 _) (by omega) (atom_good _ (by decide)) (by rw [leaf_nodes]; omega) HR.out
        | false =>
         have HRB := Lib.hid (HRS.out.symm.trans (qop_cur2 (tm := tm) (most := most) (ns := ns) HXT.out HM.out HM2.out HM3.out HM4.out))
         replace h6 : Pd w6 c (i + 1) ns := h6
         have H6 := Lib.hid h6
         have F6 := Lib.hid (F5.out.trans f6)
         have X6 := Lib.hid (f6.boxp H5.out X5.out (by decide) (by decide))
         clear h6 f6 hlt hM
         go_wp2_with fail
         refine (pinside_any D IH hD ⟨#[125]⟩ _ _ _ H6.out (HE.out.fr F6.out)).mono ?_
         rintro e w7 hq
         cases hres : (tm 1200 (i + 1) ns).andThen fun r j n => mustN c.tk c.s.size ⟨#[125]⟩ r j n with
         | error pk =>
          obtain ⟨p, k⟩ := pk
          obtain ⟨f7, rfl⟩ := hq.err hres
          have HR := Lib.hid (show RS = .error (p, k) by rw [HRB.out, hres]; rfl)
          clear hq hres
          go_wp2_with fail
          refine ⟨rfl, ?_⟩
          rw [HR.out]
          exact ⟨F6.out.trans f7, rfl⟩
         | ok yy =>
          obtain ⟨t, j, ns7⟩ := yy
          obtain ⟨f7, v, rfl, h7, hj7, ht, hgood, hnod⟩ := hq.ok hres
          obtain ⟨k0, k1, k2, A0, m0, c0, rfl⟩ := ht.agg
          have HR := Lib.hid (show RS = .ok ((oneT curS t, 0), j, ns7) by rw [HRB.out, hres]; rfl)
          have H7 := Lib.hid h7
          have F7 := Lib.hid (F6.out.trans f7)
          have X7 := Lib.hid (f7.boxp H6.out X6.out (by decide) (by decide))
          have hs6 := F6.out.size
          have hs7 := f7.size
          have hx6 := heap_lt X6.out
          have hb8 := Lib.hid ((Below.refl w7.heap.size w7).alloc (Nat.le_refl _) (Obj.cells #[.int .i64 k0, .int .i64 k1, .string k2, .slice A0 m0 c0] 39))
          have TP8 := Lib.hid (show TP (w7.alloc (Obj.cells #[.int .i64 k0, .int .i64 k1, .string k2, .slice A0 m0 c0] 39)) (fun b => w.heap.size ≤ b ∧ b ≠ w.heap.size) (oneT curS t) (.agg #[.int .i64 4, .int .i64 0, .string ⟨#[123, 125]⟩, .slice (some ⟨w7.heap.size, 0, none⟩) 1 1]) from
           ⟨_, _, rfl, Nat.le_refl _, (fun h => by cases h), fun _ => ⟨w7.heap.size, _, _, rfl, ⟨by omega, by omega⟩, heap_alloc_new w7 _, fun k hk => by
            obtain rfl : k = 0 := by omega
            exact ⟨_, _, _, _, rfl, rfl, rfl, rfl, (ht.below hb8.out).more fun b hb => ⟨by omega, by omega⟩⟩⟩⟩)
          have HG := Lib.hid (show (oneT curS t).good from ⟨.inr (.inr (.inr ⟨rfl, rfl, by decide, by omega⟩)), fun i _ => hgood⟩)
          have HN := Lib.hid (show i + (oneT curS t).nodes ≤ j by
           have : (oneT curS t).nodes = 1 + t.nodes := by simp [oneT, T.nodes, sumTo]
           rw [this]; omega)
          have HJ := Lib.hid hj7
          clear hq hres h7 f7 ht hj7 hgood hnod hs6 hx6
          go_wp2_with fail
          refine (pcell_any ⟨#[123, 125]⟩ _ 1 1 _).mono ?_
          rintro e w8 ⟨rfl, hb9⟩
          have H8 := Lib.hid ((H7.out.below hb8.out).below hb9)
          have F8 := Lib.hid ((F7.out.trans (Frp.of_below hb8.out H7.out.base)).trans (Frp.of_below hb9 (H7.out.below hb8.out).base))
          have X8 := Lib.hid ((hb9.block _ (by have := heap_lt X7.out; simp; omega)).trans ((hb8.out.block _ (heap_lt X7.out)).trans X7.out))
          have TP9 := Lib.hid (TP8.out.below hb9)
          clear hb9
          obtain ⟨x0, x1, x2, x3⟩ := box4t X8.out
          have xf : ∀ j, w8.frozen? ⟨w.heap.size, j, none⟩ = false := fun j => by simp [World.frozen?, X8.out]
          go_wp2_with fail
          obtain ⟨p0, p1, p2, p3⟩ := box4t (box_put4 X8.out (.int .i64 4) (.int .i64 0) (.string ⟨#[123, 125]⟩) (.slice (some ⟨w7.heap.size, 0, none⟩) 1 1) rfl).1
          refine bodyPost_ret (v := .tuple #[.agg #[.int .i64 4, .int .i64 0, .string ⟨#[123, 125]⟩, .slice (some ⟨w7.heap.size, 0, none⟩) 1 1], .int .i64 0]) (by simp [results, go_sem, p0, p1, p2, p3]) rfl ?_
          exact ret_box2 H8.out F8.out hB X8.out (Nat.le_refl _) TP9.out (by have := HJ.out; omega) HG.out HN.out HR.out
       | false =>
        replace h5 : Pd w5 c i ns := h5
        have F5 := Lib.hid (F4.out.trans f5)
        have K5 := Lib.hid (f5.keep _ _ _ _ K4.out (by have h9 := H.out.lt; omega) (fun h => absurd h (by decide)))
        have HR := Lib.hid (HRS.out.symm.trans (qop_err (tm := tm) (most := most) (ns := ns) HXT.out HM.out HM2.out HM3.out ⟨HK.out.1, HK.out.2.1, HK.out.2.2.1, HK.out.2.2.2⟩))
        obtain ⟨s0, s1, s2, s3⟩ := box4t K5.out
        clear h5 f5 hlt hM
        go_wp2_with fail
        refine ⟨rfl, ?_⟩
        rw [HR.out]
        exact ⟨F5.out, rfl⟩
end Go.Proofs.YtibcpdmeigdgpaaGreatDoor
namespace Go.Proofs.YtibcpdmeigdgpaaGreatDoor
open Go.RowKit
structure Cb (w : World) (c : Rdc) (d5 s7 r3 m4 : Nat) (D most : Int) (sv : Value) : Prop where
 hd : w.heap[d5]? = some (.cells #[.int .i64 D] 3 (0, 0))
 hs : w.heap[s7]? = some (.cells #[sv] 111 (0, 0))
 hr : w.heap[r3]? = some (.cells #[.pointer (some ⟨c.R, 0, none⟩)] 68 (0, 0))
 hm : w.heap[m4]? = some (.cells #[.int .i64 most] 3 (0, 0))
theorem Cb.fr {w w' : World} {c : Rdc} {d5 s7 r3 m4 : Nat} {D most : Int} {sv : Value} {j : Nat} {ns : List ByteArray} (h : Cb w c d5 s7 r3 m4 D most sv) (f : Frp c w w') (hp : Pd w c j ns) : Cb w' c d5 s7 r3 m4 D most sv :=
 ⟨f.boxp hp h.hd (by decide) (by decide), f.boxp hp h.hs (by decide) (by decide), f.boxp hp h.hr (by decide) (by decide), f.boxp hp h.hm (by decide) (by decide)⟩
theorem Cb.cells {w : World} {c : Rdc} {d5 s7 r3 m4 : Nat} {D most : Int} {sv : Value} (h : Cb w c d5 s7 r3 m4 D most sv) : w.cell? ⟨d5, 0, none⟩ = some (.int .i64 D) ∧ w.cell? ⟨s7, 0, none⟩ = some sv ∧ w.cell? ⟨r3, 0, none⟩ = some (.pointer (some ⟨c.R, 0, none⟩)) ∧ w.cell? ⟨m4, 0, none⟩ = some (.int .i64 most) :=
 ⟨cell_of_row _ _ 0 _ _ _ h.hd, cell_of_row _ _ 0 _ _ _ h.hs, cell_of_row _ _ 0 _ _ _ h.hr, cell_of_row _ _ 0 _ _ _ h.hm⟩
theorem Cb.lt {w : World} {c : Rdc} {d5 s7 r3 m4 : Nat} {D most : Int} {sv : Value} (h : Cb w c d5 s7 r3 m4 D most sv) : d5 < w.heap.size ∧ s7 < w.heap.size ∧ r3 < w.heap.size ∧ m4 < w.heap.size := ⟨heap_lt h.hd, heap_lt h.hs, heap_lt h.hr, heap_lt h.hm⟩
set_option maxRecDepth 100000 in
set_option maxHeartbeats 8000000 in
theorem penter_no {c : Rdc} {d5 s7 r3 m4 : Nat} (D n cc : Nat) (A : Option Addr) {most : Int} (w : World) (i : Nat) (ns : List ByteArray) (h : Pd w c i ns) (hc : Cb w c d5 s7 r3 m4 (D : Int) most (.slice A n cc)) (hDn : 64 < D + n) (hD : D ≤ 70) (hn : n ≤ 70) :
 Calls Tryz.prog 62 #[.pointer (some ⟨d5, 0, none⟩), .pointer (some ⟨s7, 0, none⟩), .pointer (some ⟨r3, 0, none⟩), .pointer (some ⟨m4, 0, none⟩)] w fun e w' => e = .panicked [wrongP ((nx c i).a : Int) 52] ∧ Frp c w w' := by
 have hB := h.base
 have H1 := Lib.hid (h.alloc (Obj.cells #[.int .i64 0, .int .i64 0, .string ⟨#[]⟩, .slice none 0 0] 39))
 have F1 := Lib.hid (Frp.of_below (belP (Below.refl w.heap.size w) (Obj.cells #[.int .i64 0, .int .i64 0, .string ⟨#[]⟩, .slice none 0 0] 39)) hB)
 obtain ⟨q0, q1, q2, q3⟩ := hc.cells
 obtain ⟨l0, l1, l2, l3⟩ := hc.lt
 have hDn' : (64 : Int) < (D : Int) + (n : Int) := by omega
 have fl := fld_tok2
 clear h hc
 go_enter Tryz.func62, Tryz.ntmps62
 go_wp2_with fail
 refine (ppeek_any _ H1.out).mono ?_
 rintro e w2 ⟨rfl, hb2⟩
 have F2 := Lib.hid (F1.out.trans (Frp.of_below hb2 H1.out.base))
 clear hb2
 go_wp2_with fail
 exact ⟨rfl, rfl, F2.out⟩
set_option maxRecDepth 100000 in
set_option maxHeartbeats 8000000 in
theorem penter_ok {c : Rdc} {d5 s7 r3 m4 : Nat} (D n cc : Nat) (A : Option Addr) {most : Int} {tm : Int → Nat → List ByteArray → PR T} (IH : PTermC c (((D + n : Nat) : Int) + 1) tm) (w : World) (i : Nat) (ns : List ByteArray) (h : Pd w c i ns) (hev : Ev c w) (hc : Cb w c d5 s7 r3 m4 (D : Int) most (.slice A n cc)) (hDn : D + n ≤ 64) :
 Calls Tryz.prog 62 #[.pointer (some ⟨d5, 0, none⟩), .pointer (some ⟨s7, 0, none⟩), .pointer (some ⟨r3, 0, none⟩), .pointer (some ⟨m4, 0, none⟩)] w fun e w' => PQ c w i (operandP c.tk c.s.size tm most i ns) (RelT2 w i) e w' := by
 have hB := h.base
 have H1 := Lib.hid (h.alloc (Obj.cells #[.int .i64 0, .int .i64 0, .string ⟨#[]⟩, .slice none 0 0] 39))
 have F1 := Lib.hid (Frp.of_below (belP (Below.refl w.heap.size w) (Obj.cells #[.int .i64 0, .int .i64 0, .string ⟨#[]⟩, .slice none 0 0] 39)) hB)
 have X1 := Lib.hid (heap_alloc_new w (Obj.cells #[.int .i64 0, .int .i64 0, .string ⟨#[]⟩, .slice none 0 0] 39))
 have E1 := Lib.hid (hev.fr F1.out)
 obtain ⟨q0, q1, q2, q3⟩ := hc.cells
 obtain ⟨l0, l1, l2, l3⟩ := hc.lt
 have hDn' : ¬ (64 : Int) < (D : Int) + (n : Int) := by omega
 have hcast : ((D : Int) + (n : Int)) = ((D + n : Nat) : Int) := by omega
 have CO := Lib.hid (poperand_any (D + n) IH hDn most _ _ _ H1.out E1.out)
 rw [← hcast] at CO
 clear h hc hev hcast
 go_enter Tryz.func62, Tryz.ntmps62
 go_wp2_with fail
 refine CO.out.mono ?_
 rintro e w4 hq
 cases hres : operandP c.tk c.s.size tm most i ns with
 | error pk =>
  obtain ⟨p, k⟩ := pk
  obtain ⟨f4, rfl⟩ := hq.err hres
  have F4 := Lib.hid (F1.out.trans f4)
  have HRES := Lib.hid hres
  clear hq hres f4 CO
  go_wp2_with fail
  refine ⟨rfl, ?_⟩
  rw [HRES.out]
  exact ⟨F4.out, rfl⟩
 | ok yy =>
  obtain ⟨⟨t, pr⟩, j, ns4⟩ := yy
  obtain ⟨f4, v, rfl, h4, hj, tv, rfl, ht, hgood, hnod⟩ := hq.ok hres
  obtain ⟨k0, k1, k2, A0, m0, c0, rfl⟩ := ht.agg
  have H4 := Lib.hid h4
  have F4 := Lib.hid (F1.out.trans f4)
  have X4 := Lib.hid (f4.boxp H1.out X1.out (by decide) (by decide))
  have hin : ∀ b, (w.alloc (Obj.cells #[.int .i64 0, .int .i64 0, .string ⟨#[]⟩, .slice none 0 0] 39)).heap.size ≤ b → w.heap.size ≤ b ∧ b ≠ w.heap.size := fun b hS => by
   simp at hS
   exact ⟨by omega, by omega⟩
  have TP7 := Lib.hid (ht.more (S' := fun b => w.heap.size ≤ b ∧ b ≠ w.heap.size) hin)
  have HJ := Lib.hid (And.intro hj (And.intro hgood hnod))
  have HRES := Lib.hid hres
  obtain ⟨x0, x1, x2, x3⟩ := box4t X4.out
  have xf : ∀ j, w4.frozen? ⟨w.heap.size, j, none⟩ = false := fun j => by simp [World.frozen?, X4.out]
  clear hq hres h4 f4 ht hj hgood hnod hin CO
  go_wp2_with fail
  obtain ⟨p0, p1, p2, p3⟩ := box4t (box_put4 X4.out (.int .i64 k0) (.int .i64 k1) (.string k2) (.slice A0 m0 c0) rfl).1
  refine bodyPost_ret (v := .tuple #[.agg #[.int .i64 k0, .int .i64 k1, .string k2, .slice A0 m0 c0], .int .i64 pr]) (by simp [results, go_sem, p0, p1, p2, p3]) rfl ?_
  exact ret_box2 H4.out F4.out hB X4.out (Nat.le_refl _) TP7.out HJ.out.1 HJ.out.2.1 HJ.out.2.2 HRES.out
end Go.Proofs.YtibcpdmeigdgpaaGreatDoor
namespace Go.Proofs.YtibcpdmeigdgpaaGreatDoor
open Go.RowKit
structure PE where
 nm : ByteArray
 lt : T
 k0 : Int
 k1 : Int
 k2 : ByteArray
 ka : Option Addr
 km : Nat
 kc : Nat
 p : Int
 outer : Int
 f : Nat
def PE.cells (e : PE) : List Value := [.string e.nm, .int .i64 e.k0, .int .i64 e.k1, .string e.k2, .slice e.ka e.km e.kc, .int .i64 e.p, .int .i64 e.outer]
def stCells : List PE → List Value
 | [] => []
 | e :: S => stCells S ++ e.cells
theorem st_len : ∀ S : List PE, (stCells S).length = S.length * 7
 | [] => rfl
 | e :: S => by simp [stCells, st_len S, PE.cells]; omega
def unw (tk : List Tk) (sz d : Nat) : List PE → PR T → PR T
 | [], r => r
 | e :: S, r => unw tk sz d S (r.andThen fun t2 j' ns' => infixC tk sz (termP tk sz (d - 1 - S.length)) e.outer e.f (twoT e.nm e.lt t2) e.p j' ns')
theorem unw_err (tk : List Tk) (sz d : Nat) (pk : Int × Int) : ∀ S : List PE, unw tk sz d S (.error pk) = .error pk
 | [] => rfl
 | _ :: S => unw_err tk sz d pk S
theorem own_fr {c : Rdc} {w w' : World} {j : Nat} {ns : List ByteArray} (h : Frp c w w') (hr : Pd w c j ns) {B k n : Nat} {t : TypeId} {v : Value} {xs : List Value} (ho : w.ownsRow B t k v n xs) (h1 : t ≠ 9) (h2 : t ≠ 70) : w'.ownsRow B t k v n xs :=
 own_keep ho fun g hg => by
  obtain ⟨cs, f, hh⟩ := Go.Lib.ownsRow_kind ho g hg
  exact (h.boxp hr hh h1 h2).trans hh.symm
structure TmM (c : Rdc) (w W : World) (D j : Nat) (S : List PE) (t : T) (a0 a1 : Int) (a2 : ByteArray) (a3 : Option Addr) (a4 a5 : Nat) (most : Int) (ns : List ByteArray) (sA : Option Addr) (cc tb : Nat) : Prop where
 cb : Cb W c (w.heap.size + 1 + 1) (w.heap.size + 1 + 1 + 1 + 1) w.heap.size (w.heap.size + 1) (D : Int) most (.slice sA S.length cc)
 res : W.heap[w.heap.size + 1 + 1 + 1]? = some (.cells #[.int .i64 0, .int .i64 0, .string ⟨#[]⟩, .slice none 0 0] 39 (0, 0))
 tbox : W.heap[tb]? = some (.cells #[.int .i64 a0, .int .i64 a1, .string a2, .slice a3 a4 a5] 39 (0, 0))
 htb : w.heap.size + 5 ≤ tb
 ht : TP W (fun q => w.heap.size + 5 ≤ q ∧ q ≠ tb) t (.agg #[.int .i64 a0, .int .i64 a1, .string a2, .slice a3 a4 a5])
 row : W.ownsRow (w.heap.size + 5) 114 7 (.slice sA S.length cc) S.length (stCells S)
 st : ∀ e ∈ S, TP W (fun q => w.heap.size + 5 ≤ q ∧ q ≠ tb) e.lt (.agg #[.int .i64 e.k0, .int .i64 e.k1, .string e.k2, .slice e.ka e.km e.kc])
 rd : Pd W c j ns
 fr : Frp c w W
theorem TmM.stand {c : Rdc} {w W W1 : World} {D j j1 : Nat} {S : List PE} {t : T} {a0 a1 : Int} {a2 : ByteArray} {a3 : Option Addr} {a4 a5 : Nat} {most : Int} {ns ns1 : List ByteArray} {sA : Option Addr} {cc tb : Nat} (h : TmM c w W D j S t a0 a1 a2 a3 a4 a5 most ns sA cc tb)
 (f : Frp c W W1) (hr : Pd W1 c j1 ns1) : TmM c w W1 D j1 S t a0 a1 a2 a3 a4 a5 most ns1 sA cc tb :=
 ⟨h.cb.fr f h.rd, f.boxp h.rd h.res (by decide) (by decide), f.boxp h.rd h.tbox (by decide) (by decide), h.htb, h.ht.frp f h.rd, own_fr f h.rd h.row (by decide) (by decide), fun e he => (h.st e he).frp f h.rd, hr, h.fr.trans f⟩
theorem own_neP {w : World} {B k n : Nat} {T0 : TypeId} {v : Value} {xs : List Value} (h : w.ownsRow B T0 k v n xs) {b : Nat} {cs : Array Value} {t : TypeId} {m : Nat × Nat} (hb : w.heap[b]? = some (.cells cs t m)) (ht : t ≠ T0) : some b ≠ v.ownBlock := by
 intro e
 obtain ⟨cs', f, hh⟩ := Go.Lib.ownsRow_kind h b e.symm
 rw [hb] at hh
 injection hh with hh
 injection hh with _ hh
 exact ht hh
theorem Pd.keyT {c : Rdc} {W W' : World} {j : Nat} {ns : List ByteArray} (h : Pd W c j ns) (key : ∀ (b : Nat) (cs : Array Value) (t : TypeId) (m : Nat × Nat), W.heap[b]? = some (.cells cs t m) → t ≠ 114 → W'.heap[b]? = some (.cells cs t m)) : Pd W' c j ns := by
 obtain ⟨ht, hf, lv, nv, nn, hrw⟩ := h
 refine ⟨ht.keep fun b cs hb => (key b cs _ _ hb (by decide)).trans hb.symm, hf, lv, nv, nn, key _ _ _ _ hrw.blk (by decide), hrw.lok, own_keep hrw.own fun q hq => ?_, hrw.up, hrw.few⟩
 obtain ⟨cs, f, hh⟩ := Go.Lib.ownsRow_kind hrw.own q hq
 exact (key _ _ _ _ hh (by decide)).trans hh.symm
theorem heap_ne {w : World} {a b : Nat} {cs cs' : Array Value} {t t' : TypeId} {m m' : Nat × Nat} (h : w.heap[a]? = some (.cells cs t m)) (h' : w.heap[b]? = some (.cells cs' t' m')) (hn : t ≠ t') : a ≠ b := by
 rintro rfl
 rw [h] at h'
 injection h' with h'
 injection h' with _ h'
 exact hn h'
theorem TmM.pushed {c : Rdc} {w W W1 W2 : World} {D j : Nat} {S : List PE} {t : T} {a0 a1 : Int} {a2 : ByteArray} {a3 : Option Addr} {a4 a5 : Nat} {most : Int} {ns : List ByteArray} {sA A1 : Option Addr} {cc c1 tb : Nat} (h : TmM c w W D j S t a0 a1 a2 a3 a4 a5 most ns sA cc tb) (hB : c.B ≤ w.heap.size)
 (hb : Below W.heap.size W W1) (hg : W1.grownBy W2 (Value.slice sA S.length cc).ownBlock) (nm : ByteArray) (p right : Int) (f : Nat)
 (hown : W2.ownsRow (w.heap.size + 5) 114 7 (.slice A1 (S.length + 1) c1) (S.length + 1) (stCells S ++ [.string nm, .int .i64 a0, .int .i64 a1, .string a2, .slice a3 a4 a5, .int .i64 p, .int .i64 most])) :
 TmM c w ((W2.setCell ⟨w.heap.size + 1 + 1 + 1 + 1, 0, none⟩ (.slice A1 (S.length + 1) c1)).setCell ⟨w.heap.size + 1, 0, none⟩ (.int .i64 right)) D j (⟨nm, t, a0, a1, a2, a3, a4, a5, p, most, f⟩ :: S) t a0 a1 a2 a3 a4 a5 right ns A1 c1 tb := by
 have row1 := own_below h.row hb
 have key : ∀ (b : Nat) (cs : Array Value) (t : TypeId) (m : Nat × Nat), W.heap[b]? = some (.cells cs t m) → t ≠ 114 → W2.heap[b]? = some (.cells cs t m) := fun b cs t m hb' ht => by
  have h1 := (hb.block b (heap_lt hb')).trans hb'
  exact (hg.block b (heap_lt h1) (own_neP row1 h1 ht)).trans h1
 have hs2 := key _ _ _ _ h.cb.hs (by decide)
 have hm2 := key _ _ _ _ h.cb.hm (by decide)
 have hm3 : (W2.setCell ⟨w.heap.size + 1 + 1 + 1 + 1, 0, none⟩ (.slice A1 (S.length + 1) c1)).heap[w.heap.size + 1]? = some (.cells #[.int .i64 most] 3 (0, 0)) := (Below.heap_setCell _ _ _ _ (by show w.heap.size + 1 ≠ w.heap.size + 1 + 1 + 1 + 1; omega)).trans hm2
 have far : ∀ b, b ≠ w.heap.size + 1 + 1 + 1 + 1 → b ≠ w.heap.size + 1 → ((W2.setCell ⟨w.heap.size + 1 + 1 + 1 + 1, 0, none⟩ (.slice A1 (S.length + 1) c1)).setCell ⟨w.heap.size + 1, 0, none⟩ (.int .i64 right)).heap[b]? = W2.heap[b]? := fun b h1 h2 => (Below.heap_setCell _ _ _ _ h2).trans (Below.heap_setCell _ _ _ _ h1)
 have htb := h.htb
 have tpk : ∀ {t : T} {v : Value}, TP W (fun q => w.heap.size + 5 ≤ q ∧ q ≠ tb) t v → TP ((W2.setCell ⟨w.heap.size + 1 + 1 + 1 + 1, 0, none⟩ (.slice A1 (S.length + 1) c1)).setCell ⟨w.heap.size + 1, 0, none⟩ (.int .i64 right)) (fun q => w.heap.size + 5 ≤ q ∧ q ≠ tb) t v := fun ht => ht.keep fun b cs f hS hb => ⟨(far b (by omega) (by omega)).trans (key b cs _ f hb (by decide)), hS⟩
 refine ⟨⟨(far _ (by omega) (by omega)).trans (key _ _ _ _ h.cb.hd (by decide)), (Below.heap_setCell _ _ _ _ (by show w.heap.size + 1 + 1 + 1 + 1 ≠ w.heap.size + 1; omega)).trans (by simpa using blk_set hs2 0 (.slice A1 (S.length + 1) c1)), (far _ (by omega) (by omega)).trans (key _ _ _ _ h.cb.hr (by decide)), by simpa using blk_set hm3 0 (.int .i64 right)⟩,
  (far _ (by omega) (by omega)).trans (key _ _ _ _ h.res (by decide)), (far _ (by omega) (by omega)).trans (key _ _ _ _ h.tbox (by decide)), htb, tpk h.ht, own_keep hown fun q hq => ?_, fun e he => ?_, ((h.rd.keyT key).set_far hs2 0 _ (by decide) (by decide) (by decide)).set_far hm3 0 _ (by decide) (by decide) (by decide), ?_⟩
 ·obtain ⟨cs, f, hh⟩ := Go.Lib.ownsRow_kind hown q hq
  exact far q (heap_ne hh hs2 (by decide)) (heap_ne hh hm2 (by decide))
 ·rcases List.mem_cons.1 he with rfl | he
  ·exact tpk h.ht
  ·exact tpk (h.st e he)
 ·refine ⟨(((h.fr.low.trans (hb.mono h.rd.base)).grown hg (Nat.le_trans h.rd.base hb.size) fun k e => ?_).setCell (p := ⟨w.heap.size + 1 + 1 + 1 + 1, 0, none⟩) (by show c.B ≤ w.heap.size + 1 + 1 + 1 + 1; omega) _).setCell (p := ⟨w.heap.size + 1, 0, none⟩) (by show c.B ≤ w.heap.size + 1; omega) _, fun b cs t m hb' h1 h2 => ?_⟩
  ·have := (h.row.lt k e).1
   omega
  ·have hl := heap_lt hb'
   have h3 := h.fr.keep b cs t m hb' h1 h2
   have h4 := (hb.block b (heap_lt h3)).trans h3
   refine (far b (by omega) (by omega)).trans ((hg.block b (heap_lt h4) fun e => ?_).trans h4)
   have := (h.row.lt b e.symm).1
   omega
theorem TmM.popped {c : Rdc} {w W W1 : World} {D j : Nat} {S : List PE} {e : PE} {t t' : T} {a0 a1 b0 b1 : Int} {a2 b2 : ByteArray} {a3 b3 : Option Addr} {a4 a5 b4 b5 : Nat} {most : Int} {ns : List ByteArray} {sA : Option Addr} {cc tb : Nat} (h : TmM c w W D j (e :: S) t a0 a1 a2 a3 a4 a5 most ns sA cc tb) (hB : c.B ≤ w.heap.size)
 (hb : Below (W.setCell ⟨w.heap.size + 1 + 1 + 1 + 1, 0, none⟩ (.slice sA S.length cc)).heap.size (W.setCell ⟨w.heap.size + 1 + 1 + 1 + 1, 0, none⟩ (.slice sA S.length cc)) W1)
 (ht : TP W1 (fun q => (w.heap.size + 5 ≤ q ∧ q ≠ tb) ∨ W.heap.size ≤ q) t' (.agg #[.int .i64 b0, .int .i64 b1, .string b2, .slice b3 b4 b5])) :
 TmM c w (((((W1.setCell ⟨tb, 0, none⟩ (.int .i64 b0)).setCell ⟨tb, 1, none⟩ (.int .i64 b1)).setCell ⟨tb, 2, none⟩ (.string b2)).setCell ⟨tb, 3, none⟩ (.slice b3 b4 b5)).setCell ⟨w.heap.size + 1, 0, none⟩ (.int .i64 e.outer)) D j S t' b0 b1 b2 b3 b4 b5 e.outer ns sA cc tb := by
 have htb := h.htb
 have key : ∀ (b : Nat) (cs : Array Value) (t : TypeId) (m : Nat × Nat), W.heap[b]? = some (.cells cs t m) → b ≠ w.heap.size + 1 + 1 + 1 + 1 → W1.heap[b]? = some (.cells cs t m) := fun b cs t m hb' hne => by
  have h1 := (Below.heap_setCell W ⟨w.heap.size + 1 + 1 + 1 + 1, 0, none⟩ (.slice sA S.length cc) b hne).trans hb'
  exact (hb.block b (heap_lt h1)).trans h1
 have hs1 : W1.heap[w.heap.size + 1 + 1 + 1 + 1]? = some (.cells #[.slice sA S.length cc] 111 (0, 0)) := by
  have h1 : (W.setCell ⟨w.heap.size + 1 + 1 + 1 + 1, 0, none⟩ (.slice sA S.length cc)).heap[w.heap.size + 1 + 1 + 1 + 1]? = some (.cells #[.slice sA S.length cc] 111 (0, 0)) := by simpa using blk_set h.cb.hs 0 (.slice sA S.length cc)
  exact (hb.block _ (heap_lt h1)).trans h1
 have hm1 := key _ _ _ _ h.cb.hm (by omega)
 have htb1 := key _ _ _ _ h.tbox (by omega)
 obtain ⟨P0, P1, P2, P3⟩ := box_put4 htb1 (.int .i64 b0) (.int .i64 b1) (.string b2) (.slice b3 b4 b5) rfl
 have hm2 := (P2 (w.heap.size + 1) (by omega)).trans hm1
 have far : ∀ b, b ≠ tb → b ≠ w.heap.size + 1 → (((((W1.setCell ⟨tb, 0, none⟩ (.int .i64 b0)).setCell ⟨tb, 1, none⟩ (.int .i64 b1)).setCell ⟨tb, 2, none⟩ (.string b2)).setCell ⟨tb, 3, none⟩ (.slice b3 b4 b5)).setCell ⟨w.heap.size + 1, 0, none⟩ (.int .i64 e.outer)).heap[b]? = W1.heap[b]? := fun b h1 h2 => (Below.heap_setCell _ _ _ _ h2).trans (P2 b h1)
 have row0 := ownsRow_take h.row (k := S.length) (by simp)
 have hcut : (stCells (e :: S)).take (S.length * 7) = stCells S := by
  show (stCells S ++ e.cells).take _ = _
  rw [← st_len S, List.take_left]
 rw [hcut] at row0
 have hlt := heap_lt h.tbox
 have rowk : ∀ q, (Value.slice sA S.length cc).ownBlock = some q → W1.heap[q]? = W.heap[q]? ∧ q ≠ tb ∧ q ≠ w.heap.size + 1 := fun q hq => by
  obtain ⟨cs, f, hh⟩ := Go.Lib.ownsRow_kind row0 q hq
  exact ⟨(key _ _ _ _ hh (heap_ne hh h.cb.hs (by decide))).trans hh.symm, heap_ne hh h.tbox (by decide), heap_ne hh h.cb.hm (by decide)⟩
 have hpd1 : Pd W1 c j ns := by
  have h1 := h.rd.set_far h.cb.hs 0 (.slice sA S.length cc) (by decide) (by decide) (by decide)
  exact h1.below hb
 refine ⟨⟨(far _ (by omega) (by omega)).trans (key _ _ _ _ h.cb.hd (by omega)), (far _ (by omega) (by omega)).trans hs1, (far _ (by omega) (by omega)).trans (key _ _ _ _ h.cb.hr (by omega)), by simpa using blk_set hm2 0 (.int .i64 e.outer)⟩,
  (far _ (by omega) (by omega)).trans (key _ _ _ _ h.res (by omega)), (Below.heap_setCell _ _ _ _ (by show tb ≠ w.heap.size + 1; omega)).trans P0, htb, ?_, own_keep row0 fun q hq => (far q (rowk q hq).2.1 (rowk q hq).2.2).trans (rowk q hq).1, fun e' he => ?_, (hpd1.putT htb1 _ _ _ _).set_far hm2 0 _ (by decide) (by decide) (by decide), ?_⟩
 ·refine (ht.keep (S' := fun q => (w.heap.size + 5 ≤ q ∧ q ≠ tb) ∨ W.heap.size ≤ q) fun b cs f hS hb' => ⟨(far b ?_ ?_).trans hb', hS⟩).more fun b hS => ?_
  ·rcases hS with hS | hS
   ·exact hS.2
   ·omega
  ·have := h.fr.size
   rcases hS with hS | hS <;> omega
  ·have := h.fr.size
   rcases hS with hS | hS
   ·exact hS
   ·exact ⟨by omega, by omega⟩
 ·exact (h.st e' (List.mem_cons_of_mem _ he)).keep fun b cs f hS hb' => ⟨(far b hS.2 (by omega)).trans (key b cs _ f hb' (by omega)), hS⟩
 ·have hsz := h.fr.size
  have low0 : Below c.B w W1 := (h.fr.low.setCell (p := ⟨w.heap.size + 1 + 1 + 1 + 1, 0, none⟩) (by show c.B ≤ w.heap.size + 1 + 1 + 1 + 1; omega) _).trans (hb.mono (by simp; omega))
  refine ⟨(P3 _ _ (by omega) low0).setCell (p := ⟨w.heap.size + 1, 0, none⟩) (by show c.B ≤ w.heap.size + 1; omega) _, fun b cs t m hb' h1 h2 => ?_⟩
  have hl := heap_lt hb'
  exact (far b (by omega) (by omega)).trans (key b cs t m (h.fr.keep b cs t m hb' h1 h2) (by omega))
structure TmK (c : Rdc) (d i j : Nat) (S : List PE) (t : T) (most prio : Int) (ns : List ByteArray) (RS : PR T) : Prop where
 gd : t.good
 gs : ∀ e ∈ S, e.lt.good ∧ nameOk e.nm ∧ c.tn ≤ j + e.f
 nod : i + t.nodes + (S.map fun e => e.lt.nodes + 1).sum ≤ j
 len : S.length + 1 ≤ d
 eq : ∃ f, c.tn ≤ j + f ∧ RS = unw c.tk c.s.size d S (infixC c.tk c.s.size (termP c.tk c.s.size (d - 1 - S.length)) most f t prio j ns)
def stLen (b : Nat) (w : World) : Nat := match w.cell? ⟨b, 0, none⟩ with | some (.slice _ n _) => n | _ => 0
theorem TmM.len_eq {c : Rdc} {w W : World} {D j : Nat} {S : List PE} {t : T} {a0 a1 : Int} {a2 : ByteArray} {a3 : Option Addr} {a4 a5 : Nat} {most : Int} {ns : List ByteArray} {sA : Option Addr} {cc tb : Nat} (h : TmM c w W D j S t a0 a1 a2 a3 a4 a5 most ns sA cc tb) : stLen (w.heap.size + 1 + 1 + 1 + 1) W = S.length := by
 have := h.cb.cells.2.1
 simp [stLen, this]
theorem five_boxes (w W5 : World) (v0 v1 v2 v4 : Value) (z0 z1 z2 z3 : Value) {t0 t1 t2 t3 t4 : TypeId} (h : (((((w.alloc (Obj.cells #[v0] t0)).alloc (Obj.cells #[v1] t1)).alloc (Obj.cells #[v2] t2)).alloc (Obj.cells #[z0, z1, z2, z3] t3)).alloc (Obj.cells #[v4] t4)) = W5) :
 W5.heap.size = w.heap.size + 5 ∧ W5.heap[w.heap.size]? = some (.cells #[v0] t0 (0, 0)) ∧ W5.heap[w.heap.size + 1]? = some (.cells #[v1] t1 (0, 0)) ∧ W5.heap[w.heap.size + 1 + 1]? = some (.cells #[v2] t2 (0, 0)) ∧ W5.heap[w.heap.size + 1 + 1 + 1]? = some (.cells #[z0, z1, z2, z3] t3 (0, 0)) ∧ W5.heap[w.heap.size + 1 + 1 + 1 + 1]? = some (.cells #[v4] t4 (0, 0)) ∧ Below w.heap.size w W5 := by
 subst h
 have st : ∀ (u : World) (o o' : Obj) (g : Nat), u.heap[g]? = some o' → (u.alloc o).heap[g]? = some o' := fun u o o' g h => (Below.heap_alloc _ _ _ (heap_lt h)).trans h
 have nw : ∀ (u : World) (o : Obj) (g : Nat), g = u.heap.size → (u.alloc o).heap[g]? = some o := fun u o g h => heap_at u o h
 exact ⟨by simp, st _ _ _ _ (st _ _ _ _ (st _ _ _ _ (st _ _ _ _ (nw _ _ _ rfl)))), st _ _ _ _ (st _ _ _ _ (st _ _ _ _ (nw _ _ _ (by simp)))), st _ _ _ _ (st _ _ _ _ (nw _ _ _ (by simp))), st _ _ _ _ (nw _ _ _ (by simp)), nw _ _ _ (by simp), belP (belP (belP (belP (belP (Below.refl _ _) _) _) _) _) _⟩
theorem el_info : (Tryz.prog.info? 114).map (fun i => (i.zero, i.size, i.bytes)) = some (some (.agg #[.string ⟨#[]⟩, .int .i64 0, .int .i64 0, .string ⟨#[]⟩, .slice none 0 0, .int .i64 0, .int .i64 0]), 7, 88) := by kernel_rfl
theorem elPend : El Tryz.prog 111 114 (.agg #[.string ⟨#[]⟩, .int .i64 0, .int .i64 0, .string ⟨#[]⟩, .slice none 0 0, .int .i64 0, .int .i64 0]) 7 88 := by
 obtain ⟨i0, hi, hz0, hz1, hz2⟩ := info_parts el_info
 exact ⟨Tryz.underlying111, ⟨i0, hi, hz0, hz1, hz2⟩, rfl, by omega⟩
theorem TmM.put {c : Rdc} {w W : World} {D j : Nat} {S : List PE} {t t' : T} {a0 a1 b0 b1 : Int} {a2 b2 : ByteArray} {a3 b3 : Option Addr} {a4 a5 b4 b5 : Nat} {most : Int} {ns : List ByteArray} {sA : Option Addr} {cc tb : Nat} (h : TmM c w W D j S t a0 a1 a2 a3 a4 a5 most ns sA cc tb) (hB : c.B ≤ w.heap.size)
 (ht : TP W (fun q => w.heap.size + 5 ≤ q ∧ q ≠ tb) t' (.agg #[.int .i64 b0, .int .i64 b1, .string b2, .slice b3 b4 b5])) :
 TmM c w ((((W.setCell ⟨tb, 0, none⟩ (.int .i64 b0)).setCell ⟨tb, 1, none⟩ (.int .i64 b1)).setCell ⟨tb, 2, none⟩ (.string b2)).setCell ⟨tb, 3, none⟩ (.slice b3 b4 b5)) D j S t' b0 b1 b2 b3 b4 b5 most ns sA cc tb := by
 have htb := h.htb
 obtain ⟨P0, P1, P2, P3⟩ := box_put4 h.tbox (.int .i64 b0) (.int .i64 b1) (.string b2) (.slice b3 b4 b5) rfl
 refine ⟨⟨(P2 _ (by omega)).trans h.cb.hd, (P2 _ (by omega)).trans h.cb.hs, (P2 _ (by omega)).trans h.cb.hr, (P2 _ (by omega)).trans h.cb.hm⟩, (P2 _ (by omega)).trans h.res, P0, htb, tp_put h.tbox _ _ _ _ ht fun b hb => hb.2, own_keep h.row fun q hq => ?_, fun e he => tp_put h.tbox _ _ _ _ (h.st e he) fun b hb => hb.2, h.rd.putT h.tbox _ _ _ _, h.fr.put (by omega) hB h.tbox _ _ _ _⟩
 obtain ⟨cs, f, hh⟩ := Go.Lib.ownsRow_kind h.row q hq
 exact P2 q (heap_ne hh h.tbox (by decide))
end Go.Proofs.YtibcpdmeigdgpaaGreatDoor
