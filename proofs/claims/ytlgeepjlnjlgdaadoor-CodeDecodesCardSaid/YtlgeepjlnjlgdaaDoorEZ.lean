/- What instructions tell of themselves: plain. The walks through coneyref11.Text, Slots. -/
import Derived.Test.YtlgeepjlnjlgdaaDoorEH
import Derived.Test.YtlgeepjlnjlgdaaDoorEG
import Derived.Lib.ItoaNum
import Derived.Lib.ItoaLen
import Derived.Test.YtlgeepjlnjlgdaaDoorEI
import Derived.Test.YtlgeepjlnjlgdaaDoorER
import Derived.Test.YtlgeepjlnjlgdaaDoorED
namespace Go.Proofs.YtlgeepjlnjlgdaaDoor
open Go.RowKit

def lineL (x : Ins) : List UInt8 :=
  if x.o = 1 then [104, 101, 97, 100, 32] ++ Lib.itoa x.a
  else if x.o = 2 then [102, 105, 114, 115, 116, 32] ++ Lib.itoa x.a
  else if x.o = 3 then [97, 103, 97, 105, 110, 32] ++ Lib.itoa x.a
  else if x.o = 4 then [105, 110, 116, 32] ++ Lib.itoa x.a
  else if x.o = 5 then [97, 116, 111, 109, 32] ++ (quoteN x.s).data.toList
  else if x.o = 6 then [99, 109, 112, 32] ++ (quoteN x.s).data.toList ++ [32] ++ Lib.itoa x.a
  else if x.o = 7 then [103, 111, 97, 108]
  else if x.o = 8 then [100, 111, 110, 101]
  else [63]
def textL (l : List Ins) : List UInt8 := l.flatMap fun x => lineL x ++ [10]
theorem textL_snoc (l : List Ins) (x : Ins) : textL (l ++ [x]) = textL l ++ lineL x ++ [10] := by simp [textL]
theorem quote_size {s : ByteArray} : (quoteN s).size ≤ 2 * s.size + 2 := by
  unfold quoteN
  cases plainN s with
  | true => rw [if_pos rfl]; omega
  | false =>
    rw [if_neg (by decide)]
    cases he : escN s.data.toList with
    | none => exact Nat.zero_le _
    | some x =>
      have := escN_len _ _ he
      have h9 : s.data.toList.length = s.size := by rw [Array.length_toList]; rfl
      show (39 :: (x ++ [39])).toArray.size ≤ _
      simp
      omega
theorem lineL_len {x : Ins} (ha : I64 x.a) (hs : x.s.size ≤ 4096) : (lineL x).length ≤ 8230 := by
  have h1 := Lib.itoa_length_le x.a ha.1 ha.2
  have h2 := quote_size (s := x.s)
  have h3 : (quoteN x.s).data.toList.length = (quoteN x.s).size := by rw [Array.length_toList]; rfl
  unfold lineL
  repeat' split
  all_goals
    simp only [List.length_append, List.length_cons, List.length_nil]
    omega
theorem textL_len {l : List Ins} (h : ∀ x ∈ l, I64 x.a ∧ x.s.size ≤ 4096) : (textL l).length ≤ 8231 * l.length := by
  induction l with
  | nil => exact Nat.le_refl _
  | cons x l ih =>
    have h1 := ih fun y hy => h y (List.mem_cons_of_mem _ hy)
    have h2 := lineL_len (h x List.mem_cons_self).1 (h x List.mem_cons_self).2
    show ((lineL x ++ [10]) ++ textL l).length ≤ _
    rw [List.length_append, List.length_append, List.length_cons]
    simp only [List.length_cons, List.length_nil]
    omega
end Go.Proofs.YtlgeepjlnjlgdaaDoor
namespace Go.Proofs.YtlgeepjlnjlgdaaDoor
open Go.RowKit

theorem cat_list (a b : ByteArray) : (a ++ b).data.toList = a.data.toList ++ b.data.toList := by simp
theorem str_of {t : ByteArray} {l : List UInt8} (h : t.data.toList = l) : t = ⟨l.toArray⟩ := by
  subst h
  rfl
set_option maxRecDepth 100000 in
set_option maxHeartbeats 8000000 in
theorem rtext_any {l : List Ins} (w : World) {va : Value} {B : Nat} (ha : GRw w B va l) (hfew : l.length ≤ 6000) (hin : ∀ x ∈ l, I64 x.a ∧ x.s.size ≤ 4096) :
    Calls Tryd.prog 10 #[va] w fun e w' => e = .returned (.string ⟨(textL l).toArray⟩) ∧ Below w.heap.size w w' := by
  have OA := Lib.hid ha
  have HIN := Lib.hid hin
  obtain ⟨A, c, rfl, _, _, _, _⟩ := GRw.open4 ha
  clear ha hin
  go_enter Tryd.func10, Tryd.ntmps10
  go_wp2_with fail
  go_loopw [3, 4] (fun sv iv wr => ∃ (i : Nat) (t : ByteArray), sv = .string t ∧ iv = .int .i64 (i : Int) ∧ i ≤ l.length ∧ Hid (t.data.toList = textL (l.take i)) ∧ Below w.heap.size w wr) (fun _ iv _ => l.length - (intOf iv).toNat)
  case atStart => exact ⟨0, ⟨#[]⟩, rfl, rfl, Nat.zero_le _, Lib.hid rfl, Below.refl _ _⟩
  case round =>
    obtain ⟨i, t, rfl, rfl, hi, HT, hbw⟩ := hrel
    have BW := Lib.hid hbw
    have OA' := Lib.hid (OA.out.below hbw)
    have hts : t.size ≤ 49386000 := by
      have h1 := textL_len (l := l.take i) fun x hx => HIN.out x (List.mem_of_mem_take hx)
      have h2 : (l.take i).length ≤ i := by rw [List.length_take]; omega
      have h3 : t.data.toList.length = t.size := by rw [Array.length_toList]; rfl
      rw [HT.out] at h3
      omega
    clear hbw
    by_cases hil : i < l.length
    · have hil' : (i : Int) < (l.length : Int) := by omega
      obtain ⟨g, og, rfl, hg, hcell⟩ := grow OA'.out rfl hil
      obtain ⟨x, hx⟩ : ∃ x, l[i]'hil = x := ⟨_, rfl⟩
      rw [hx] at hcell
      have h0 := hcell 0 (by omega)
      have h1 := hcell 1 (by omega)
      have h2 := hcell 2 (by omega)
      simp [Ins.cells] at h0 h1 h2
      have HX := Lib.hid (HIN.out x (hx ▸ List.getElem_mem hil))
      have TS := Lib.hid (show textL (l.take (i + 1)) = textL (l.take i) ++ lineL x ++ [10] by rw [List.take_succ_eq_append_getElem hil, textL_snoc, hx])
      obtain ⟨xo, xa, xs⟩ := x
      have FIN := Lib.hid (show ∀ (u : ByteArray), u.data.toList = lineL ⟨xo, xa, xs⟩ → ∀ v : ByteArray, v.data.toList = t.data.toList ++ (u.data.toList ++ [10]) → v.data.toList = textL (l.take (i + 1)) from fun u hu v hv => by
        rw [hv, hu, HT.out, TS.out, List.append_assoc])
      have CP := Lib.hid (fun W => rprint_any xa W HX.out.1.1 HX.out.1.2)
      have CQ := Lib.hid (fun W => rquote_any xs HX.out.2 W)
      have hxs := HX.out.2
      have hqs := quote_size (s := xs)
      clear hcell hx
      go_wp2_with fail
      refine (CP.out _).mono ?_
      rintro e w1 ⟨⟨tn, rfl, htn⟩, rfl⟩
      have HN := Lib.hid htn
      have htn2 : tn.size ≤ 21 := by
        have h3 : tn.data.toList.length = tn.size := by rw [Array.length_toList]; rfl
        rw [htn] at h3
        have := Lib.itoa_length_le xa HX.out.1.1 HX.out.1.2
        omega
      clear htn
      by_cases c1 : xo = 1
      · subst c1
        have HL := Lib.hid (show lineL ⟨1, xa, xs⟩ = [104, 101, 97, 100, 32] ++ Lib.itoa xa from rfl)
        go_wp2_with fail
        go_roundw
        case rel => exact ⟨i + 1, _, rfl, by go_num, by omega, Lib.hid (FIN.out (⟨#[104, 101, 97, 100]⟩ ++ ⟨#[32]⟩ ++ tn) (by rw [HL.out, cat_list, cat_list, HN.out]; rfl) _ (by simp)), BW.out.alloc BW.out.size _⟩
        case measure => simp [intOf]; omega
      by_cases c2 : xo = 2
      · subst c2
        have HL := Lib.hid (show lineL ⟨2, xa, xs⟩ = [102, 105, 114, 115, 116, 32] ++ Lib.itoa xa from rfl)
        go_wp2_with fail
        go_roundw
        case rel => exact ⟨i + 1, _, rfl, by go_num, by omega, Lib.hid (FIN.out (⟨#[102, 105, 114, 115, 116]⟩ ++ ⟨#[32]⟩ ++ tn) (by rw [HL.out, cat_list, cat_list, HN.out]; rfl) _ (by simp)), BW.out.alloc BW.out.size _⟩
        case measure => simp [intOf]; omega
      by_cases c3 : xo = 3
      · subst c3
        have HL := Lib.hid (show lineL ⟨3, xa, xs⟩ = [97, 103, 97, 105, 110, 32] ++ Lib.itoa xa from rfl)
        go_wp2_with fail
        go_roundw
        case rel => exact ⟨i + 1, _, rfl, by go_num, by omega, Lib.hid (FIN.out (⟨#[97, 103, 97, 105, 110]⟩ ++ ⟨#[32]⟩ ++ tn) (by rw [HL.out, cat_list, cat_list, HN.out]; rfl) _ (by simp)), BW.out.alloc BW.out.size _⟩
        case measure => simp [intOf]; omega
      by_cases c4 : xo = 4
      · subst c4
        have HL := Lib.hid (show lineL ⟨4, xa, xs⟩ = [105, 110, 116, 32] ++ Lib.itoa xa from rfl)
        go_wp2_with fail
        go_roundw
        case rel => exact ⟨i + 1, _, rfl, by go_num, by omega, Lib.hid (FIN.out (⟨#[105, 110, 116]⟩ ++ ⟨#[32]⟩ ++ tn) (by rw [HL.out, cat_list, cat_list, HN.out]; rfl) _ (by simp)), BW.out.alloc BW.out.size _⟩
        case measure => simp [intOf]; omega
      by_cases c5 : xo = 5
      · subst c5
        have HL := Lib.hid (show lineL ⟨5, xa, xs⟩ = [97, 116, 111, 109, 32] ++ (quoteN xs).data.toList from rfl)
        go_wp2_with fail
        refine (CQ.out _).mono ?_
        rintro e w2 ⟨rfl, hb2⟩
        have B2 := Lib.hid (BW.out.trans (((Below.refl _ _).alloc (Nat.le_refl _) _ |>.trans (hb2.mono (by simp))).mono BW.out.size))
        clear hb2
        go_wp2_with fail
        go_roundw
        case rel => exact ⟨i + 1, _, rfl, by go_num, by omega, Lib.hid (FIN.out (⟨#[97, 116, 111, 109, 32]⟩ ++ quoteN xs) (by rw [HL.out, cat_list]) _ (by simp)), B2.out⟩
        case measure => simp [intOf]; omega
      by_cases c6 : xo = 6
      · subst c6
        have HL := Lib.hid (show lineL ⟨6, xa, xs⟩ = [99, 109, 112, 32] ++ (quoteN xs).data.toList ++ [32] ++ Lib.itoa xa from rfl)
        go_wp2_with fail
        refine (CQ.out _).mono ?_
        rintro e w2 ⟨rfl, hb2⟩
        have B2 := Lib.hid (BW.out.trans (((Below.refl _ _).alloc (Nat.le_refl _) _ |>.trans (hb2.mono (by simp))).mono BW.out.size))
        clear hb2
        go_wp2_with fail
        go_roundw
        case rel => exact ⟨i + 1, _, rfl, by go_num, by omega, Lib.hid (FIN.out (⟨#[99, 109, 112, 32]⟩ ++ quoteN xs ++ ⟨#[32]⟩ ++ tn) (by rw [HL.out, cat_list, cat_list, cat_list, HN.out]) _ (by simp)), B2.out⟩
        case measure => simp [intOf]; omega
      by_cases c7 : xo = 7
      · subst c7
        have HL := Lib.hid (show lineL ⟨7, xa, xs⟩ = [103, 111, 97, 108] from rfl)
        go_wp2_with fail
        go_roundw
        case rel => exact ⟨i + 1, _, rfl, by go_num, by omega, Lib.hid (FIN.out ⟨#[103, 111, 97, 108]⟩ HL.out.symm _ (by simp)), BW.out.alloc BW.out.size _⟩
        case measure => simp [intOf]; omega
      by_cases c8 : xo = 8
      · subst c8
        have HL := Lib.hid (show lineL ⟨8, xa, xs⟩ = [100, 111, 110, 101] from rfl)
        go_wp2_with fail
        go_roundw
        case rel => exact ⟨i + 1, _, rfl, by go_num, by omega, Lib.hid (FIN.out ⟨#[100, 111, 110, 101]⟩ HL.out.symm _ (by simp)), BW.out.alloc BW.out.size _⟩
        case measure => simp [intOf]; omega
      have e1 : (xo == 1) = false := by simp; omega
      have e2 : (xo == 2) = false := by simp; omega
      have e3 : (xo == 3) = false := by simp; omega
      have e4 : (xo == 4) = false := by simp; omega
      have e5 : (xo == 5) = false := by simp; omega
      have e6 : (xo == 6) = false := by simp; omega
      have e7 : (xo == 7) = false := by simp; omega
      have e8 : (xo == 8) = false := by simp; omega
      have HL := Lib.hid (show lineL ⟨xo, xa, xs⟩ = [63] by unfold lineL; rw [if_neg c1, if_neg c2, if_neg c3, if_neg c4, if_neg c5, if_neg c6, if_neg c7, if_neg c8])
      clear c1 c2 c3 c4 c5 c6 c7 c8
      go_wp2_with fail
      go_roundw
      case rel => exact ⟨i + 1, _, rfl, by go_num, by omega, Lib.hid (FIN.out ⟨#[63]⟩ HL.out.symm _ (by simp)), BW.out.alloc BW.out.size _⟩
      case measure => simp [intOf]; omega
    · have H1 := Lib.hid (show t = ⟨(textL l).toArray⟩ by
        refine str_of ?_
        rw [HT.out, List.take_of_length_le (by omega)])
      go_wp2_with fail
      go_ret
      exact ⟨by rw [H1.out]; rfl, BW.out⟩
set_option maxHeartbeats 4000000 in
set_option maxRecDepth 100000 in
theorem rslots_any {l : List Ins} (w : World) {va : Value} {B : Nat} (ha : GRw w B va l) (hfew : l.length ≤ 100000) :
    Calls Tryd.prog 12 #[va] w fun e w' => e = .returned (.int .i64 ((countO 2 l : Nat) : Int)) ∧ Below w.heap.size w w' := by
  have OA := Lib.hid ha
  obtain ⟨A, c, rfl, _, _, _, _⟩ := GRw.open4 ha
  clear ha
  go_enter Tryd.func12, Tryd.ntmps12
  go_wp2_with fail
  go_loopw [3, 4] (fun nv iv wr => ∃ i : Nat, nv = .int .i64 ((countO 2 (l.take i) : Nat) : Int) ∧ iv = .int .i64 (i : Int) ∧ i ≤ l.length ∧ Below w.heap.size w wr) (fun _ iv _ => l.length - (intOf iv).toNat)
  case atStart => exact ⟨0, rfl, rfl, Nat.zero_le _, Below.refl _ _⟩
  case round =>
    obtain ⟨i, rfl, rfl, hi, hbw⟩ := hrel
    have BW := Lib.hid hbw
    have OA' := Lib.hid (OA.out.below hbw)
    clear hbw
    have hcn : countO 2 (l.take i) ≤ 100000 := by
      have h1 : (l.take i).length ≤ i := by rw [List.length_take]; omega
      have h2 : countO 2 (l.take i) ≤ (l.take i).length := List.length_filter_le _ _
      omega
    by_cases hil : i < l.length
    · have hil' : (i : Int) < (l.length : Int) := by omega
      obtain ⟨g, og, rfl, hg, hcell⟩ := grow OA'.out rfl hil
      obtain ⟨x, hx⟩ : ∃ x, l[i]'hil = x := ⟨_, rfl⟩
      rw [hx] at hcell
      have h0 := hcell 0 (by omega)
      have h1 := hcell 1 (by omega)
      have h2 := hcell 2 (by omega)
      simp [Ins.cells] at h0 h1 h2
      have HT := Lib.hid (show countO 2 (l.take (i + 1)) = countO 2 (l.take i) + countO 2 [x] by rw [List.take_succ_eq_append_getElem hil, countO_app, hx])
      clear hcell hx
      obtain ⟨n, hn⟩ : ∃ n, countO 2 (l.take i) = n := ⟨_, rfl⟩
      rw [hn] at HT hcn
      rw [hn]
      clear hn
      cases h2' : (x.o == 2) with
      | true =>
        have H1 := Lib.hid (show countO 2 [x] = 1 by simp [countO, h2'])
        go_wp2_with fail
        go_roundw
        case rel => exact ⟨i + 1, by rw [HT.out, H1.out]; go_num, by go_num, by omega, BW.out⟩
        case measure => simp [intOf]; omega
      | false =>
        have H1 := Lib.hid (show countO 2 [x] = 0 by simp [countO, h2'])
        go_wp2_with fail
        go_roundw
        case rel => exact ⟨i + 1, by rw [HT.out, H1.out]; rfl, by go_num, by omega, BW.out⟩
        case measure => simp [intOf]; omega
    · have hi2 : i = l.length := by omega
      have H1 := Lib.hid (show l.take i = l by rw [hi2, List.take_length])
      rw [H1.out] at hcn ⊢
      clear hi2
      go_wp2_with fail
      go_ret
      exact ⟨rfl, BW.out⟩
end Go.Proofs.YtlgeepjlnjlgdaaDoor
