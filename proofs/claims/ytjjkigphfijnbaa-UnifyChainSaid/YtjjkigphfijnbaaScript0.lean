/- The walks through coneylaw08's variable, sameInts, great. -/
import Derived.Test.YtjjkigphfijnbaaFails0
import Derived.Test.YtjjkigphfijnbaaSized
import Derived.Test.YtjjkigphfijnbaaRes2
import Derived.Test.YtjjkigphfijnbaaRes3
import Derived.Test.YtjjkigphfijnbaaCmp
namespace Go.Proofs.Ytjjkigphfijnbaa
open Go.RowKit

def varV (n : Int) : Value := .agg #[.int .i64 1, .int .i64 n, .string ⟨#[]⟩, .slice none 0 0]
theorem varV_tp (w : World) (S : Nat → Prop) (n : Int) : TP w S (varT n) (.agg #[.int .i64 1, .int .i64 n, .string ⟨#[]⟩, .slice none 0 0]) := TP.leaf _ _ 1 n ⟨#[]⟩
theorem lvar_any (n : Int) (w : World) : Calls Try.prog 17 #[.int .i64 n] w fun e w' => e = .returned (.agg #[.int .i64 1, .int .i64 n, .string ⟨#[]⟩, .slice none 0 0]) ∧ Below w.heap.size w w' := by
  go_enter Try.func17, Try.ntmps17
  go_wp2_with fail
  exact bodyPost_ret (v := .agg #[.int .i64 1, .int .i64 n, .string ⟨#[]⟩, .slice none 0 0]) (by simp [results, go_sem]) rfl ⟨rfl, (Below.refl _ _).alloc (Nat.le_refl _) _⟩
set_option maxRecDepth 100000 in
set_option maxHeartbeats 4000000 in
theorem lsame_any {ns : List Int} {A B : Option Addr} {c d : Nat} {w : World} (ha : IRow w (.slice A ns.length c) ns) (hb : IRow w (.slice B ns.length d) ns) (hl : ns.length ≤ 1000000) :
    Calls Try.prog 20 #[.slice A ns.length c, .slice B ns.length d] w fun e w' => e = .returned (.bool true) ∧ Below w.heap.size w w' := by
  obtain ⟨_, _, e1, ha1, ha2, hax⟩ := ha.open_
  injection e1 with e1 _ e2
  subst e1; subst e2
  obtain ⟨_, _, e1, hb1, hb2, hbx⟩ := hb.open_
  injection e1 with e1 _ e2
  subst e1; subst e2
  have HA := Lib.hid hax
  have HB := Lib.hid hbx
  have hnn : ((ns.length : Int) != (ns.length : Int)) = false := by simp
  clear hax hbx ha hb ha2 hb2
  go_enter Try.func20, Try.ntmps20
  go_wp2_with fail
  go_loopw [5] (fun iv wr => ∃ i : Nat, iv = .int .i64 (i : Int) ∧ i ≤ ns.length ∧ Below w.heap.size w wr) (fun iv _ => ns.length - (intOf iv).toNat)
  case atStart => exact ⟨0, rfl, Nat.zero_le _, Below.refl _ _⟩
  case round =>
    obtain ⟨i, rfl, hi, hb⟩ := hrel
    have HW := Lib.hid hb
    clear hb
    by_cases him : i < ns.length
    · have him' : (i : Int) < (ns.length : Int) := by omega
      obtain ⟨x, hx⟩ : ∃ x, ns[i]? = some x := ⟨_, List.getElem?_eq_getElem him⟩
      obtain ⟨ga, rfl, hgl, ca⟩ := HA.out i x hx
      obtain ⟨gb, rfl, hgl', cb⟩ := HB.out i x hx
      have da := (HW.out.cell (p := ⟨ga, i, none⟩) hgl).trans ca
      have db := (HW.out.cell (p := ⟨gb, i, none⟩) hgl').trans cb
      have hxx : (x != x) = false := by simp
      have hl0 : (0 : Int) ≤ (i : Int) := by omega
      clear ca cb hx
      go_wp2_with fail
      go_quiet (fail)
      go_wp2_with fail
      go_roundw
      case rel => exact ⟨i + 1, by go_num, him, bel_drewN HW.out _⟩
      case measure => simp [intOf]; omega
    · have him' : ¬ (i : Int) < (ns.length : Int) := by omega
      go_wp2_with fail
      go_ret
      exact ⟨rfl, HW.out⟩
/-- A truth value, whichever. -/
def SomeB (w : World) (e : Ending) (w' : World) : Prop := (∃ b : Bool, e = .returned (.bool b)) ∧ Below w.heap.size w w'
set_option maxRecDepth 100000 in
set_option maxHeartbeats 4000000 in
theorem lgreat_any {w : World} {rb : Nat} {L : Bs} (h : RB w rb L) :
    Calls Try.prog 21 #[.pointer (some ⟨rb, 0, none⟩)] w fun e w' => SomeB w e w' := by
  have H := Lib.hid h
  clear h
  go_enter Try.func21, Try.ntmps21
  go_wp2_with fail
  go_loopw [3] (fun iv wr => ∃ i : Nat, iv = .int .i64 (i : Int) ∧ i ≤ 24 ∧ Below w.heap.size w wr) (fun iv _ => 24 - (intOf iv).toNat)
  case atStart => exact ⟨0, rfl, Nat.zero_le _, Below.refl _ _⟩
  case round =>
    obtain ⟨i, rfl, hi, hb⟩ := hrel
    have HW := Lib.hid hb
    clear hb
    by_cases him : i < 24
    · have him' : (i : Int) < 24 := by omega
      go_wp2_with fail
      refine (lvar_any (i : Int) _).mono ?_
      rintro e w5 ⟨rfl, h5⟩
      have H5 := Lib.hid (HW.out.trans (h5.mono HW.out.size))
      clear h5
      obtain ⟨⟨A, c, h1, h2⟩, h3⟩ := H.out.below H5.out
      have CI := Lib.hid (rsize_any h1 h2 h3 (varV_tp w5 _ (i : Int)) (varT_ok (by omega) (by omega)))
      clear h1 h2 h3
      go_wp2_with fail
      refine CI.out.mono ?_
      rintro e w6 ⟨⟨z, rfl⟩, h6⟩
      have H6 := Lib.hid (H5.out.trans (h6.mono H5.out.size))
      clear h6
      by_cases hz : 200 < z
      · go_wp2_with fail
        go_ret
        exact ⟨⟨_, rfl⟩, H6.out⟩
      · go_wp2_with fail
        go_roundw
        case rel => exact ⟨i + 1, by go_num, him, H6.out⟩
        case measure => simp [intOf]; omega
    · have him' : ¬ (i : Int) < 24 := by omega
      go_wp2_with fail
      go_ret
      exact ⟨⟨_, rfl⟩, HW.out⟩
end Go.Proofs.Ytjjkigphfijnbaa
