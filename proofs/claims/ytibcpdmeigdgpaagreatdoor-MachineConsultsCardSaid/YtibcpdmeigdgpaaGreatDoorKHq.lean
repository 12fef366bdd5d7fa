/- The program's lexer: a byte's class; what 'while' takes. The program's lexer: the scanner in memory; 'while'. The program's lexer: 'skip'. strings.Builder: what its writing methods do (the shelf's contracts are not laid where the dump has left out copyCheck's panic: walked anew, over the shelf's own words). The program's lexer: a quoted atom. -/
import Derived.Test.YtibcpdmeigdgpaaGreatDoorKLex4
import Derived.Test.YtibcpdmeigdgpaaGreatDoorKShelf
import Derived.Deep.RegionLaw
import Derived.WalkMore
import Derived.Deep.LoopGhost
import Derived.Deep.RegionHeld3
import Derived.Test.YtibcpdmeigdgpaaGreatDoorKHe
import Derived.WalkLawsBesides
import Derived.Test.YtibcpdmeigdgpaaGreatDoorKGa
import Derived.Lib.Builder
import Derived.Lib.AppendStr
import Derived.Lib.UnsafeStr
import Derived.WalkKit
import Derived.Laws.Externs
import Derived.Lib.Hide
namespace Go.Proofs.YtibcpdmeigdgpaaGreatDoor
open Go.RowKit
def ofN (c : Int) : Int :=
 if smallB c then 1 else if greatB c then 2 else if digitB c then 3 else if signB c then 4 else if blankB c then 5 else if c == 33 || c == 59 then 6 else if markB c then 7 else if c == 39 then 8 else 0
theorem idx_sign : ∀ n : Nat, n < 256 → decide (0 ≤ Lib.indexByte [43, 45, 42, 47, 92, 94, 60, 62, 61, 58, 46, 63, 64, 35, 36, 38, 126] (n : Int).toNat.toUInt8) = signB (n : Int) := by decide +kernel
theorem idx_mark : ∀ n : Nat, n < 256 → decide (0 ≤ Lib.indexByte [40, 41, 91, 93, 123, 125, 44, 124] (n : Int).toNat.toUInt8) = markB (n : Int) := by decide +kernel
set_option maxRecDepth 100000 in
set_option maxHeartbeats 4000000 in
theorem of_any (n : Nat) (hn : n < 256) (w : World) : Calls Tryz.prog 57 #[.int .u8 (n : Int)] w fun e w' => e = .returned (.int .i64 (ofN n)) ∧ w' = w := by
 have hs := idx_sign n hn
 have hm := idx_mark n hn
 obtain ⟨vs, hvs⟩ : ∃ v, Lib.indexByte [43, 45, 42, 47, 92, 94, 60, 62, 61, 58, 46, 63, 64, 35, 36, 38, 126] (n : Int).toNat.toUInt8 = v := ⟨_, rfl⟩
 obtain ⟨vm, hvm⟩ : ∃ v, Lib.indexByte [40, 41, 91, 93, 123, 125, 44, 124] (n : Int).toNat.toUInt8 = v := ⟨_, rfl⟩
 rw [hvs] at hs
 rw [hvm] at hm
 obtain ⟨c, hc⟩ : ∃ c : Int, c = (n : Int) := ⟨_, rfl⟩
 rw [← hc] at hs hm ⊢
 have CS := Lib.hid (Tryz.strings_IndexByte ⟨#[43, 45, 42, 47, 92, 94, 60, 62, 61, 58, 46, 63, 64, 35, 36, 38, 126]⟩ c w)
 have CM := Lib.hid (Tryz.strings_IndexByte ⟨#[40, 41, 91, 93, 123, 125, 44, 124]⟩ c w)
 have h1 : Lib.indexByte (⟨#[43, 45, 42, 47, 92, 94, 60, 62, 61, 58, 46, 63, 64, 35, 36, 38, 126]⟩ : ByteArray).data.toList c.toNat.toUInt8 = vs := by rw [hc]; exact hvs
 have h2 : Lib.indexByte (⟨#[40, 41, 91, 93, 123, 125, 44, 124]⟩ : ByteArray).data.toList c.toNat.toUInt8 = vm := by rw [hc]; exact hvm
 rw [h1] at CS
 rw [h2] at CM
 clear h1 h2 hvs hvm hc
 have HS := Lib.hid hs
 have HM := Lib.hid hm
 clear hs hm
 go_enter Tryz.func57, Tryz.ntmps57
 go_wp2_with (first | (refine CS.out.mono ?_; rintro e w1 ⟨rfl, rfl⟩) | (refine CM.out.mono ?_; rintro e w1 ⟨rfl, rfl⟩))
 all_goals
  go_ret
  refine ⟨?_, rfl⟩
  refine congrArg (fun x => Ending.returned (Value.int .i64 x)) ?_
  have hs := HS.out.symm
  have hm := HM.out.symm
  unfold ofN
  rw [hs, hm]
  clear HS HM CS CM hs hm
  simp only [beq_iff_eq, beq_eq_false_iff_ne, ne_eq] at *
  simp only [smallB, greatB, digitB, blankB, Bool.and_eq_true, Bool.or_eq_true, decide_eq_true_eq, beq_iff_eq]
  repeat' split
  all_goals first | rfl | (exfalso; omega)
end Go.Proofs.YtibcpdmeigdgpaaGreatDoor
namespace Go.Proofs.YtibcpdmeigdgpaaGreatDoor
open Go.RowKit
def Sc (w : World) (X : Nat) (s : ByteArray) (k : Nat) (v : Value) : Prop := w.heap[X]? = some (.cells #[.string s, .int .i64 (k : Int), v] 90 (0, 0))
structure OnX (X : Nat) (w w' : World) : Prop where
 low : Below X w w'
 far : ∀ b, b < w.heap.size → b ≠ X → w'.heap[b]? = w.heap[b]?
theorem OnX.refl (X : Nat) (w : World) : OnX X w w := ⟨Below.refl _ _, fun _ _ _ => rfl⟩
theorem OnX.trans {X : Nat} {a b c : World} (h : OnX X a b) (k : OnX X b c) : OnX X a c := ⟨h.low.trans k.low, fun g hg hx => (k.far g (Nat.lt_of_lt_of_le hg h.low.size) hx).trans (h.far g hg hx)⟩
theorem OnX.drew {X : Nat} {a b : World} (h : OnX X a b) : OnX X a b.drew := ⟨h.low.drew, h.far⟩
theorem OnX.below {X : Nat} {a b : World} (hX : X < a.heap.size) (h : Below a.heap.size a b) : OnX X a b := ⟨h.mono (Nat.le_of_lt hX), fun g hg _ => h.block g hg⟩
theorem OnX.cell {X : Nat} {a b : World} (h : OnX X a b) {p : Addr} {u : Value} (hp : p.block ≠ X) (hc : a.cell? p = some u) : b.cell? p = some u := by
 have hl := World.block_lt_of_cell? a p hc
 rw [World.cell?_of_block (h.far _ hl hp)]
 exact hc
theorem Sc.lt {w : World} {X : Nat} {s : ByteArray} {k : Nat} {v : Value} (h : Sc w X s k v) : X < w.heap.size := heap_lt h
theorem Sc.cells {w : World} {X : Nat} {s : ByteArray} {k : Nat} {v : Value} (h : Sc w X s k v) : w.cell? ⟨X, 0, none⟩ = some (.string s) ∧ w.cell? ⟨X, 1, none⟩ = some (.int .i64 (k : Int)) ∧ w.cell? ⟨X, 2, none⟩ = some v ∧ (∀ i, w.frozen? ⟨X, i, none⟩ = false) :=
 ⟨cell_of_row w X 0 _ _ _ h, cell_of_row w X 1 _ _ _ h, cell_of_row w X 2 _ _ _ h, fun i => by simp [World.frozen?, show w.heap[X]? = _ from h]⟩
theorem Sc.at_ {w : World} {X : Nat} {s : ByteArray} {k : Nat} {v : Value} (h : Sc w X s k v) (j : Nat) : Sc (w.setCell ⟨X, 1, none⟩ (.int .i64 (j : Int))) X s j v ∧ OnX X w (w.setCell ⟨X, 1, none⟩ (.int .i64 (j : Int))) :=
 ⟨by simpa [Sc] using blk_set h 1 (.int .i64 (j : Int)), ⟨(Below.refl _ _).setCell (p := ⟨X, 1, none⟩) (Nat.le_refl _) _, fun g _ hg => Below.heap_setCell _ _ _ _ hg⟩⟩
theorem Sc.drew {w : World} {X : Nat} {s : ByteArray} {k : Nat} {v : Value} (h : Sc w X s k v) : Sc w.drew X s k v := h
theorem Sc.below {w w' : World} {X : Nat} {s : ByteArray} {k : Nat} {v : Value} (h : Sc w X s k v) (hb : Below w.heap.size w w') : Sc w' X s k v := (hb.block X h.lt).trans h
def oneOf (cs : List Int) (c : Int) : Bool := cs.any fun k => c == k
set_option maxHeartbeats 8000000 in
set_option maxRecDepth 100000 in
theorem while_any (K : Int) (cs : List Int) (hcs : ∀ n : Nat, n < 256 → oneOf cs (ofN n) = kindB K n) (s : ByteArray) (hs : s.size ≤ 100000) {w : World} {X b k : Nat} {v : Value} (h : Sc w X s k v) (hk : k ≤ s.size)
 (hbX : b ≠ X) (hbl : b < w.heap.size) (hm : cs.length ≤ 10) (hc : ∀ (i : Nat) (u : Int), cs[i]? = some u → w.cell? ⟨b, i, none⟩ = some (.int .i64 u)) :
 Calls Tryz.prog 60 #[.pointer (some ⟨X, 0, none⟩), .slice (some ⟨b, 0, none⟩) cs.length cs.length] w fun e w' =>
  e = .returned (.string (s.extract k (runN K s k))) ∧ Sc w' X s (runN K s k) v ∧ OnX X w w' := by
 have hb : ∀ (i : Nat) (h : i < s.size), (s[i]'h).toNat = bn s i := bn_eq s
 obtain ⟨m, hmm⟩ : ∃ m, m = cs.length := ⟨_, rfl⟩
 rw [← hmm]
 have HM := Lib.hid hmm
 have hm10 : m ≤ 10 := by omega
 have HC := Lib.hid hc
 have HCS := Lib.hid hcs
 have HS := Lib.hid h
 have HBX := Lib.hid hbX
 have hX := h.lt
 obtain ⟨x0, x1, x2, xf⟩ := h.cells
 clear hc hcs h hmm hm hbX
 go_enter Tryz.func60, Tryz.ntmps60
 go_wp2_with fail
 go_step3
 go_wp2_with fail
 go_step3
 go_wp2_with fail
 go_loopg [] (s.size - k) (fun g wr => ∃ j, j + g = s.size ∧ k ≤ j ∧ runN K s k = runN K s j ∧ Sc wr X s j v ∧ OnX X w wr)
 case atStart => exact ⟨k, by omega, Nat.le_refl _, rfl, HS.out, OnX.refl _ _⟩
 case round =>
  obtain ⟨j, hjg, hkj, hr, hsc, hon⟩ := hrel
  have HR := Lib.hid hr
  have SC := Lib.hid hsc
  have ON := Lib.hid hon
  have hXr := hsc.lt
  obtain ⟨y0, y1, y2, yf⟩ := hsc.cells
  clear hr hsc hon x0 x1 x2 xf
  by_cases hj : j < s.size
  ·have hj' : (j : Int) < (s.size : Int) := by omega
   have Y := Lib.hid (And.intro y0 y1)
   have CO := Lib.hid (fun W => of_any (bn s j) (bn_lt s j) W)
   obtain ⟨cv, hcv⟩ : ∃ cv, cv = ofN (bn s j) := ⟨_, rfl⟩
   rw [← hcv] at CO
   have HCV := Lib.hid hcv
   clear hcv
   go_wp2_with fail
   go_region
   go_wp2_with fail
   go_region_held3 (fun w' => w'.cell? ⟨X, 0, none⟩ = some (.string s) ∧ w'.cell? ⟨X, 1, none⟩ = some (.int .i64 (j : Int)))
    ((exact Y.out))
    ((go_at_call 57; (with_reducible refine (CO.out _).mono ?_); rintro e w1 ⟨rfl, rfl⟩))
   go_wp2_with fail
   obtain ⟨g0, hg0⟩ : ∃ g0, gk = g0 + 1 := ⟨gk - 1, by omega⟩
   clear y0 y1 y2 yf
   go_loopg [35] m (fun g iv w2 => ∃ i : Nat, i + g = m ∧ iv = .int .i64 (i : Int) ∧ (∀ (x : Nat) (u : Int), x < i → cs[x]? = some u → (cv == u) = false) ∧ Sc w2 X s j v ∧ OnX X w w2)
   case atStart => exact ⟨0, by omega, rfl, fun x u hx => absurd hx (by omega), SC.out, ON.out.drew.drew⟩
   case round =>
    clear SC ON Y CO
    obtain ⟨i, hig, rfl, hno, hsc, hon⟩ := hrel
    have NO := Lib.hid hno
    have SC := Lib.hid hsc
    have ON := Lib.hid hon
    have hXr := hsc.lt
    obtain ⟨y0, y1, y2, yf⟩ := hsc.cells
    have hbr := Nat.lt_of_lt_of_le hbl hon.low.size
    clear hno hsc hon
    by_cases hi : i < m
    ·have hi' : (i : Int) < (m : Int) := by omega
     obtain ⟨u, hu⟩ : ∃ u, cs[i]? = some u := ⟨_, List.getElem?_eq_getElem (by have := HM.out; omega)⟩
     have c0 := ON.out.cell (p := ⟨b, i, none⟩) HBX.out (HC.out i u hu)
     have HU := Lib.hid hu
     clear hu
     cases he : (cv == u)
     ·go_wp2_with fail
      go_roundg (gk - 1)
      case measure => omega
      case rel =>
       refine ⟨i + 1, by omega, by go_num, fun x z hx hz => ?_, SC.out, ON.out⟩
       by_cases hxi : x = i
       ·subst hxi
        rw [HU.out] at hz
        injection hz with hz
        subst hz
        exact he
       ·exact NO.out x z (by omega) hz
     ·have hk2 : kindB K (bn s j) = true := by
       rw [← HCS.out _ (bn_lt s j), ← HCV.out]
       exact List.any_eq_true.2 ⟨u, List.mem_of_getElem? HU.out, he⟩
      have s2 := SC.out.at_ (j + 1)
      rw [show ((j + 1 : Nat) : Int) = (j : Int) + 1 from by omega] at s2
      have S2 := Lib.hid s2
      clear s2
      have HR2 := Lib.hid (HR.out.trans (runN_step hj hk2))
      clear hk2
      go_wp2_with fail
      go_roundg g0
      case measure => omega
      case rel => exact ⟨j + 1, by omega, by omega, HR2.out, S2.out.1, ON.out.trans S2.out.2⟩
    ·have hk2 : kindB K (bn s j) = false := by
      rw [← HCS.out _ (bn_lt s j), ← HCV.out]
      refine Bool.eq_false_iff.2 fun h => ?_
      obtain ⟨u, hu, he⟩ := List.any_eq_true.1 h
      obtain ⟨x, hx⟩ := List.getElem?_of_mem hu
      have hxl : x < cs.length := by
       rcases Nat.lt_or_ge x cs.length with h1 | h1
       ·exact h1
       ·rw [List.getElem?_eq_none h1] at hx; cases hx
      rw [NO.out x u (by have := HM.out; omega) hx] at he
      cases he
     have HR2 := Lib.hid (HR.out.trans (runN_stop hk2))
     clear hk2
     have hkj' : (k : Int) ≤ (j : Int) := by omega
     have hjs' : (j : Int) ≤ (s.size : Int) := by omega
     go_wp2_with fail
     go_region
     go_wp2_with fail
     try rw [Exit.noGoto_ret]
     go_ret
     rw [HR2.out]
     exact ⟨rfl, SC.out, ON.out.drew⟩
  ·obtain rfl : j = s.size := by omega
   have HR2 := Lib.hid (HR.out.trans (runN_end (Nat.le_refl _)))
   have hkj' : (k : Int) ≤ (s.size : Int) := by omega
   go_wp2_with fail
   go_region
   go_wp2_with fail
   go_region
   go_wp2_with fail
   try rw [Exit.noGoto_ret]
   go_ret
   rw [HR2.out]
   exact ⟨rfl, SC.out, ON.out.drew.drew⟩
end Go.Proofs.YtibcpdmeigdgpaaGreatDoor
namespace Go.Proofs.YtibcpdmeigdgpaaGreatDoor
open Go.RowKit
def wrongE (p : Nat) (e : Int) : PanicEntry := { v := .iface 87 (.agg #[.int .i64 (p : Int), .int .i64 e]), recovered := false }
theorem of_blank : ∀ n : Nat, n < 256 → (ofN n == 5) = blankB n := by decide +kernel
theorem ext_ext (s : ByteArray) (a b : Nat) : ((s.extract a s.size).extract b (s.extract a s.size).size).data.toList = (s.extract (a + b) s.size).data.toList := by
 rw [list_rest (s.extract a s.size) b, list_rest, list_rest, List.drop_drop]
def SkipQ (s : ByteArray) (X : Nat) (v : Value) (w : World) (r : Nat × Bool) (e : Ending) (w' : World) : Prop :=
 (if r.2 then e = .returned (.tuple #[]) ∧ Sc w' X s r.1 v else e = .panicked [wrongE r.1 31]) ∧ OnX X w w'
set_option maxHeartbeats 8000000 in
set_option maxRecDepth 100000 in
theorem skip_any (s : ByteArray) (hs : s.size ≤ 4096) {w : World} {X k : Nat} {v : Value} (h : Sc w X s k v) (hk : k ≤ s.size) {mx : Int} (hX0 : 2 < X) (hmx : w.cell? ⟨2, 0, none⟩ = some (.int .i64 mx)) :
 Calls Tryz.prog 34 #[.pointer (some ⟨X, 0, none⟩)] w fun e w' => SkipQ s X v w (betN s k) e w' := by
 have HS := Lib.hid h
 have HMX := Lib.hid hmx
 have hX := h.lt
 obtain ⟨x0, x1, x2, xf⟩ := h.cells
 clear h hmx
 go_enter Tryz.func34, Tryz.ntmps34
 go_wp2_with fail
 go_step3
 go_wp2_with fail
 go_step3
 go_wp2_with fail
 go_loopg [] (s.size - k) (fun g wr => ∃ j, j + g = s.size ∧ betN s k = betN s j ∧ Sc wr X s j v ∧ OnX X w wr)
 case atStart => exact ⟨k, by omega, rfl, HS.out, OnX.refl _ _⟩
 case round =>
  obtain ⟨j, hjg, hr, hsc, hon⟩ := hrel
  have HR := Lib.hid hr
  have SC := Lib.hid hsc
  have ON := Lib.hid hon
  have hXr := hsc.lt
  have MX := Lib.hid (hon.cell (p := ⟨2, 0, none⟩) (by show (2 : Nat) ≠ X; omega) HMX.out)
  obtain ⟨y0, y1, y2, yf⟩ := hsc.cells
  clear hr hsc hon x0 x1 x2 xf
  by_cases hj : j < s.size
  ·have hj' : (j : Int) < (s.size : Int) := by omega
   have hj2 : (j : Int) ≤ (s.size : Int) := by omega
   have HE := Lib.hid (HR.out.trans (betN_eq hj))
   obtain ⟨rest, hrest⟩ : ∃ rest, s.extract j s.size = rest := ⟨_, rfl⟩
   have hrs : 0 < rest.size := by rw [← hrest, ByteArray.size_extract]; omega
   have hrn : rest.size = s.size - j := by rw [← hrest, ByteArray.size_extract]; omega
   have hb0 : (rest[0]'hrs).toNat = bn s j := by rw [bn_eq, ← hrest, bn_extract s j s.size (by omega)]; rfl
   have CO := Lib.hid (fun W => of_any (bn s j) (bn_lt s j) W)
   have HRS := Lib.hid hrest
   have HRN := Lib.hid hrn
   clear HR hrest hrn
   have s1 := SC.out.at_ (j + 1)
   rw [show ((j + 1 : Nat) : Int) = (j : Int) + 1 from by omega] at s1
   have S1 := Lib.hid s1
   clear s1
   obtain ⟨cv, hcv⟩ : ∃ cv, cv = ofN (bn s j) := ⟨_, rfl⟩
   rw [← hcv] at CO
   have hbl := of_blank (bn s j) (bn_lt s j)
   rw [← hcv] at hbl
   clear hcv
   go_wp2_with fail
   go_region
   go_wp2_with fail
   go_region
   rw [HRS.out]
   cases hb : blankB (bn s j)
   case true =>
    have HB := Lib.hid (show betN s k = betN s (j + 1) by rw [HE.out, hb]; rfl)
    rw [hb] at hbl
    clear HE hb
    go_wp2_with fail
    refine (CO.out _).mono ?_
    rintro e w1 ⟨rfl, rfl⟩
    go_wp2_with fail
    go_roundg (gk - 1)
    case measure => omega
    case rel => exact ⟨j + 1, by omega, HB.out, S1.out.1, (ON.out.trans S1.out.2).drew.drew⟩
   rw [hb] at hbl
   have HBL := Lib.hid hb
   clear hb
   go_wp2_with fail
   refine (CO.out _).mono ?_
   rintro e w1 ⟨rfl, rfl⟩
   clear CO
   cases h37 : ((bn s j : Int) == 37)
   case true =>
    have HB := Lib.hid (show betN s k = betN s (lineN s j) by rw [HE.out, HBL.out, h37]; rfl)
    have CI := Lib.hid (fun W => Tryz.strings_IndexByte rest 10 W)
    have hI := idx_line s j (by omega)
    rw [HRS.out] at hI
    obtain ⟨vn, hvn⟩ : ∃ vn, Lib.indexByte rest.data.toList 10 = vn := ⟨_, rfl⟩
    rw [hvn] at hI
    have CI := Lib.hid (show ∀ W, Calls Tryz.prog 58 #[.string rest, .int .u8 10] W fun e w' => e = .returned (.int .i64 vn) ∧ w' = W from fun W => by rw [← hvn]; exact CI.out W)
    have hlg := line_gt hj h37
    clear HE hvn
    have H37 := Lib.hid h37
    rcases hI with ⟨hneg, hl⟩ | ⟨n, rfl, hl, hln⟩
    ·have HL := Lib.hid hl
     clear hl
     have s2 := SC.out.at_ s.size
     rw [show ((s.size : Nat) : Int) = (j : Int) + (rest.size : Int) from by have := HRN.out; omega] at s2
     have S2 := Lib.hid s2
     clear s2
     have hw : IntKind.i64.wrap ((j : Int) + (rest.size : Int)) = (j : Int) + (rest.size : Int) := by have := HRN.out; rw [IntKind.wrap_i64]; omega
     go_wp2_with fail
     refine (CI.out _).mono ?_
     rintro e w1 ⟨rfl, rfl⟩
     clear CI
     go_wp2_with fail
     go_roundg 0
     case measure => omega
     case rel => exact ⟨s.size, by omega, by rw [HB.out, HL.out], S2.out.1, (ON.out.trans S2.out.2).drew.drew⟩
    ·have HL := Lib.hid hl
     have hjn : j < j + n := by omega
     clear hl hlg
     have s2 := SC.out.at_ (j + n)
     rw [show ((j + n : Nat) : Int) = (j : Int) + (n : Int) from by omega] at s2
     have S2 := Lib.hid s2
     clear s2
     have hw : IntKind.i64.wrap ((j : Int) + (n : Int)) = (j : Int) + (n : Int) := by rw [IntKind.wrap_i64]; omega
     go_wp2_with fail
     refine (CI.out _).mono ?_
     rintro e w1 ⟨rfl, rfl⟩
     clear CI
     go_wp2_with fail
     go_roundg (gk - n)
     case measure => omega
     case rel => exact ⟨j + n, by omega, by rw [HB.out, HL.out], S2.out.1, (ON.out.trans S2.out.2).drew.drew⟩
   have CP := Lib.hid (show ∀ W, Calls Tryz.prog 59 #[.string rest, .string ⟨#[47, 42]⟩] W fun e w' => e = .returned (.bool (twoB s j 47 42)) ∧ w' = W from fun W => by
    have e : Lib.hasPrefix rest.data.toList [47, 42] = twoB s j 47 42 := by have h := has_two s j 47 42; rw [HRS.out] at h; exact h
    rw [← e]; exact Tryz.strings_HasPrefix rest ⟨#[47, 42]⟩ W)
   cases h2 : twoB s j 47 42
   case false =>
    have HB := Lib.hid (show betN s k = (j, true) by rw [HE.out, HBL.out, h37, h2]; rfl)
    rw [h2] at CP
    clear HE
    go_wp2_with fail
    refine (CP.out _).mono ?_
    rintro e w1 ⟨rfl, rfl⟩
    clear CP
    go_wp2_with fail
    rw [Exit.noGoto_normal]
    go_end0
    rw [HB.out]
    exact ⟨by rw [if_pos rfl]; exact ⟨rfl, SC.out⟩, ON.out.drew.drew⟩
   have hj2l := twoB_lt h2
   have HB := Lib.hid (show betN s k = (if endN s (j + 2) < s.size then betN s (endN s (j + 2) + 2) else (j, false)) by rw [HE.out, HBL.out, h37, h2]; rfl)
   rw [h2] at CP
   clear HE
   have hI := idx_end s (j + 2) (by omega)
   rw [← ext_ext s j 2, HRS.out] at hI
   obtain ⟨vn, hvn⟩ : ∃ vn, Lib.index (rest.extract 2 rest.size).data.toList [42, 47] = vn := ⟨_, rfl⟩
   rw [hvn] at hI
   have CI := Lib.hid (show ∀ W, W.cell? ⟨2, 0, none⟩ = some (.int .i64 mx) → Calls Tryz.prog 56 #[.string (rest.extract 2 rest.size), .string ⟨#[42, 47]⟩] W fun e w' => e = .returned (.int .i64 vn) ∧ w' = W from fun W hW => by
    rw [← hvn]; exact Tryz.strings_Index (rest.extract 2 rest.size) ⟨#[42, 47]⟩ mx W (by have := HRN.out; rw [ByteArray.size_extract]; omega) hW)
   clear hvn
   have hr2 : 2 ≤ rest.size := by have := HRN.out; omega
   rcases hI with ⟨hneg, hl⟩ | ⟨n, rfl, hl, hln⟩
   ·have HL := Lib.hid (show betN s k = (j, false) by rw [HB.out, hl, if_neg (Nat.lt_irrefl _)])
    clear HB hl
    go_wp2_with fail
    refine (CP.out _).mono ?_
    rintro e w1 ⟨rfl, rfl⟩
    clear CP
    go_wp2_with fail
    refine (CI.out _ (by exact MX.out)).mono ?_
    rintro e w1 ⟨rfl, rfl⟩
    clear CI
    go_wp2_with fail
    refine ⟨rfl, ?_⟩
    rw [HL.out]
    exact ⟨by rw [if_neg (show ¬ (j, false).2 = true from fun h => by cases h)]; rfl, ON.out.drew.drew⟩
   ·have HL := Lib.hid (show betN s k = betN s (j + 2 + n + 2) by rw [HB.out, hl, if_pos hln])
    have h4 : j + (n + 4) ≤ s.size := by
     have h5 := endN_two (s := s) (j := j + 2) (by rw [hl]; exact hln)
     rw [hl] at h5
     have := twoB_lt h5
     omega
    clear HB hl
    have s2 := SC.out.at_ (j + (n + 4))
    rw [show ((j + (n + 4) : Nat) : Int) = (j : Int) + ((n : Int) + 4) from by omega] at s2
    have S2 := Lib.hid s2
    clear s2
    have hw : IntKind.i64.wrap ((j : Int) + ((n : Int) + 4)) = (j : Int) + ((n : Int) + 4) := by rw [IntKind.wrap_i64]; omega
    have hw4 : IntKind.i64.wrap ((n : Int) + 4) = (n : Int) + 4 := by rw [IntKind.wrap_i64]; omega
    go_wp2_with fail
    refine (CP.out _).mono ?_
    rintro e w1 ⟨rfl, rfl⟩
    clear CP
    go_wp2_with fail
    refine (CI.out _ (by exact MX.out)).mono ?_
    rintro e w1 ⟨rfl, rfl⟩
    clear CI
    go_wp2_with fail
    go_roundg (gk - (n + 4))
    case measure => omega
    case rel => exact ⟨j + (n + 4), by omega, by rw [HL.out]; congr 1; omega, S2.out.1, (ON.out.trans S2.out.2).drew.drew⟩
  ·obtain rfl : j = s.size := by omega
   have HB := Lib.hid (HR.out.trans (betN_end (Nat.le_refl _)))
   go_wp2_with fail
   go_region
   go_wp2_with fail
   rw [Exit.noGoto_normal]
   go_end0
   rw [HB.out]
   exact ⟨by rw [if_pos rfl]; exact ⟨rfl, SC.out⟩, ON.out.drew⟩
end Go.Proofs.YtibcpdmeigdgpaaGreatDoor
namespace Go.Proofs.YtibcpdmeigdgpaaGreatDoor
open Go.RowKit
abbrev TB : TypeId := 128
theorem Tryz.info_bld : (Tryz.prog.info? TB).map (fun i => i.size) = some 2 := by kernel_rfl
theorem lies_bld : liesAt Tryz.prog Tryz.prog.depth TB (2 / Tryz.prog.cellsOf TB) 0 TB 1 = true := by kernel_rfl
theorem Tryz.info_byte : (Tryz.prog.info? 5).map (fun i => (i.zero, i.size, i.bytes)) = some (some (.int .u8 0), 1, 1) := by kernel_rfl
set_option maxHeartbeats 1000000 in
set_option maxRecDepth 100000 in
theorem check_used (b : Nat) (w : World) (h0 : w.cell? ⟨b, 0, none⟩ = some (.pointer (some ⟨b, 0, none⟩))) :
 Calls Tryz.prog 99 #[.pointer (some ⟨b, 0, none⟩)] w fun e w' => e = .returned (.tuple #[]) ∧ w' = w := by
 obtain ⟨j, hj, _⟩ := Option.map_eq_some_iff.1 Tryz.info_bld
 go_enter Tryz.func99, Tryz.ntmps99
 go_wp2
 rw [Lib.run_neq_ptr_same w _ Tryz.underlying126 hj]
 go_wp2
 go_end0
 exact ⟨rfl, rfl⟩
set_option maxHeartbeats 1000000 in
set_option maxRecDepth 100000 in
theorem check_fresh (b : Nat) (w : World) (h0 : w.cell? ⟨b, 0, none⟩ = some (.pointer none)) (hsh : w.shape? b = some (TB, 2)) (hfz : w.frozen? ⟨b, 0, none⟩ = false) :
 Calls Tryz.prog 99 #[.pointer (some ⟨b, 0, none⟩)] w fun e w' => e = .returned (.tuple #[]) ∧ w' = w.setCell ⟨b, 0, none⟩ (.pointer (some ⟨b, 0, none⟩)) := by
 obtain ⟨j, hj, hjs⟩ := Option.map_eq_some_iff.1 Tryz.info_bld
 go_enter Tryz.func99, Tryz.ntmps99
 go_wp2
 rw [Lib.run_to_unsafe w ⟨b, 0, none⟩ Tryz.underlying126 Tryz.underlying158 hj (by rw [hjs]; decide) hsh (Nat.zero_lt_succ 1)]
 simp only [Result.andThen]
 rw [Oper.upon_value]
 go_wp2
 rw [run_callFunc_extern Tryz.func110 (by kernel_rfl) (by kernel_rfl) (by kernel_rfl) (e := Extern.AbiNoEscape.same) (by kernel_rfl)]
 rw [Lib.run_noEscape]
 simp only [Result.andThen]
 rw [Oper.upon_value]
 go_wp2
 rw [Lib.run_from_unsafe w ⟨b, 0, none⟩ Tryz.underlying158 Tryz.underlying126 hj hsh lies_bld]
 simp only [Result.andThen]
 rw [Oper.upon_value]
 go_wp2
 go_end0
 exact ⟨rfl, rfl⟩
theorem check_any (B b : Nat) (bs : List Value) (w : World) (h : Lib.IsBuilder TB 5 B b bs w) :
 Calls Tryz.prog 99 #[.pointer (some ⟨b, 0, none⟩)] w fun e w' => e = .returned (.tuple #[]) ∧ (Lib.BuilderAt TB 5 B b (.pointer (some ⟨b, 0, none⟩)) bs w' ∧ Below B w w') := by
 rcases h with h | h
 ·refine (check_fresh b w h.cell0 h.shape h.frozen0).mono ?_
  rintro e w' ⟨rfl, rfl⟩
  exact ⟨rfl, h.used _, (Below.refl B w).setCell (p := ⟨b, 0, none⟩) h.1 _⟩
 ·refine (check_used b w h.cell0).mono ?_
  rintro e w' ⟨rfl, rfl⟩
  exact ⟨rfl, h, Below.refl B _⟩
theorem bld_lt {w : World} {b : Nat} {cs : Array Value} {T : TypeId} {f : Nat × Nat} (h : w.heap[b]? = some (.cells cs T f)) : b < w.heap.size := by
 rcases Nat.lt_or_ge b w.heap.size with h' | h'
 ·exact h'
 ·rw [Array.getElem?_eq_none h'] at h; cases h
set_option maxHeartbeats 2000000 in
set_option maxRecDepth 100000 in
theorem wbyte_any (B b : Nat) (bs : List Value) (c : Int) (w : World) (h : Lib.IsBuilder TB 5 B b bs w) (hlen : bs.length + 1 ≤ 140737488355328) (hBw : B ≤ w.heap.size) :
 Calls Tryz.prog 80 #[.pointer (some ⟨b, 0, none⟩), .int .u8 c] w fun e w' => e = .returned .nilIface ∧ (Lib.IsBuilder TB 5 B b (bs ++ [.int .u8 c]) w' ∧ Below B w w') := by
 obtain ⟨i0, hi, hz0, hz1, hz2⟩ := info_parts Tryz.info_byte
 go_enter Tryz.func80, Tryz.ntmps80
 go_wp2_with (go_at_call 99; refine (check_any B b bs _ h).mono ?_)
 rintro e w1 ⟨rfl, h1, hb1⟩
 obtain ⟨hB, v, hbk, hown, hne⟩ := h1
 have c0 : w1.cell? ⟨b, 0, none⟩ = some (.pointer (some ⟨b, 0, none⟩)) := by rw [Lib.cell_of_heap hbk]; rfl
 have c1 : w1.cell? ⟨b, 1, none⟩ = some v := by rw [Lib.cell_of_heap hbk]; rfl
 go_wp2_with (at_builtin; refine wpList_append_own _ rfl _ _ 117 rfl B 5 i0 (.int .u8 0) 1 1 Tryz.underlying117 hi hz0 hz1 hz2 rfl (by decide) _ _ _ rfl (hown.alloc _) ⟨w1.heap.size, 0, none⟩ 1 1 [.int .u8 c] rfl rfl ?c1 ?c2 ?c3 ?c4 ?c5 ?_)
 case c1 =>
  intro j u hj
  match j, hj with
  | 0, hj => simp at hj; subst hj; simp [Addr.add]
 case c2 => intro u hu; simp at hu; subst hu; rfl
 case c3 => unfold maxLen; omega
 case c4 => omega
 case c5 => have := hb1.size; simp; omega
 intro v' w2 hown' hgrow _
 have hlt := bld_lt hbk
 have hb2 : w2.heap[b]? = some (.cells #[.pointer (some ⟨b, 0, none⟩), v] TB (0, 0)) := by
  rw [hgrow.block b (by simp; omega) (fun e => hne e.symm), Below.heap_alloc _ _ _ hlt]
  exact hbk
 have d0 : w2.cell? ⟨b, 0, none⟩ = some (.pointer (some ⟨b, 0, none⟩)) := by rw [Lib.cell_of_heap hb2]; rfl
 have d1 : w2.cell? ⟨b, 1, none⟩ = some v := by rw [Lib.cell_of_heap hb2]; rfl
 have f1 : w2.frozen? ⟨b, 1, none⟩ = false := Lib.frozen_of_heap hb2 1
 obtain ⟨g, cap, rfl⟩ : ∃ g cap, v' = .slice (some ⟨g, 0, none⟩) (bs.length + 1) cap := by
  rcases hown'.2 with ⟨_, h0⟩ | ⟨g, cap, cur, hv, _⟩
  ·omega
  ·exact ⟨g, cap, hv⟩
 go_wp2
 go_ret
 refine ⟨rfl, .inr ?_, ?_⟩
 ·exact Lib.BuilderAt.put (T := TB) (e := 5) hB hb2 (bs' := bs ++ [.int .u8 c]) (by simpa using hown') (by decide)
 ·exact ((hb1.alloc (by have := hb1.size; omega) _).grown hgrow (by have := hb1.size; simp; omega) (fun k hk => (hown.lt k hk).1)).setCell (p := ⟨b, 1, none⟩) hB _
theorem bld_new (w : World) : Lib.IsBuilder TB 5 w.heap.size w.heap.size [] (w.alloc (.cells #[.pointer none, .slice none 0 0] TB)) :=
 .inl ⟨Nat.le_refl _, .slice none 0 0, heap_alloc_new _ _, World.ownsRow_nil _ _ _ _, by simp [Value.ownBlock]⟩
end Go.Proofs.YtibcpdmeigdgpaaGreatDoor
namespace Go.Proofs.YtibcpdmeigdgpaaGreatDoor
open Go.RowKit
theorem bld_keep {T e : TypeId} {B b : Nat} {bs : List Value} {w w' : World} (h : Lib.IsBuilder T e B b bs w) (hk : ∀ g, B ≤ g → g < w.heap.size → w'.heap[g]? = w.heap[g]?) : Lib.IsBuilder T e B b bs w' := by
 have key : ∀ {p}, Lib.BuilderAt T e B b p bs w → Lib.BuilderAt T e B b p bs w' := fun {p} h => by
  have hlt := h.lt
  obtain ⟨hB, v, hb, hown, hne⟩ := h
  exact ⟨hB, v, (hk b hB hlt).trans hb, own_keep hown fun g hg => hk g (hown.lt g hg).1 (hown.lt g hg).2, hne⟩
 rcases h with h | h
 ·exact .inl (key h)
 ·exact .inr (key h)
theorem bu_of {s : ByteArray} {i : Nat} {c : UInt8} {x : Int} (h : (bn s i : Int) = x) (hc : x = (c.toNat : Int)) : bu s i = c := UInt8.toNat_inj.1 (by rw [bn_bu] at h; omega)
theorem onx_call {X : Nat} {w wr W w1 : World} (hX : X < w.heap.size) (h1 : Below w.heap.size w wr) (h2 : OnX X wr W) (h3 : Below w.heap.size W w1) : OnX X w w1 :=
 ⟨((h1.mono (Nat.le_of_lt hX)).trans h2.low).trans (h3.mono (Nat.le_of_lt hX)), fun g hg hx => (h3.block g hg).trans ((h2.far g (Nat.lt_of_lt_of_le hg h1.size) hx).trans (h1.block g hg))⟩
theorem idx_esc : ∀ n : Nat, n < 256 → Lib.indexByte [110, 116, 92, 39] (n : Int).toNat.toUInt8 = (if (n : Int) == 110 then 0 else if (n : Int) == 116 then 1 else if (n : Int) == 92 then 2 else if (n : Int) == 39 then 3 else -1) := by decide +kernel
def QuotQ (s : ByteArray) (X : Nat) (v : Value) (w : World) (r : QuoR) (e : Ending) (w' : World) : Prop :=
 (match r with
   | .ok t p => e = .returned (.string ⟨t.toArray⟩) ∧ Sc w' X s p v
   | .bad p er => e = .panicked [wrongE p er]) ∧ OnX X w w'
structure QL (s : ByteArray) (X i : Nat) (v : Value) (w wr : World) (iv : Value) (k : Nat) (l : List UInt8) : Prop where
 hi : iv = .int .i64 (k : Int)
 sc : Sc wr X s i v
 bl : Lib.IsBuilder TB 5 w.heap.size w.heap.size (Lib.byteCells l) wr
 lo : i < k
 up : k ≤ s.size
 few : l.length ≤ k
 res : quoN s i (i + 1) [] = quoN s i k l
 below : Below w.heap.size w wr
theorem QL.step {s : ByteArray} {X i : Nat} {v : Value} {w wr w1 w' : World} {iv iv' : Value} {k k' : Nat} {l : List UInt8} {c : UInt8} {x : Int} (h : QL s X i v w wr iv k l) (hX : X < w.heap.size) (hd : Below wr.heap.size wr w1) (hb : Lib.IsBuilder TB 5 w.heap.size w.heap.size (Lib.byteCells l ++ [.int .u8 x]) w') (hw : Below w.heap.size w1 w')
 (hi' : iv' = .int .i64 (k' : Int)) (hx : x = (c.toNat : Int)) (hk : k < k') (hk' : k' ≤ s.size) (hr : quoN s i k l = quoN s i k' (l ++ [c])) : QL s X i v w w' iv' k' (l ++ [c]) := by
 have hb2 : Below w.heap.size wr w' := (hd.mono h.below.size).trans hw
 refine ⟨hi', (hb2.block X hX).trans h.sc, ?_, by have := h.lo; omega, hk', by have := h.few; simp; omega, h.res.trans hr, h.below.trans hb2⟩
 subst hx
 simpa [Lib.byteCells] using hb
set_option maxHeartbeats 16000000 in
set_option maxRecDepth 100000 in
theorem pquoted_any (s : ByteArray) (hs : s.size ≤ 4096) {w : World} {X i : Nat} {v : Value} (h : Sc w X s i v) (hi : i < s.size) :
 Calls Tryz.prog 61 #[.pointer (some ⟨X, 0, none⟩)] w fun e w' => QuotQ s X v w (quoN s i (i + 1) []) e w' := by
 have hb : ∀ (i : Nat) (h : i < s.size), (s[i]'h).toNat = bn s i := bn_eq s
 have HS := Lib.hid h
 have hX := h.lt
 obtain ⟨x0, x1, x2, xf⟩ := h.cells
 clear h
 go_enter Tryz.func61, Tryz.ntmps61
 go_wp2_with fail
 go_loopw [5] (fun iv wr => ∃ k l, QL s X i v w wr iv k l) (fun iv _ => s.size - (intOf iv).toNat)
 case atStart =>
  have hbel : Below w.heap.size w (w.alloc (.cells #[.pointer none, .slice none 0 0] TB)) := (Below.refl _ _).alloc (Nat.le_refl _) _
  exact ⟨i + 1, [], by go_num, HS.out.below hbel, bld_new w, by omega, by omega, by simp, rfl, hbel⟩
 case round =>
  obtain ⟨k, l, hr⟩ := hrel
  obtain rfl := hr.hi
  have R := Lib.hid hr
  have hk := hr.up
  have hlo := hr.lo
  have hfew := hr.few
  have hsz := hr.below.size
  have hXr := hr.sc.lt
  obtain ⟨y0, y1, y2, yf⟩ := hr.sc.cells
  clear hr x0 x1 x2 xf
  by_cases h7 : k < s.size
  ·have h7' : (k : Int) < (s.size : Int) := by omega
   have HE := Lib.hid (quoN_eq (i := i) (b := l) h7)
   have CW := Lib.hid (fun (x : Int) => wbyte_any w.heap.size w.heap.size (Lib.byteCells l) x wr R.out.bl (by rw [Lib.byteCells_length]; omega) hsz)
   have CS := Lib.hid (fun (W : World) (h : Lib.IsBuilder TB 5 w.heap.size w.heap.size (Lib.byteCells l) W) (h2 : w.heap.size ≤ W.heap.size) => Tryz.Builder_String_any w.heap.size w.heap.size l W h h2)
   by_cases hk1 : k + 1 < s.size
   ·have hk1' : (k : Int) + 1 < (s.size : Int) := by omega
    have hk2 : ((k : Int) + 1).toNat = k + 1 := by omega
    have hke : ((k : Int) + 1 == (s.size : Int)) = false := by simp; omega
    have hks : ¬ k + 1 = s.size := by omega
    cases h39 : ((bn s k : Int) == 39)
    case true =>
     have h92 : ((bn s k : Int) == 92) = false := by rw [show (bn s k : Int) = 39 from by simpa using h39]; rfl
     cases h39n : ((bn s (k + 1) : Int) == 39)
     case true =>
      have h2 : twoB s k 39 39 = true := by unfold twoB; rw [decide_eq_true hk1, h39, h39n]; rfl
      have h39u : bu s k = 39 := bu_of (show (bn s k : Int) = 39 from by simpa using h39) rfl
      have HU := Lib.hid h39u
      clear h39u
      have HQ := Lib.hid (show quoN s i k l = quoN s i (k + 2) (l ++ [39]) by rw [HE.out, h2]; rfl)
      clear HE CS
      go_wp2_with fail
      refine (CW.out _).mono ?_
      rintro e w1 ⟨rfl, hb1, hb2⟩
      have R1 := Lib.hid (R.out.step (iv' := .int .i64 ((k : Int) + 2)) hX (Below.refl _ _) hb1 hb2 (by go_num) (by rw [bn_bu, HU.out]) (by omega) (by omega) HQ.out)
      clear hb1 hb2 CW HQ
      go_wp2_with fail
      go_roundw
      case rel => exact ⟨_, _, R1.out⟩
      case measure => simp [intOf]; omega
     have h2 : twoB s k 39 39 = false := by unfold twoB; rw [h39n, Bool.and_false]
     have HQ := Lib.hid (show quoN s i (i + 1) [] = .ok l (k + 1) by rw [R.out.res, HE.out, h2, h39]; rfl)
     have s2 := R.out.sc.at_ (k + 1)
     rw [show ((k + 1 : Nat) : Int) = (k : Int) + 1 from by omega] at s2
     have B2 := Lib.hid (bld_keep (w' := wr.setCell ⟨X, 1, none⟩ (.int .i64 ((k : Int) + 1))) R.out.bl fun g hg _ => Below.heap_setCell _ _ _ _ (by show g ≠ X; omega))
     have S2 := Lib.hid s2
     clear s2 HE
     go_wp2_with fail
     refine (CS.out _ B2.out (by simp; omega)).mono ?_
     rintro e w1 ⟨rfl, hb1⟩
     have HB1 := Lib.hid hb1
     clear hb1
     go_wp2_with fail
     go_ret
     rw [HQ.out]
     exact ⟨⟨rfl, (HB1.out.block X hX).trans S2.out.1⟩, onx_call hX R.out.below S2.out.2 HB1.out⟩
    have h2 : twoB s k 39 39 = false := by unfold twoB; rw [h39, Bool.and_false, Bool.false_and]
    cases h92 : ((bn s k : Int) == 92)
    case true =>
     obtain ⟨vi, hvi⟩ : ∃ vi, Lib.indexByte [110, 116, 92, 39] (bn s (k + 1) : Int).toNat.toUInt8 = vi := ⟨_, rfl⟩
     have CI := Lib.hid (show ∀ W, Calls Tryz.prog 58 #[.string ⟨#[110, 116, 92, 39]⟩, .int .u8 (bn s (k + 1) : Int)] W fun e w' => e = .returned (.int .i64 vi) ∧ w' = W from fun W => by rw [← hvi]; exact Tryz.strings_IndexByte ⟨#[110, 116, 92, 39]⟩ (bn s (k + 1) : Int) W)
     have hie := idx_esc (bn s (k + 1)) (bn_lt s (k + 1))
     rw [hvi] at hie
     clear hvi
     cases e110 : ((bn s (k + 1) : Int) == 110)
     case true =>
      obtain rfl : vi = 0 := by rw [hie, e110]; rfl
      have hu : bu s (k + 1) = 110 := bu_of (show (bn s (k + 1) : Int) = 110 from by simpa using e110) rfl
      have HU := Lib.hid hu
      have HQ := Lib.hid (show quoN s i k l = quoN s i (k + 2) (l ++ [10]) by rw [HE.out, h2, h39, h92, if_neg hks, e110]; rfl)
      clear HE CS hie hu
      go_wp2_with fail
      refine (CI.out _).mono ?_
      rintro e w0 ⟨rfl, rfl⟩
      clear CI
      go_wp2_with fail
      refine (CW.out _).mono ?_
      rintro e w1 ⟨rfl, hb1, hb2⟩
      have R1 := Lib.hid (R.out.step (iv' := .int .i64 ((k : Int) + 2)) hX (Below.refl _ _) hb1 hb2 (by go_num) (by rfl) (by omega) (by omega) HQ.out)
      clear hb1 hb2 CW HQ
      go_wp2_with fail
      go_roundw
      case rel => exact ⟨_, _, R1.out⟩
      case measure => simp [intOf]; omega
     cases e116 : ((bn s (k + 1) : Int) == 116)
     case true =>
      obtain rfl : vi = 1 := by rw [hie, e110, e116]; rfl
      have hu : bu s (k + 1) = 116 := bu_of (show (bn s (k + 1) : Int) = 116 from by simpa using e116) rfl
      have HU := Lib.hid hu
      have HQ := Lib.hid (show quoN s i k l = quoN s i (k + 2) (l ++ [9]) by rw [HE.out, h2, h39, h92, if_neg hks, e110, e116]; rfl)
      clear HE CS hie hu
      go_wp2_with fail
      refine (CI.out _).mono ?_
      rintro e w0 ⟨rfl, rfl⟩
      clear CI
      go_wp2_with fail
      refine (CW.out _).mono ?_
      rintro e w1 ⟨rfl, hb1, hb2⟩
      have R1 := Lib.hid (R.out.step (iv' := .int .i64 ((k : Int) + 2)) hX (Below.refl _ _) hb1 hb2 (by go_num) (by rfl) (by omega) (by omega) HQ.out)
      clear hb1 hb2 CW HQ
      go_wp2_with fail
      go_roundw
      case rel => exact ⟨_, _, R1.out⟩
      case measure => simp [intOf]; omega
     cases e92 : ((bn s (k + 1) : Int) == 92)
     case true =>
      obtain rfl : vi = 2 := by rw [hie, e110, e116, e92]; rfl
      have hu : bu s (k + 1) = 92 := bu_of (show (bn s (k + 1) : Int) = 92 from by simpa using e92) rfl
      have HU := Lib.hid hu
      have HQ := Lib.hid (show quoN s i k l = quoN s i (k + 2) (l ++ [bu s (k + 1)]) by rw [HE.out, h2, h39, h92, if_neg hks, e110, e116, e92]; rfl)
      clear HE CS hie hu
      go_wp2_with fail
      refine (CI.out _).mono ?_
      rintro e w0 ⟨rfl, rfl⟩
      clear CI
      go_wp2_with fail
      refine (CW.out _).mono ?_
      rintro e w1 ⟨rfl, hb1, hb2⟩
      have R1 := Lib.hid (R.out.step (iv' := .int .i64 ((k : Int) + 2)) hX (Below.refl _ _) hb1 hb2 (by go_num) (by rw [HU.out]; rfl) (by omega) (by omega) HQ.out)
      clear hb1 hb2 CW HQ
      go_wp2_with fail
      go_roundw
      case rel => exact ⟨_, _, R1.out⟩
      case measure => simp [intOf]; omega
     cases e39 : ((bn s (k + 1) : Int) == 39)
     case true =>
      obtain rfl : vi = 3 := by rw [hie, e110, e116, e92, e39]; rfl
      have hu : bu s (k + 1) = 39 := bu_of (show (bn s (k + 1) : Int) = 39 from by simpa using e39) rfl
      have HU := Lib.hid hu
      have HQ := Lib.hid (show quoN s i k l = quoN s i (k + 2) (l ++ [bu s (k + 1)]) by rw [HE.out, h2, h39, h92, if_neg hks, e110, e116, e92, e39]; rfl)
      clear HE CS hie hu
      go_wp2_with fail
      refine (CI.out _).mono ?_
      rintro e w0 ⟨rfl, rfl⟩
      clear CI
      go_wp2_with fail
      refine (CW.out _).mono ?_
      rintro e w1 ⟨rfl, hb1, hb2⟩
      have R1 := Lib.hid (R.out.step (iv' := .int .i64 ((k : Int) + 2)) hX (Below.refl _ _) hb1 hb2 (by go_num) (by rw [HU.out]; rfl) (by omega) (by omega) HQ.out)
      clear hb1 hb2 CW HQ
      go_wp2_with fail
      go_roundw
      case rel => exact ⟨_, _, R1.out⟩
      case measure => simp [intOf]; omega
     obtain rfl : vi = -1 := by rw [hie, e110, e116, e92, e39]; rfl
     have HQ := Lib.hid (show quoN s i (i + 1) [] = .bad k 32 by rw [R.out.res, HE.out, h2, h39, h92, if_neg hks, e110, e116, e92, e39]; rfl)
     clear HE CS CW hie
     go_wp2_with fail
     refine (CI.out _).mono ?_
     rintro e w0 ⟨rfl, rfl⟩
     clear CI
     go_wp2_with fail
     refine ⟨rfl, ?_⟩
     rw [HQ.out]
     exact ⟨rfl, OnX.below hX R.out.below⟩
    by_cases hlow : (bn s k : Int) < 32
    ·have hlow2 := decide_eq_true hlow
     have HQ := Lib.hid (show quoN s i (i + 1) [] = .bad k 30 by rw [R.out.res, HE.out, h2, h39, h92, hlow2]; rfl)
     clear HE CS CW
     go_wp2_with fail
     refine ⟨rfl, ?_⟩
     rw [HQ.out]
     exact ⟨rfl, OnX.below hX R.out.below⟩
    ·by_cases hgr : (126 : Int) < (bn s k : Int)
     ·have hgr2 := decide_eq_true hgr
      have HQ := Lib.hid (show quoN s i (i + 1) [] = .bad k 30 by rw [R.out.res, HE.out, h2, h39, h92, hgr2, Bool.or_true]; rfl)
      clear HE CS CW
      go_wp2_with fail
      refine ⟨rfl, ?_⟩
      rw [HQ.out]
      exact ⟨rfl, OnX.below hX R.out.below⟩
     ·have hlow2 := decide_eq_false hlow
      have hgr2 := decide_eq_false hgr
      have HQ := Lib.hid (show quoN s i k l = quoN s i (k + 1) (l ++ [bu s k]) by rw [HE.out, h2, h39, h92, hlow2, hgr2]; rfl)
      clear HE CS
      go_wp2_with fail
      refine (CW.out _).mono ?_
      rintro e w1 ⟨rfl, hb1, hb2⟩
      have R1 := Lib.hid (R.out.step (iv' := .int .i64 ((k : Int) + 1)) hX (Below.refl _ _) hb1 hb2 (by go_num) rfl (by omega) (by omega) HQ.out)
      clear hb1 hb2 CW HQ
      go_wp2_with fail
      go_roundw
      case rel => exact ⟨_, _, R1.out⟩
      case measure => simp [intOf]; omega
   ·have hk1' : ¬ (k : Int) + 1 < (s.size : Int) := by omega
    have hke : ((k : Int) + 1 == (s.size : Int)) = true := by simp; omega
    have hks : k + 1 = s.size := by omega
    have h2 : twoB s k 39 39 = false := by unfold twoB; rw [decide_eq_false hk1]; rfl
    have HKS := Lib.hid hks
    clear hks
    cases h39 : ((bn s k : Int) == 39)
    case true =>
     have h92 : ((bn s k : Int) == 92) = false := by rw [show (bn s k : Int) = 39 from by simpa using h39]; rfl
     have HQ := Lib.hid (show quoN s i (i + 1) [] = .ok l (k + 1) by rw [R.out.res, HE.out, h2, h39]; rfl)
     have s2 := R.out.sc.at_ (k + 1)
     rw [show ((k + 1 : Nat) : Int) = (k : Int) + 1 from by omega] at s2
     have B2 := Lib.hid (bld_keep (w' := wr.setCell ⟨X, 1, none⟩ (.int .i64 ((k : Int) + 1))) R.out.bl fun g hg _ => Below.heap_setCell _ _ _ _ (by show g ≠ X; omega))
     have S2 := Lib.hid s2
     clear s2 HE
     go_wp2_with fail
     refine (CS.out _ B2.out (by simp; omega)).mono ?_
     rintro e w1 ⟨rfl, hb1⟩
     have HB1 := Lib.hid hb1
     clear hb1
     go_wp2_with fail
     go_ret
     rw [HQ.out]
     exact ⟨⟨rfl, (HB1.out.block X hX).trans S2.out.1⟩, onx_call hX R.out.below S2.out.2 HB1.out⟩
    cases h92 : ((bn s k : Int) == 92)
    case true =>
     have CI := Lib.hid (fun W => Tryz.strings_IndexByte ⟨#[110, 116, 92, 39]⟩ 0 W)
     have HQ := Lib.hid (show quoN s i (i + 1) [] = .bad i 31 by rw [R.out.res, HE.out, h2, h39, h92, if_pos HKS.out]; rfl)
     clear HE CS CW
     go_wp2_with fail
     refine (CI.out _).mono ?_
     rintro e w0 ⟨rfl, rfl⟩
     clear CI
     go_wp2_with fail
     refine ⟨rfl, ?_⟩
     rw [HQ.out]
     exact ⟨rfl, OnX.below hX R.out.below⟩
    by_cases hlow : (bn s k : Int) < 32
    ·have hlow2 := decide_eq_true hlow
     have HQ := Lib.hid (show quoN s i (i + 1) [] = .bad k 30 by rw [R.out.res, HE.out, h2, h39, h92, hlow2]; rfl)
     clear HE CS CW
     go_wp2_with fail
     refine ⟨rfl, ?_⟩
     rw [HQ.out]
     exact ⟨rfl, OnX.below hX R.out.below⟩
    ·by_cases hgr : (126 : Int) < (bn s k : Int)
     ·have hgr2 := decide_eq_true hgr
      have HQ := Lib.hid (show quoN s i (i + 1) [] = .bad k 30 by rw [R.out.res, HE.out, h2, h39, h92, hgr2, Bool.or_true]; rfl)
      clear HE CS CW
      go_wp2_with fail
      refine ⟨rfl, ?_⟩
      rw [HQ.out]
      exact ⟨rfl, OnX.below hX R.out.below⟩
     ·have hlow2 := decide_eq_false hlow
      have hgr2 := decide_eq_false hgr
      have HQ := Lib.hid (show quoN s i k l = quoN s i (k + 1) (l ++ [bu s k]) by rw [HE.out, h2, h39, h92, hlow2, hgr2]; rfl)
      clear HE CS
      go_wp2_with fail
      refine (CW.out _).mono ?_
      rintro e w1 ⟨rfl, hb1, hb2⟩
      have R1 := Lib.hid (R.out.step (iv' := .int .i64 ((k : Int) + 1)) hX (Below.refl _ _) hb1 hb2 (by go_num) rfl (by omega) (by omega) HQ.out)
      clear hb1 hb2 CW HQ
      go_wp2_with fail
      go_roundw
      case rel => exact ⟨_, _, R1.out⟩
      case measure => simp [intOf]; omega
  ·obtain rfl : k = s.size := by omega
   have HQ := Lib.hid (show quoN s i (i + 1) [] = .bad i 31 from R.out.res.trans (quoN_end (Nat.le_refl _)))
   go_wp2_with fail
   refine ⟨rfl, ?_⟩
   rw [HQ.out]
   exact ⟨rfl, OnX.below hX R.out.below⟩
end Go.Proofs.YtibcpdmeigdgpaaGreatDoor
