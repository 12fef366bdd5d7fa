/- The program's lexer: a byte's class; what 'while' takes. The program's lexer: the scanner in memory; 'while'. The program's 'plain': does a name stand without quotes? strings.Builder: what its writing methods do (the shelf's contracts are not laid where the dump has left out copyCheck's panic: walked anew, over the shelf's own words). The program's Quote: the plain one. -/
import Derived.Test.YtiefbdblefliaaaDoorLex4
import Derived.Test.YtiefbdblefliaaaDoorShelf
import Derived.Deep.RegionLaw
import Derived.WalkMore
import Derived.Deep.LoopGhost
import Derived.Deep.RegionHeld3
import Derived.Deep.DeepCutAuto
import Derived.Deep.CutRange
import Derived.Deep.CutBlock
import Derived.Deep.RegionWith
import Derived.Deep.AppendLies
import Derived.Lib.OwnKind
import Derived.Test.YtiefbdblefliaaaDoorGe
import Derived.Test.YtiefbdblefliaaaDoorGa
import Derived.Lib.Builder
import Derived.Lib.AppendStr
import Derived.Lib.UnsafeStr
import Derived.WalkKit
import Derived.Laws.Externs
import Derived.Lib.Hide
import Derived.Test.YtiefbdblefliaaaDoorLq1
namespace Go.Proofs.YtiefbdblefliaaaDoor
open Go.RowKit

/-- A byte's class. -/
def ofN (c : Int) : Int :=
  if smallB c then 1 else if greatB c then 2 else if digitB c then 3 else if signB c then 4 else if blankB c then 5 else if c == 33 || c == 59 then 6 else if markB c then 7 else if c == 39 then 8 else 0
theorem idx_sign : ∀ n : Nat, n < 256 → decide (0 ≤ Lib.indexByte [43, 45, 42, 47, 92, 94, 60, 62, 61, 58, 46, 63, 64, 35, 36, 38, 126] (n : Int).toNat.toUInt8) = signB (n : Int) := by decide +kernel
theorem idx_mark : ∀ n : Nat, n < 256 → decide (0 ≤ Lib.indexByte [40, 41, 91, 93, 123, 125, 44, 124] (n : Int).toNat.toUInt8) = markB (n : Int) := by decide +kernel
set_option maxRecDepth 100000 in
set_option maxHeartbeats 4000000 in
theorem of_any (n : Nat) (hn : n < 256) (w : World) : Calls Tryd.prog 57 #[.int .u8 (n : Int)] w fun e w' => e = .returned (.int .i64 (ofN n)) ∧ w' = w := by
  have hs := idx_sign n hn
  have hm := idx_mark n hn
  obtain ⟨vs, hvs⟩ : ∃ v, Lib.indexByte [43, 45, 42, 47, 92, 94, 60, 62, 61, 58, 46, 63, 64, 35, 36, 38, 126] (n : Int).toNat.toUInt8 = v := ⟨_, rfl⟩
  obtain ⟨vm, hvm⟩ : ∃ v, Lib.indexByte [40, 41, 91, 93, 123, 125, 44, 124] (n : Int).toNat.toUInt8 = v := ⟨_, rfl⟩
  rw [hvs] at hs
  rw [hvm] at hm
  obtain ⟨c, hc⟩ : ∃ c : Int, c = (n : Int) := ⟨_, rfl⟩
  rw [← hc] at hs hm ⊢
  have CS := Lib.hid (Tryd.strings_IndexByte ⟨#[43, 45, 42, 47, 92, 94, 60, 62, 61, 58, 46, 63, 64, 35, 36, 38, 126]⟩ c w)
  have CM := Lib.hid (Tryd.strings_IndexByte ⟨#[40, 41, 91, 93, 123, 125, 44, 124]⟩ c w)
  have h1 : Lib.indexByte (⟨#[43, 45, 42, 47, 92, 94, 60, 62, 61, 58, 46, 63, 64, 35, 36, 38, 126]⟩ : ByteArray).data.toList c.toNat.toUInt8 = vs := by rw [hc]; exact hvs
  have h2 : Lib.indexByte (⟨#[40, 41, 91, 93, 123, 125, 44, 124]⟩ : ByteArray).data.toList c.toNat.toUInt8 = vm := by rw [hc]; exact hvm
  rw [h1] at CS
  rw [h2] at CM
  clear h1 h2 hvs hvm hc
  have HS := Lib.hid hs
  have HM := Lib.hid hm
  clear hs hm
  go_enter Tryd.func57, Tryd.ntmps57
  go_wp2_with (first | (refine CS.out.mono ?_; rintro e w1 ⟨rfl, rfl⟩) | (refine CM.out.mono ?_; rintro e w1 ⟨rfl, rfl⟩))
  all_goals
    go_ret
    refine ⟨?_, rfl⟩
    refine congrArg (fun x => Ending.returned (Value.int .i64 x)) ?_
    have hs := HS.out.symm
    have hm := HM.out.symm
    unfold ofN
    rw [hs, hm]
    clear HS HM CS CM hs hm
    simp only [beq_iff_eq, beq_eq_false_iff_ne, ne_eq] at *
    simp only [smallB, greatB, digitB, blankB, Bool.and_eq_true, Bool.or_eq_true, decide_eq_true_eq, beq_iff_eq]
    repeat' split
    all_goals first | rfl | (exfalso; omega)
end Go.Proofs.YtiefbdblefliaaaDoor
namespace Go.Proofs.YtiefbdblefliaaaDoor
open Go.RowKit

/-- The scanner's box. -/
def Sc (w : World) (X : Nat) (s : ByteArray) (k : Nat) (v : Value) : Prop := w.heap[X]? = some (.cells #[.string s, .int .i64 (k : Int), v] 94 (0, 0))
/-- Only the scanner's box has changed, of what was there. -/
structure OnX (X : Nat) (w w' : World) : Prop where
  low : Below X w w'
  far : ∀ b, b < w.heap.size → b ≠ X → w'.heap[b]? = w.heap[b]?
theorem OnX.refl (X : Nat) (w : World) : OnX X w w := ⟨Below.refl _ _, fun _ _ _ => rfl⟩
theorem OnX.trans {X : Nat} {a b c : World} (h : OnX X a b) (k : OnX X b c) : OnX X a c := ⟨h.low.trans k.low, fun g hg hx => (k.far g (Nat.lt_of_lt_of_le hg h.low.size) hx).trans (h.far g hg hx)⟩
theorem OnX.drew {X : Nat} {a b : World} (h : OnX X a b) : OnX X a b.drew := ⟨h.low.drew, h.far⟩
theorem OnX.below {X : Nat} {a b : World} (hX : X < a.heap.size) (h : Below a.heap.size a b) : OnX X a b := ⟨h.mono (Nat.le_of_lt hX), fun g hg _ => h.block g hg⟩
theorem OnX.cell {X : Nat} {a b : World} (h : OnX X a b) {p : Addr} {u : Value} (hp : p.block ≠ X) (hc : a.cell? p = some u) : b.cell? p = some u := by
  have hl := World.block_lt_of_cell? a p hc
  rw [World.cell?_of_block (h.far _ hl hp)]
  exact hc
theorem Sc.lt {w : World} {X : Nat} {s : ByteArray} {k : Nat} {v : Value} (h : Sc w X s k v) : X < w.heap.size := heap_lt h
theorem Sc.cells {w : World} {X : Nat} {s : ByteArray} {k : Nat} {v : Value} (h : Sc w X s k v) : w.cell? ⟨X, 0, none⟩ = some (.string s) ∧ w.cell? ⟨X, 1, none⟩ = some (.int .i64 (k : Int)) ∧ w.cell? ⟨X, 2, none⟩ = some v ∧ (∀ i, w.frozen? ⟨X, i, none⟩ = false) :=
  ⟨cell_of_row w X 0 _ _ _ h, cell_of_row w X 1 _ _ _ h, cell_of_row w X 2 _ _ _ h, fun i => by simp [World.frozen?, show w.heap[X]? = _ from h]⟩
theorem Sc.at_ {w : World} {X : Nat} {s : ByteArray} {k : Nat} {v : Value} (h : Sc w X s k v) (j : Nat) : Sc (w.setCell ⟨X, 1, none⟩ (.int .i64 (j : Int))) X s j v ∧ OnX X w (w.setCell ⟨X, 1, none⟩ (.int .i64 (j : Int))) :=
  ⟨by simpa [Sc] using blk_set h 1 (.int .i64 (j : Int)), ⟨(Below.refl _ _).setCell (p := ⟨X, 1, none⟩) (Nat.le_refl _) _, fun g _ hg => Below.heap_setCell _ _ _ _ hg⟩⟩
theorem Sc.drew {w : World} {X : Nat} {s : ByteArray} {k : Nat} {v : Value} (h : Sc w X s k v) : Sc w.drew X s k v := h
theorem Sc.below {w w' : World} {X : Nat} {s : ByteArray} {k : Nat} {v : Value} (h : Sc w X s k v) (hb : Below w.heap.size w w') : Sc w' X s k v := (hb.block X h.lt).trans h

/-- Is a byte of one of these classes? -/
def oneOf (cs : List Int) (c : Int) : Bool := cs.any fun k => c == k
set_option maxHeartbeats 8000000 in
set_option maxRecDepth 100000 in
theorem while_any (K : Int) (cs : List Int) (hcs : ∀ n : Nat, n < 256 → oneOf cs (ofN n) = kindB K n) (s : ByteArray) (hs : s.size ≤ 100000) {w : World} {X b k : Nat} {v : Value} (h : Sc w X s k v) (hk : k ≤ s.size)
    (hbX : b ≠ X) (hbl : b < w.heap.size) (hm : cs.length ≤ 10) (hc : ∀ (i : Nat) (u : Int), cs[i]? = some u → w.cell? ⟨b, i, none⟩ = some (.int .i64 u)) :
    Calls Tryd.prog 58 #[.pointer (some ⟨X, 0, none⟩), .slice (some ⟨b, 0, none⟩) cs.length cs.length] w fun e w' =>
      e = .returned (.string (s.extract k (runN K s k))) ∧ Sc w' X s (runN K s k) v ∧ OnX X w w' := by
  have hb : ∀ (i : Nat) (h : i < s.size), (s[i]'h).toNat = bn s i := bn_eq s
  obtain ⟨m, hmm⟩ : ∃ m, m = cs.length := ⟨_, rfl⟩
  rw [← hmm]
  have HM := Lib.hid hmm
  have hm10 : m ≤ 10 := by omega
  have HC := Lib.hid hc
  have HCS := Lib.hid hcs
  have HS := Lib.hid h
  have HBX := Lib.hid hbX
  have hX := h.lt
  obtain ⟨x0, x1, x2, xf⟩ := h.cells
  clear hc hcs h hmm hm hbX
  go_enter Tryd.func58, Tryd.ntmps58
  go_wp2_with fail
  go_step3
  go_wp2_with fail
  go_step3
  go_wp2_with fail
  go_loopg [] (s.size - k) (fun g wr => ∃ j, j + g = s.size ∧ k ≤ j ∧ runN K s k = runN K s j ∧ Sc wr X s j v ∧ OnX X w wr)
  case atStart => exact ⟨k, by omega, Nat.le_refl _, rfl, HS.out, OnX.refl _ _⟩
  case round =>
    obtain ⟨j, hjg, hkj, hr, hsc, hon⟩ := hrel
    have HR := Lib.hid hr
    have SC := Lib.hid hsc
    have ON := Lib.hid hon
    have hXr := hsc.lt
    obtain ⟨y0, y1, y2, yf⟩ := hsc.cells
    clear hr hsc hon x0 x1 x2 xf
    by_cases hj : j < s.size
    · have hj' : (j : Int) < (s.size : Int) := by omega
      have Y := Lib.hid (And.intro y0 y1)
      have CO := Lib.hid (fun W => of_any (bn s j) (bn_lt s j) W)
      obtain ⟨cv, hcv⟩ : ∃ cv, cv = ofN (bn s j) := ⟨_, rfl⟩
      rw [← hcv] at CO
      have HCV := Lib.hid hcv
      clear hcv
      go_wp2_with fail
      go_region
      go_wp2_with fail
      go_region_held3 (fun w' => w'.cell? ⟨X, 0, none⟩ = some (.string s) ∧ w'.cell? ⟨X, 1, none⟩ = some (.int .i64 (j : Int)))
        ((exact Y.out))
        ((go_at_call 57; (with_reducible refine (CO.out _).mono ?_); rintro e w1 ⟨rfl, rfl⟩))
      go_wp2_with fail
      obtain ⟨g0, hg0⟩ : ∃ g0, gk = g0 + 1 := ⟨gk - 1, by omega⟩
      clear y0 y1 y2 yf
      go_loopg [35] m (fun g iv w2 => ∃ i : Nat, i + g = m ∧ iv = .int .i64 (i : Int) ∧ (∀ (x : Nat) (u : Int), x < i → cs[x]? = some u → (cv == u) = false) ∧ Sc w2 X s j v ∧ OnX X w w2)
      case atStart => exact ⟨0, by omega, rfl, fun x u hx => absurd hx (by omega), SC.out, ON.out.drew.drew⟩
      case round =>
        clear SC ON Y CO
        obtain ⟨i, hig, rfl, hno, hsc, hon⟩ := hrel
        have NO := Lib.hid hno
        have SC := Lib.hid hsc
        have ON := Lib.hid hon
        have hXr := hsc.lt
        obtain ⟨y0, y1, y2, yf⟩ := hsc.cells
        have hbr := Nat.lt_of_lt_of_le hbl hon.low.size
        clear hno hsc hon
        by_cases hi : i < m
        · have hi' : (i : Int) < (m : Int) := by omega
          obtain ⟨u, hu⟩ : ∃ u, cs[i]? = some u := ⟨_, List.getElem?_eq_getElem (by have := HM.out; omega)⟩
          have c0 := ON.out.cell (p := ⟨b, i, none⟩) HBX.out (HC.out i u hu)
          have HU := Lib.hid hu
          clear hu
          cases he : (cv == u)
          · go_wp2_with fail
            go_roundg (gk - 1)
            case measure => omega
            case rel =>
              refine ⟨i + 1, by omega, by go_num, fun x z hx hz => ?_, SC.out, ON.out⟩
              by_cases hxi : x = i
              · subst hxi
                rw [HU.out] at hz
                injection hz with hz
                subst hz
                exact he
              · exact NO.out x z (by omega) hz
          · have hk2 : kindB K (bn s j) = true := by
              rw [← HCS.out _ (bn_lt s j), ← HCV.out]
              exact List.any_eq_true.2 ⟨u, List.mem_of_getElem? HU.out, he⟩
            have s2 := SC.out.at_ (j + 1)
            rw [show ((j + 1 : Nat) : Int) = (j : Int) + 1 from by omega] at s2
            have S2 := Lib.hid s2
            clear s2
            have HR2 := Lib.hid (HR.out.trans (runN_step hj hk2))
            clear hk2
            go_wp2_with fail
            go_roundg g0
            case measure => omega
            case rel => exact ⟨j + 1, by omega, by omega, HR2.out, S2.out.1, ON.out.trans S2.out.2⟩
        · have hk2 : kindB K (bn s j) = false := by
            rw [← HCS.out _ (bn_lt s j), ← HCV.out]
            refine Bool.eq_false_iff.2 fun h => ?_
            obtain ⟨u, hu, he⟩ := List.any_eq_true.1 h
            obtain ⟨x, hx⟩ := List.getElem?_of_mem hu
            have hxl : x < cs.length := by
              rcases Nat.lt_or_ge x cs.length with h1 | h1
              · exact h1
              · rw [List.getElem?_eq_none h1] at hx; cases hx
            rw [NO.out x u (by have := HM.out; omega) hx] at he
            cases he
          have HR2 := Lib.hid (HR.out.trans (runN_stop hk2))
          clear hk2
          have hkj' : (k : Int) ≤ (j : Int) := by omega
          have hjs' : (j : Int) ≤ (s.size : Int) := by omega
          go_wp2_with fail
          go_region
          go_wp2_with fail
          try rw [Exit.noGoto_ret]
          go_ret
          rw [HR2.out]
          exact ⟨rfl, SC.out, ON.out.drew⟩
    · obtain rfl : j = s.size := by omega
      have HR2 := Lib.hid (HR.out.trans (runN_end (Nat.le_refl _)))
      have hkj' : (k : Int) ≤ (s.size : Int) := by omega
      go_wp2_with fail
      go_region
      go_wp2_with fail
      go_region
      go_wp2_with fail
      try rw [Exit.noGoto_ret]
      go_ret
      rw [HR2.out]
      exact ⟨rfl, SC.out, ON.out.drew.drew⟩
end Go.Proofs.YtiefbdblefliaaaDoor
namespace Go.Proofs.YtiefbdblefliaaaDoor
open Go.RowKit

theorem cls_cells {w : World} {t : TypeId} (cs : List Int) : ∀ (i : Nat) (u : Int), cs[i]? = some u → (w.alloc (.cells (cs.map (Value.int .i64)).toArray t)).cell? ⟨w.heap.size, i, none⟩ = some (.int .i64 u) := by
  intro i u hu
  rw [cell_of_row _ _ i _ _ _ (heap_alloc_new _ _)]
  simp [hu]
theorem all_run {s : ByteArray} {r : Nat} (h : r ≤ s.size) : ((s.extract 0 r).toList == s.toList) = decide (r = s.size) := by
  by_cases hr : r = s.size
  · subst hr
    rw [extract_all]
    simp
  · rw [decide_eq_false hr, beq_eq_false_iff_ne]
    intro he
    have h1 : (s.extract 0 r).toList.length = s.toList.length := by rw [he]
    simp only [ByteArray.toList_eq] at h1
    rw [list_len, list_len, ByteArray.size_extract] at h1
    omega
theorem dot_text {s : ByteArray} : (s.toList == [46]) = (decide (s.size = 1) && (bn s 0 : Int) == 46) := by
  rw [ByteArray.toList_eq]
  obtain ⟨⟨l⟩⟩ := s
  have e : (ByteArray.mk ⟨l⟩).size = l.length := rfl
  have e2 : bn ⟨⟨l⟩⟩ 0 = (l.getD 0 0).toNat := rfl
  rw [e, e2]
  match l with
  | [] => rfl
  | [a] =>
    have h : (((a.toNat : Nat) : Int) == 46) = decide (a = 46) := byte_eq a 46
    show ([a] == [46]) = (true && (((a.toNat : Nat) : Int) == 46))
    rw [h]
    simp
    rfl
  | a :: b :: l =>
    rw [beq_eq_false_iff_ne.2 (by simp), decide_eq_false (by simp)]
    rfl
/-- 'while' of a scanner that has just been made. -/
theorem while_box {K : Int} (cs : List Int) (hcs : ∀ n : Nat, n < 256 → oneOf cs (ofN n) = kindB K n) (hm : cs.length ≤ 10) (s : ByteArray) (hs : s.size ≤ 4096) (w : World) :
    Calls Tryd.prog 58 #[.pointer (some ⟨w.heap.size, 0, none⟩), .slice (some ⟨w.heap.size + 1, 0, none⟩) cs.length cs.length]
      ((w.alloc (.cells #[.string s, .int .i64 0, .slice none 0 0] 94)).alloc (.cells (cs.map (Value.int .i64)).toArray 90)) fun e w' =>
      e = .returned (.string (s.extract 0 (runN K s 0))) ∧ Below w.heap.size w w' := by
  have hz : (w.alloc (.cells #[.string s, .int .i64 0, .slice none 0 0] 94)).heap.size = w.heap.size + 1 := by simp
  have hsc : Sc ((w.alloc (.cells #[.string s, .int .i64 0, .slice none 0 0] 94)).alloc (.cells (cs.map (Value.int .i64)).toArray 90)) w.heap.size s 0 (.slice none 0 0) :=
    (Below.heap_alloc _ _ _ (by omega)).trans (heap_alloc_new _ _)
  have hcell := cls_cells (w := w.alloc (.cells #[.string s, .int .i64 0, .slice none 0 0] 94)) (t := 90) cs
  rw [hz] at hcell
  refine (while_any K cs hcs s (by omega) hsc (Nat.zero_le _) (b := w.heap.size + 1) (by omega) (by simp) hm hcell).mono ?_
  rintro e w1 ⟨rfl, _, hon⟩
  exact ⟨rfl, (((Below.refl _ _).alloc (Nat.le_refl _) _).alloc (by simp) _).trans hon.low⟩
set_option maxHeartbeats 8000000 in
set_option maxRecDepth 100000 in
theorem plain_any (s : ByteArray) (hs : s.size ≤ 4096) (w : World) : Calls Tryd.prog 46 #[.string s] w fun e w' => e = .returned (.bool (plainN s)) ∧ Below w.heap.size w w' := by
  have hb : ∀ (i : Nat) (h : i < s.size), (s[i]'h).toNat = bn s i := bn_eq s
  by_cases h0 : s.size = 0
  · obtain rfl : s = ⟨#[]⟩ := bytes_same (List.eq_nil_of_length_eq_zero (by rw [list_len]; exact h0))
    go_enter Tryd.func46, Tryd.ntmps46
    go_wp2_with fail
    go_ret
    exact ⟨rfl, Below.refl _ _⟩
  have hpos : 0 < s.size := by omega
  have hne : (s.toList == []) = false := by
    rw [beq_eq_false_iff_ne, ByteArray.toList_eq]
    intro h
    exact h0 (by rw [← list_len, h]; rfl)
  have CO := Lib.hid (of_any (bn s 0) (bn_lt s 0) w)
  clear h0
  cases hsm : smallB (bn s 0) with
  | true =>
    have hc : ofN (bn s 0) = 1 := by unfold ofN; rw [hsm]; rfl
    rw [hc] at CO
    have HP := Lib.hid (show plainN s = decide (runN 1 s 0 = s.size) by unfold plainN; rw [decide_eq_true hpos, hsm]; rfl)
    clear hc hsm
    go_enter Tryd.func46, Tryd.ntmps46
    go_wp2_with fail
    refine CO.out.mono ?_
    rintro e w1 ⟨rfl, rfl⟩
    clear CO
    go_wp2_with fail
    refine (while_box (K := 1) [1, 2, 3] (by decide +kernel) (by decide) s hs _).mono ?_
    rintro e w2 ⟨rfl, hb2⟩
    have B2 := Lib.hid hb2
    clear hb2
    go_wp2_with fail
    go_ret
    exact ⟨by rw [HP.out, ← all_run (runN_le (Nat.zero_le _))]; rfl, B2.out⟩
  | false =>
    cases hsi : signB (bn s 0) with
    | true =>
      have hc : ofN (bn s 0) = 4 := by
        obtain ⟨_, f2, f3, _⟩ := sign_facts hsi
        unfold ofN; rw [hsm, f2, f3, hsi]; rfl
      rw [hc] at CO
      have HP := Lib.hid (show plainN s = (!(s.toList == [46]) && !(twoB s 0 47 42) && decide (runN 3 s 0 = s.size)) by unfold plainN; rw [decide_eq_true hpos, hsm, hsi, dot_text]; rfl)
      have CP := Lib.hid (show ∀ W, Calls Tryd.prog 59 #[.string s, .string ⟨#[47, 42]⟩] W fun e w' => e = .returned (.bool (twoB s 0 47 42)) ∧ w' = W from fun W => by
        have e := has_two s 0 47 42
        rw [extract_all] at e
        have e2 : twoB s 0 47 42 = twoB s 0 (47 : UInt8).toNat (42 : UInt8).toNat := rfl
        rw [e2, ← e]
        exact Tryd.strings_HasPrefix s ⟨#[47, 42]⟩ W)
      clear hc hsm hsi
      cases hdot : (s.toList == [46]) with
      | true =>
        have hdot' : (s.toList != [46]) = false := by simp [bne, hdot]
        rw [hdot] at HP
        go_enter Tryd.func46, Tryd.ntmps46
        go_wp2_with fail
        refine CO.out.mono ?_
        rintro e w1 ⟨rfl, rfl⟩
        clear CO
        go_wp2_with fail
        go_ret
        exact ⟨by rw [HP.out]; rfl, (Below.refl _ _).alloc (Nat.le_refl _) _⟩
      | false =>
        have hdot' : (s.toList != [46]) = true := by simp [bne, hdot]
        rw [hdot] at HP
        go_enter Tryd.func46, Tryd.ntmps46
        go_wp2_with fail
        refine CO.out.mono ?_
        rintro e w1 ⟨rfl, rfl⟩
        clear CO
        go_wp2_with fail
        refine (CP.out _).mono ?_
        rintro e w2 ⟨rfl, rfl⟩
        cases h2 : twoB s 0 47 42 with
        | true =>
          rw [h2] at HP
          clear CP
          go_wp2_with fail
          go_ret
          exact ⟨by rw [HP.out]; rfl, (Below.refl _ _).alloc (Nat.le_refl _) _⟩
        | false =>
          rw [h2] at HP
          clear CP
          go_wp2_with fail
          refine (while_box (K := 3) [4] (by decide +kernel) (by decide) s hs _).mono ?_
          rintro e w2 ⟨rfl, hb2⟩
          have B2 := Lib.hid hb2
          clear hb2
          go_wp2_with fail
          go_ret
          exact ⟨by rw [HP.out, ← all_run (runN_le (Nat.zero_le _))]; rfl, B2.out⟩
    | false =>
      cases hso : ((bn s 0 : Int) == 33 || (bn s 0 : Int) == 59) with
      | true =>
        have hc : ofN (bn s 0) = 6 := by
          have f : ∀ c : Int, (c = 33 ∨ c = 59) → ofN c = 6 := by
            rintro c (rfl | rfl) <;> decide
          exact f _ (by simpa using hso)
        rw [hc] at CO
        have HP := Lib.hid (show plainN s = decide (s.size = 1) by unfold plainN; rw [decide_eq_true hpos, hsm, hsi, hso]; rfl)
        clear hc hsm hsi hso
        go_enter Tryd.func46, Tryd.ntmps46
        go_wp2_with fail
        refine CO.out.mono ?_
        rintro e w1 ⟨rfl, rfl⟩
        clear CO
        go_wp2_with fail
        go_ret
        refine ⟨?_, Below.refl _ _⟩
        rw [HP.out]
        refine congrArg (fun b => Ending.returned (Value.bool b)) ?_
        rw [Bool.eq_iff_iff, beq_iff_eq, decide_eq_true_eq]
        omega
      | false =>
        have HP := Lib.hid (show plainN s = false by unfold plainN; rw [decide_eq_true hpos, hsm, hsi, hso]; rfl)
        obtain ⟨c, hc⟩ : ∃ c, ofN (bn s 0) = c := ⟨_, rfl⟩
        have hn : (c == 1) = false ∧ (c == 4) = false ∧ (c == 6) = false := by
          subst hc
          unfold ofN
          rw [hsm, hsi, hso]
          simp only [Bool.false_eq_true, if_false]
          repeat' split
          all_goals exact ⟨by decide, by decide, by decide⟩
        obtain ⟨n1, n4, n6⟩ := hn
        rw [hc] at CO
        clear hc hsm hsi hso
        go_enter Tryd.func46, Tryd.ntmps46
        go_wp2_with fail
        refine CO.out.mono ?_
        rintro e w1 ⟨rfl, rfl⟩
        clear CO
        go_wp2_with fail
        go_ret
        exact ⟨by rw [HP.out]; rfl, Below.refl _ _⟩
end Go.Proofs.YtiefbdblefliaaaDoor
namespace Go.Proofs.YtiefbdblefliaaaDoor
open Go.RowKit

abbrev TB : TypeId := 56
theorem Tryd.info_bld : (Tryd.prog.info? TB).map (fun i => i.size) = some 2 := by kernel_rfl
theorem lies_bld : liesAt Tryd.prog Tryd.prog.depth TB (2 / Tryd.prog.cellsOf TB) 0 TB 1 = true := by kernel_rfl
theorem Tryd.info_byte : (Tryd.prog.info? 5).map (fun i => (i.zero, i.size, i.bytes)) = some (some (.int .u8 0), 1, 1) := by kernel_rfl
set_option maxHeartbeats 1000000 in
set_option maxRecDepth 100000 in
theorem check_used (b : Nat) (w : World) (h0 : w.cell? ⟨b, 0, none⟩ = some (.pointer (some ⟨b, 0, none⟩))) :
    Calls Tryd.prog 55 #[.pointer (some ⟨b, 0, none⟩)] w fun e w' => e = .returned (.tuple #[]) ∧ w' = w := by
  obtain ⟨j, hj, _⟩ := Option.map_eq_some_iff.1 Tryd.info_bld
  go_enter Tryd.func55, Tryd.ntmps55
  go_wp2
  rw [Lib.run_neq_ptr_same w _ Tryd.underlying53 hj]
  go_wp2
  go_end0
  exact ⟨rfl, rfl⟩
set_option maxHeartbeats 1000000 in
set_option maxRecDepth 100000 in
theorem check_fresh (b : Nat) (w : World) (h0 : w.cell? ⟨b, 0, none⟩ = some (.pointer none)) (hsh : w.shape? b = some (TB, 2)) (hfz : w.frozen? ⟨b, 0, none⟩ = false) :
    Calls Tryd.prog 55 #[.pointer (some ⟨b, 0, none⟩)] w fun e w' => e = .returned (.tuple #[]) ∧ w' = w.setCell ⟨b, 0, none⟩ (.pointer (some ⟨b, 0, none⟩)) := by
  obtain ⟨j, hj, hjs⟩ := Option.map_eq_some_iff.1 Tryd.info_bld
  go_enter Tryd.func55, Tryd.ntmps55
  go_wp2
  rw [Lib.run_to_unsafe w ⟨b, 0, none⟩ Tryd.underlying53 Tryd.underlying104 hj (by rw [hjs]; decide) hsh (Nat.zero_lt_succ 1)]
  simp only [Result.andThen]
  rw [Oper.upon_value]
  go_wp2
  rw [run_callFunc_extern Tryd.func69 (by kernel_rfl) (by kernel_rfl) (by kernel_rfl) (e := Extern.AbiNoEscape.same) (by kernel_rfl)]
  rw [Lib.run_noEscape]
  simp only [Result.andThen]
  rw [Oper.upon_value]
  go_wp2
  rw [Lib.run_from_unsafe w ⟨b, 0, none⟩ Tryd.underlying104 Tryd.underlying53 hj hsh lies_bld]
  simp only [Result.andThen]
  rw [Oper.upon_value]
  go_wp2
  go_end0
  exact ⟨rfl, rfl⟩
theorem check_any (B b : Nat) (bs : List Value) (w : World) (h : Lib.IsBuilder TB 5 B b bs w) :
    Calls Tryd.prog 55 #[.pointer (some ⟨b, 0, none⟩)] w fun e w' => e = .returned (.tuple #[]) ∧ (Lib.BuilderAt TB 5 B b (.pointer (some ⟨b, 0, none⟩)) bs w' ∧ Below B w w') := by
  rcases h with h | h
  · refine (check_fresh b w h.cell0 h.shape h.frozen0).mono ?_
    rintro e w' ⟨rfl, rfl⟩
    exact ⟨rfl, h.used _, (Below.refl B w).setCell (p := ⟨b, 0, none⟩) h.1 _⟩
  · refine (check_used b w h.cell0).mono ?_
    rintro e w' ⟨rfl, rfl⟩
    exact ⟨rfl, h, Below.refl B _⟩
theorem bld_lt {w : World} {b : Nat} {cs : Array Value} {T : TypeId} {f : Nat × Nat} (h : w.heap[b]? = some (.cells cs T f)) : b < w.heap.size := by
  rcases Nat.lt_or_ge b w.heap.size with h' | h'
  · exact h'
  · rw [Array.getElem?_eq_none h'] at h; cases h
set_option maxHeartbeats 2000000 in
set_option maxRecDepth 100000 in
/-- WriteByte. -/
theorem wbyte_any (B b : Nat) (bs : List Value) (c : Int) (w : World) (h : Lib.IsBuilder TB 5 B b bs w) (hlen : bs.length + 1 ≤ 140737488355328) (hBw : B ≤ w.heap.size) :
    Calls Tryd.prog 47 #[.pointer (some ⟨b, 0, none⟩), .int .u8 c] w fun e w' => e = .returned .nilIface ∧ (Lib.IsBuilder TB 5 B b (bs ++ [.int .u8 c]) w' ∧ Below B w w') := by
  obtain ⟨i0, hi, hz0, hz1, hz2⟩ := info_parts Tryd.info_byte
  go_enter Tryd.func47, Tryd.ntmps47
  go_wp2_with (go_at_call 55; refine (check_any B b bs _ h).mono ?_)
  rintro e w1 ⟨rfl, h1, hb1⟩
  obtain ⟨hB, v, hbk, hown, hne⟩ := h1
  have c0 : w1.cell? ⟨b, 0, none⟩ = some (.pointer (some ⟨b, 0, none⟩)) := by rw [Lib.cell_of_heap hbk]; rfl
  have c1 : w1.cell? ⟨b, 1, none⟩ = some v := by rw [Lib.cell_of_heap hbk]; rfl
  go_wp2_with (at_builtin; refine wpList_append_own _ rfl _ _ 54 rfl B 5 i0 (.int .u8 0) 1 1 Tryd.underlying54 hi hz0 hz1 hz2 rfl (by decide) _ _ _ rfl (hown.alloc _) ⟨w1.heap.size, 0, none⟩ 1 1 [.int .u8 c] rfl rfl ?c1 ?c2 ?c3 ?c4 ?c5 ?_)
  case c1 =>
    intro j u hj
    match j, hj with
    | 0, hj => simp at hj; subst hj; simp [Addr.add]
  case c2 => intro u hu; simp at hu; subst hu; rfl
  case c3 => unfold maxLen; omega
  case c4 => omega
  case c5 => have := hb1.size; simp; omega
  intro v' w2 hown' hgrow _
  have hlt := bld_lt hbk
  have hb2 : w2.heap[b]? = some (.cells #[.pointer (some ⟨b, 0, none⟩), v] TB (0, 0)) := by
    rw [hgrow.block b (by simp; omega) (fun e => hne e.symm), Below.heap_alloc _ _ _ hlt]
    exact hbk
  have d0 : w2.cell? ⟨b, 0, none⟩ = some (.pointer (some ⟨b, 0, none⟩)) := by rw [Lib.cell_of_heap hb2]; rfl
  have d1 : w2.cell? ⟨b, 1, none⟩ = some v := by rw [Lib.cell_of_heap hb2]; rfl
  have f1 : w2.frozen? ⟨b, 1, none⟩ = false := Lib.frozen_of_heap hb2 1
  obtain ⟨g, cap, rfl⟩ : ∃ g cap, v' = .slice (some ⟨g, 0, none⟩) (bs.length + 1) cap := by
    rcases hown'.2 with ⟨_, h0⟩ | ⟨g, cap, cur, hv, _⟩
    · omega
    · exact ⟨g, cap, hv⟩
  go_wp2
  go_ret
  refine ⟨rfl, .inr ?_, ?_⟩
  · exact Lib.BuilderAt.put (T := TB) (e := 5) hB hb2 (bs' := bs ++ [.int .u8 c]) (by simpa using hown') (by decide)
  · exact ((hb1.alloc (by have := hb1.size; omega) _).grown hgrow (by have := hb1.size; simp; omega) (fun k hk => (hown.lt k hk).1)).setCell (p := ⟨b, 1, none⟩) hB _
set_option maxHeartbeats 2000000 in
set_option maxRecDepth 100000 in
/-- WriteString. -/
theorem wstring_any (B b : Nat) (bs : List Value) (s : ByteArray) (w : World) (h : Lib.IsBuilder TB 5 B b bs w) (hlen : bs.length + s.size ≤ 140737488355328) (hBw : B ≤ w.heap.size) :
    Calls Tryd.prog 38 #[.pointer (some ⟨b, 0, none⟩), .string s] w fun e w' => e = .returned (.tuple #[.int .i64 s.size, .nilIface]) ∧ (Lib.IsBuilder TB 5 B b (bs ++ Lib.strCells s) w' ∧ Below B w w') := by
  obtain ⟨i0, hi, hz0, hz1, hz2⟩ := info_parts Tryd.info_byte
  go_enter Tryd.func38, Tryd.ntmps38
  go_wp2_with (go_at_call 55; refine (check_any B b bs _ h).mono ?_)
  rintro e w1 ⟨rfl, h1, hb1⟩
  obtain ⟨hB, v, hbk, hown, hne⟩ := h1
  have c0 : w1.cell? ⟨b, 0, none⟩ = some (.pointer (some ⟨b, 0, none⟩)) := by rw [Lib.cell_of_heap hbk]; rfl
  have c1 : w1.cell? ⟨b, 1, none⟩ = some v := by rw [Lib.cell_of_heap hbk]; rfl
  go_wp2_with (at_builtin; refine Lib.wpList_append_own_string _ rfl _ _ 54 9 rfl B 5 i0 Tryd.underlying54 Tryd.underlying9 hi hz0 hz1 hz2 _ _ _ rfl hown s rfl ?c3 ?c4 ?c5 ?_)
  case c3 => unfold maxLen; omega
  case c4 => omega
  case c5 => have := hb1.size; omega
  intro v' w2 hown' hgrow _
  have hlt := bld_lt hbk
  have hb2 : w2.heap[b]? = some (.cells #[.pointer (some ⟨b, 0, none⟩), v] TB (0, 0)) := by
    rw [hgrow.block b hlt (fun e => hne e.symm)]
    exact hbk
  have d0 : w2.cell? ⟨b, 0, none⟩ = some (.pointer (some ⟨b, 0, none⟩)) := by rw [Lib.cell_of_heap hb2]; rfl
  have d1 : w2.cell? ⟨b, 1, none⟩ = some v := by rw [Lib.cell_of_heap hb2]; rfl
  have f1 : w2.frozen? ⟨b, 1, none⟩ = false := Lib.frozen_of_heap hb2 1
  obtain ⟨ao, n', cap, rfl⟩ : ∃ ao n' cap, v' = .slice ao n' cap := by
    rcases hown'.2 with ⟨h0, _⟩ | ⟨g, cap, cur, hv, _⟩
    · exact ⟨_, _, _, h0⟩
    · exact ⟨_, _, _, hv⟩
  go_wp2
  refine bodyPost_ret (v := .tuple #[.int .i64 s.size, .nilIface]) (by simp [results, go_sem]) rfl ?_
  refine ⟨rfl, .inr ?_, ?_⟩
  · exact Lib.BuilderAt.put (T := TB) (e := 5) hB hb2 (bs' := bs ++ Lib.strCells s) (by rw [List.length_append, Lib.strCells_length]; exact hown') (by decide)
  · exact (hb1.grown hgrow (by have := hb1.size; omega) (fun k hk => (hown.lt k hk).1)).setCell (p := ⟨b, 1, none⟩) hB _
/-- A new builder. -/
theorem bld_new (w : World) : Lib.IsBuilder TB 5 w.heap.size w.heap.size [] (w.alloc (.cells #[.pointer none, .slice none 0 0] TB)) :=
  .inl ⟨Nat.le_refl _, .slice none 0 0, heap_alloc_new _ _, World.ownsRow_nil _ _ _ _, by simp [Value.ownBlock]⟩
end Go.Proofs.YtiefbdblefliaaaDoor
namespace Go.Proofs.YtiefbdblefliaaaDoor
open Go.RowKit

/-- What the loop of the program's Quote has gathered: w the world in which its builder is made. -/
structure QW (w : World) (s : ByteArray) (iv : Value) (wr : World) (k : Nat) (l : List UInt8) : Prop where
  hi : iv = .int .i64 (k : Int)
  bl : Lib.IsBuilder TB 5 w.heap.size w.heap.size (Lib.byteCells (39 :: l)) wr
  up : k ≤ s.size
  esc : escN (s.data.toList.take k) = some l
  low : Below w.heap.size w wr
theorem QW.few {w : World} {s : ByteArray} {iv : Value} {wr : World} {k : Nat} {l : List UInt8} (h : QW w s iv wr k l) : l.length ≤ 2 * k := by
  have h1 := escN_len _ _ h.esc
  rw [List.length_take] at h1
  omega
theorem QW.step {w : World} {s : ByteArray} {iv : Value} {wr w' : World} {k : Nat} {l : List UInt8} {iv' : Value} {vs : List Value} (h : QW w s iv wr k l) (y : List UInt8) (hy : esc1 (bu s k) = some y)
    (hi' : iv' = .int .i64 ((k + 1 : Nat) : Int)) (hb : Lib.IsBuilder TB 5 w.heap.size w.heap.size (Lib.byteCells (39 :: l) ++ vs) w') (hv : vs = Lib.byteCells y) (hk : k < s.size) (hw : Below w.heap.size wr w') : QW w s iv' w' (k + 1) (l ++ y) := by
  subst hv
  refine ⟨hi', ?_, hk, by rw [take_succ s hk, escN_snoc, h.esc, hy], h.low.trans hw⟩
  have e : Lib.byteCells (39 :: (l ++ y)) = Lib.byteCells (39 :: l) ++ Lib.byteCells y := by simp [Lib.byteCells]
  rw [e]
  exact hb
theorem str_two (s : ByteArray) {k : Nat} (hk : k < s.size) : Lib.strCells ((⟨#[92]⟩ : ByteArray) ++ s.extract k (k + 1)) = Lib.byteCells [92, bu s k] := by
  have e : ((⟨#[92]⟩ : ByteArray) ++ s.extract k (k + 1)).data.toList = [92, bu s k] := by
    have h1 := list_extract s k (k + 1)
    have h2 : s.data.toList.drop k = bu s k :: s.data.toList.drop (k + 1) := by
      have h : k < s.data.toList.length := by rw [list_len]; exact hk
      rw [← List.getElem_cons_drop h]
      congr 1
      have := list_at s hk
      rw [List.getElem?_eq_getElem h] at this
      injection this
    rw [ByteArray.data_append, Array.toList_append, h1, h2, show k + 1 - k = 1 by omega]
    rfl
  simp only [Lib.strCells, Lib.byteCells, e]
set_option maxHeartbeats 16000000 in
set_option maxRecDepth 100000 in
theorem pquote_any (s : ByteArray) (hs : s.size ≤ 4096) (w : World) : Calls Tryd.prog 23 #[.string s] w fun e w' => e = .returned (.string (quoteN s)) ∧ Below w.heap.size w w' := by
  have hb : ∀ (i : Nat) (h : i < s.size), (s[i]'h).toNat = bn s i := bn_eq s
  have hs' : (s.size : Int) ≤ 4096 := by omega
  go_enter Tryd.func23, Tryd.ntmps23
  go_wp2_with fail
  refine (plain_any s hs w).mono ?_
  rintro e w1 ⟨rfl, hb1⟩
  have B1 := Lib.hid hb1
  clear hb1
  cases hp : plainN s with
  | true =>
    have HP := Lib.hid hp
    go_wp2_with fail
    go_ret
    exact ⟨by rw [quote_plain HP.out]; rfl, B1.out⟩
  | false =>
    have HP := Lib.hid hp
    clear hp
    have CW := Lib.hid (wbyte_any w1.heap.size w1.heap.size [] 39 _ (bld_new w1) (by simp) (by simp))
    go_wp2_with fail
    refine CW.out.mono ?_
    rintro e w2 ⟨rfl, hbl, hb2⟩
    have B2 := Lib.hid ((Below.refl _ _).alloc (Nat.le_refl w1.heap.size) (.cells #[.pointer none, .slice none 0 0] TB) |>.trans hb2)
    have L2 := Lib.hid hbl
    clear hbl hb2 CW
    go_wp2_with fail
    go_loopw [2, 4, 5, 17] (fun _ _ _ kv wr => ∃ k l, QW w1 s kv wr k l) (fun _ _ _ kv _ => s.size - (intOf kv).toNat)
    case atStart => exact ⟨0, [], rfl, L2.out, Nat.zero_le _, rfl, B2.out⟩
    case round =>
      clear L2 B2
      obtain ⟨k, l, hr⟩ := hrel
      obtain rfl := hr.hi
      have R := Lib.hid hr
      have hk := hr.up
      have hfew := hr.few
      have hsz := hr.low.size
      have CW := Lib.hid (fun (x : Int) => wbyte_any w1.heap.size w1.heap.size (Lib.byteCells (39 :: l)) x wr R.out.bl (by rw [Lib.byteCells_length]; simp; omega) hsz)
      have CS := Lib.hid (fun (q : ByteArray) (hq : q.size ≤ 10) => wstring_any w1.heap.size w1.heap.size (Lib.byteCells (39 :: l)) q wr R.out.bl (by rw [Lib.byteCells_length]; simp; omega) hsz)
      clear hr
      by_cases h7 : k < s.size
      · have h7' : (k : Int) < (s.size : Int) := by omega
        cases h10 : ((bn s k : Int) == 10) with
        | true =>
          have HE := Lib.hid (esc_10 h10)
          go_wp2_with fail
          refine (CS.out ⟨#[92, 110]⟩ (by decide)).mono ?_
          rintro e w3 ⟨rfl, hbl, hb3⟩
          have R1 := Lib.hid (R.out.step [92, 110] HE.out (iv' := .int .i64 ((k : Int) + 1)) (by go_num) hbl rfl h7 hb3)
          clear hbl hb3
          go_wp2_with fail
          go_roundw
          case rel => exact ⟨_, _, R1.out⟩
          case measure => simp [intOf]; omega
        | false =>
          cases h9 : ((bn s k : Int) == 9) with
          | true =>
            have HE := Lib.hid (esc_9 h9)
            go_wp2_with fail
            refine (CS.out ⟨#[92, 116]⟩ (by decide)).mono ?_
            rintro e w3 ⟨rfl, hbl, hb3⟩
            have R1 := Lib.hid (R.out.step [92, 116] HE.out (iv' := .int .i64 ((k : Int) + 1)) (by go_num) hbl rfl h7 hb3)
            clear hbl hb3
            go_wp2_with fail
            go_roundw
            case rel => exact ⟨_, _, R1.out⟩
            case measure => simp [intOf]; omega
          | false =>
            have hk2 : ((k : Int) + 1).toNat = k + 1 := by omega
            have hk3 : (k : Int) ≤ (k : Int) + 1 := by omega
            have hk4 : (k : Int) + 1 ≤ (s.size : Int) := by omega
            have hx1 : (s.extract k (k + 1)).size ≤ 1 := by rw [ByteArray.size_extract]; omega
            cases h92 : ((bn s k : Int) == 92) with
            | true =>
              have HE := Lib.hid (esc_92 h92)
              go_wp2_with fail
              refine (CS.out _ (by rw [ByteArray.size_append]; have : (ByteArray.mk #[92]).size = 1 := rfl; omega)).mono ?_
              rintro e w3 ⟨rfl, hbl, hb3⟩
              have R1 := Lib.hid (R.out.step [92, bu s k] HE.out (iv' := .int .i64 ((k : Int) + 1)) (by go_num) hbl (str_two s h7) h7 hb3)
              clear hbl hb3
              go_wp2_with fail
              go_roundw
              case rel => exact ⟨_, _, R1.out⟩
              case measure => simp [intOf]; omega
            | false =>
              cases h39 : ((bn s k : Int) == 39) with
              | true =>
                have HE := Lib.hid (esc_39 h39)
                go_wp2_with fail
                refine (CS.out _ (by rw [ByteArray.size_append]; have : (ByteArray.mk #[92]).size = 1 := rfl; omega)).mono ?_
                rintro e w3 ⟨rfl, hbl, hb3⟩
                have R1 := Lib.hid (R.out.step [92, bu s k] HE.out (iv' := .int .i64 ((k : Int) + 1)) (by go_num) hbl (str_two s h7) h7 hb3)
                clear hbl hb3
                go_wp2_with fail
                go_roundw
                case rel => exact ⟨_, _, R1.out⟩
                case measure => simp [intOf]; omega
              | false =>
                by_cases hlow : (bn s k : Int) < 32
                · have HQ := Lib.hid (quote_none HP.out h7 (esc_bad h10 h9 h92 h39 (.inl hlow)))
                  go_wp2_with fail
                  go_ret
                  exact ⟨by rw [HQ.out]; rfl, B1.out.trans (R.out.low.mono B1.out.size)⟩
                · by_cases hgr : (126 : Int) < (bn s k : Int)
                  · have HQ := Lib.hid (quote_none HP.out h7 (esc_bad h10 h9 h92 h39 (.inr hgr)))
                    go_wp2_with fail
                    go_ret
                    exact ⟨by rw [HQ.out]; rfl, B1.out.trans (R.out.low.mono B1.out.size)⟩
                  · have HE := Lib.hid (esc_self h10 h9 h92 h39 hlow hgr)
                    go_wp2_with fail
                    refine (CW.out _).mono ?_
                    rintro e w3 ⟨rfl, hbl, hb3⟩
                    have R1 := Lib.hid (R.out.step [bu s k] HE.out (iv' := .int .i64 ((k : Int) + 1)) (by go_num) hbl rfl h7 hb3)
                    clear hbl hb3
                    go_wp2_with fail
                    go_roundw
                    case rel => exact ⟨_, _, R1.out⟩
                    case measure => simp [intOf]; omega
      · obtain rfl : k = s.size := by omega
        have HQ := Lib.hid (quote_some HP.out R.out.esc)
        have CG := Lib.hid (Tryd.Builder_String_any w1.heap.size w1.heap.size (39 :: l) wr R.out.bl hsz)
        have hl2 : (ByteArray.mk (39 :: l).toArray).size ≤ 10000 := by show (39 :: l).length ≤ 10000; simp; omega
        go_wp2_with fail
        refine CG.out.mono ?_
        rintro e w3 ⟨rfl, hb3⟩
        have B3 := Lib.hid (B1.out.trans ((R.out.low.trans hb3).mono B1.out.size))
        clear hb3 CG
        go_wp2_with fail
        go_ret
        refine ⟨?_, B3.out⟩
        rw [HQ.out]
        rfl
end Go.Proofs.YtiefbdblefliaaaDoor
