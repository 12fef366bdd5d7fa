/- The reference's small functions of scripts: Lines, behind, word, feeds, Check. -/
import Derived.Test.YtipddolkikhojaaDoorSr1
import Derived.Test.YtipddolkikhojaaDoorPush
import Derived.Test.YtipddolkikhojaaDoorRow
import Derived.Test.YtipddolkikhojaaDoorRd4
import Derived.Test.YtipddolkikhojaaDoorNpp
import Derived.WalkSpells
import Derived.Lib.Bytes
import Derived.Lib.Hide
import Derived.Deep.RegionHeld3
namespace Go.Proofs.YtipddolkikhojaaDoor
open Go.RowKit

theorem Tryd.info_str : (Tryd.prog.info? 9).map (fun i => (i.zero, i.size, i.bytes)) = some (some (.string ⟨#[]⟩), 1, 16) := by kernel_rfl
theorem elStr : El Tryd.prog 31 9 (.string ⟨#[]⟩) 1 16 := by
  obtain ⟨i0, hi, hz0, hz1, hz2⟩ := info_parts Tryd.info_str
  exact ⟨Tryd.underlying31, ⟨i0, hi, hz0, hz1, hz2⟩, rfl, by omega⟩
theorem ext_snoc {s : ByteArray} {f i : Nat} (hf : f ≤ i) (hi : i < s.size) : (s.extract f (i + 1)).data.toList = (s.extract f i).data.toList ++ [bu s i] := by
  have hl : i < s.data.toList.length := by rw [Array.length_toList]; exact hi
  have h2 : i - f < (s.data.toList.drop f).length := by rw [List.length_drop]; omega
  have e : bu s i = s.data.toList[i] := by unfold bu; rw [List.getD_eq_getElem?_getD, List.getElem?_eq_getElem hl]; rfl
  rw [e]
  simp only [ByteArray.data_extract, Array.toList_extract, List.extract]
  rw [show i + 1 - f = (i - f) + 1 by omega, List.take_succ_eq_append_getElem h2]
  congr 2
  rw [List.getElem_drop]
  congr 1
  omega
theorem ext_same (s : ByteArray) (i : Nat) : (s.extract i i).data.toList = [] := by simp
theorem drop_bu {s : ByteArray} {i : Nat} (hi : i < s.size) : s.data.toList.drop i = bu s i :: s.data.toList.drop (i + 1) := by
  have hl : i < s.data.toList.length := by rw [Array.length_toList]; exact hi
  rw [List.drop_eq_getElem_cons hl]
  congr 1
  unfold bu; rw [List.getD_eq_getElem?_getD, List.getElem?_eq_getElem hl]; rfl
theorem drop_ext (s : ByteArray) (f i : Nat) (h : f ≤ i) : s.data.toList.drop f = (s.extract f i).data.toList ++ s.data.toList.drop i := by
  simp only [ByteArray.data_extract, Array.toList_extract, List.extract]
  conv => lhs; rw [← List.take_append_drop (i - f) (s.data.toList.drop f)]
  rw [List.drop_drop, show f + (i - f) = i by omega]
theorem lines_last {x : List UInt8} (h : ∀ c ∈ x, c ≠ 10) (hx : x ≠ []) : linesL x = [x] := by
  have hc : ∀ (x : List UInt8), (∀ c ∈ x, c ≠ 10) → cutL x = (x, []) := by
    intro x
    induction x with
    | nil => exact fun _ => rfl
    | cons c l ih =>
      intro h
      rw [cutL, if_neg (h c List.mem_cons_self), ih fun d hd => h d (List.mem_cons_of_mem _ hd)]
  cases x with
  | nil => exact absurd rfl hx
  | cons c l => rw [lines_cons, hc _ h, lines_nil]
theorem feed_bu {s : ByteArray} {i : Nat} : ((bn s i : Int) == 10) = true ↔ bu s i = 10 := by
  rw [bn_bu, beq_iff_eq]
  constructor
  · intro h
    apply UInt8.toNat_inj.1
    have : ((10 : UInt8).toNat : Int) = 10 := rfl
    omega
  · intro h; rw [h]; rfl
/-- What has been gathered, and what is to come. -/
def LInv (s : ByteArray) (f i : Nat) (ts : List ByteArray) : Prop := linesL s.data.toList = (ts.map fun t => t.data.toList) ++ linesL (s.data.toList.drop f) ∧ ∀ c ∈ (s.extract f i).data.toList, c ≠ 10
theorem LInv.start (s : ByteArray) : LInv s 0 0 [] := ⟨by simp, fun c h => by rw [ext_same] at h; cases h⟩
theorem LInv.go {s : ByteArray} {f i : Nat} {ts : List ByteArray} (h : LInv s f i ts) (hf : f ≤ i) (hi : i < s.size) (hc : bu s i ≠ 10) : LInv s f (i + 1) ts := by
  refine ⟨h.1, fun c hm => ?_⟩
  rw [ext_snoc hf hi] at hm
  rcases List.mem_append.1 hm with hm | hm
  · exact h.2 c hm
  · rw [List.mem_singleton.1 hm]; exact hc
theorem LInv.cut {s : ByteArray} {f i : Nat} {ts : List ByteArray} (h : LInv s f i ts) (hf : f ≤ i) (hi : i < s.size) (hc : bu s i = 10) : LInv s (i + 1) (i + 1) (ts ++ [s.extract f i]) := by
  refine ⟨?_, fun c hm => by rw [ext_same] at hm; cases hm⟩
  rw [h.1, drop_ext s f i hf, drop_bu hi, hc, lines_feed _ h.2]
  simp
theorem LInv.last {s : ByteArray} {f : Nat} {ts : List ByteArray} (h : LInv s f s.size ts) (hf : f < s.size) : linesL s.data.toList = (ts ++ [s.extract f s.size]).map fun t => t.data.toList := by
  have e : s.data.toList.drop f = (s.extract f s.size).data.toList := by
    rw [drop_ext s f s.size (by omega), List.drop_of_length_le (by rw [Array.length_toList]; exact Nat.le_refl _), List.append_nil]
  rw [h.1, e, lines_last h.2 (fun e2 => by
    rw [← e] at e2
    have := congrArg List.length e2
    rw [List.length_drop, Array.length_toList] at this
    have h9 : s.data.size = s.size := rfl
    simp only [List.length_nil] at this
    omega)]
  simp
theorem LInv.none {s : ByteArray} {f : Nat} {ts : List ByteArray} (h : LInv s f s.size ts) (hf : ¬ f < s.size) : linesL s.data.toList = ts.map fun t => t.data.toList := by
  rw [h.1, List.drop_of_length_le (by rw [Array.length_toList]; have h9 : s.data.size = s.size := rfl; omega), lines_nil, List.append_nil]
structure LinesRel (B : Nat) (W : World) (s : ByteArray) (o fv iv : Value) (wr : World) (f i n : Nat) (ts : List ByteArray) : Prop where
  hf : fv = .int .i64 (f : Int)
  hi : iv = .int .i64 (i : Int)
  own : wr.ownsRow B 9 1 o n (ts.map Value.string)
  lo : f ≤ i
  up : i ≤ s.size
  few : n ≤ f
  below : Below B W wr
  inv : Hid (LInv s f i ts)
/-- A text's lines in memory. -/
def LinesQ (s : ByteArray) (w : World) (v : Value) (ts : List ByteArray) (w' : World) : Prop := w'.ownsRow w.heap.size 9 1 v ts.length (ts.map Value.string) ∧ ts.length ≤ s.size ∧ Hid (linesL s.data.toList = ts.map fun t => t.data.toList)
def LinesE (s : ByteArray) (w : World) (e : Ending) (w' : World) : Prop := (∃ (v : Value) (ts : List ByteArray), e = .returned v ∧ LinesQ s w v ts w') ∧ Below w.heap.size w w'
set_option maxRecDepth 100000 in
set_option maxHeartbeats 2000000 in
theorem rlines_any (s : ByteArray) (w : World) (hs : s.size ≤ 100000000) : Calls Tryd.prog 35 #[.string s] w fun e w' => LinesE s w e w' := by
  have hb : ∀ (i : Nat) (h : i < s.size), (s[i]'h).toNat = bn s i := bn_eq s
  go_enter Tryd.func35, Tryd.ntmps35
  go_wp2
  go_loopw [3, 4, 5] (fun o fv iv wr => ∃ f i n ts, LinesRel w.heap.size w s o fv iv wr f i n ts) (fun _ _ iv _ => s.size - (intOf iv).toNat)
  case atStart =>
    exact ⟨0, 0, 0, [], rfl, rfl, ownsRow_empty _ _ _ _ (heap_alloc_new _ _), by omega, by omega, by omega, (Below.refl _ _).alloc (Nat.le_refl _) _, Lib.hid (LInv.start s)⟩
  case round =>
    obtain ⟨f, i, n, ts, hr⟩ := hrel
    obtain rfl := hr.hf
    obtain rfl := hr.hi
    have R := Lib.hid hr
    have hlo := hr.lo
    have hup := hr.up
    have hfew := hr.few
    have hsz := hr.below.size
    clear hr
    have hnl : ts.length = n := by have := own_len R.out.own; simpa using this
    by_cases hle : i < s.size
    · have hle' : (i : Int) < (s.size : Int) := by omega
      cases h32 : ((bn s i : Int) == 10) with
      | true =>
        have ST := Lib.hid (fun (v1 : Value) (w1 : World) (h1 : w1.ownsRow w.heap.size 9 1 v1 (n + 1) (ts.map Value.string ++ [.string (s.extract f i)])) (h2 : Below w.heap.size (wr.alloc (Obj.cells #[.string (s.extract f i)] 9)) w1) =>
          (⟨by go_num, by go_num, by simpa using h1, Nat.le_refl _, by omega, by omega, (R.out.below.alloc hsz _).trans h2, Lib.hid (R.out.inv.out.cut hlo hle (feed_bu.1 h32))⟩ : LinesRel w.heap.size w s v1 (.int .i64 ((i : Int) + 1)) (.int .i64 ((i : Int) + 1)) w1 (i + 1) (i + 1) (n + 1) (ts ++ [s.extract f i])))
        go_wp2_with (at_builtin; go_must (refine wpList_push _ rfl _ _ _ rfl elStr w.heap.size _ _ _ rfl (R.out.own.alloc _) _ _ (.string (s.extract f i)) rfl (by simp [go_sem]) rfl (by omega) (by unfold maxLen; omega) (by simp <;> omega) ?_); intro v1 w1 hown1 hb1)
        have R1 := ST.out _ _ hown1 hb1
        clear hown1 hb1
        go_roundw
        case rel => exact ⟨_, _, _, _, R1⟩
        case measure => simp [intOf] <;> omega
      | false =>
        go_wp2
        go_roundw
        case rel => exact ⟨f, i + 1, n, ts, rfl, by go_num, R.out.own, by omega, by omega, by omega, R.out.below, Lib.hid (R.out.inv.out.go hlo (by omega) (fun e => by rw [feed_bu.2 e] at h32; cases h32))⟩
        case measure => simp [intOf] <;> omega
    · obtain rfl : s.size = i := by omega
      by_cases hfl : f < s.size
      · have hfl' : (f : Int) < (s.size : Int) := by omega
        have FIN := Lib.hid (fun (v1 : Value) (w1 : World) (h1 : w1.ownsRow w.heap.size 9 1 v1 (n + 1) (ts.map Value.string ++ [.string (s.extract f s.size)])) =>
          (⟨by simpa [hnl] using h1, by simp; omega, Lib.hid (R.out.inv.out.last hfl)⟩ : LinesQ s w v1 (ts ++ [s.extract f s.size]) w1))
        go_wp2_with (at_builtin; go_must (refine wpList_push _ rfl _ _ _ rfl elStr w.heap.size _ _ _ rfl (R.out.own.alloc _) _ _ (.string (s.extract f s.size)) rfl (by simp [go_sem]) rfl (by omega) (by unfold maxLen; omega) (by simp <;> omega) ?_); intro v1 w1 hown1 hb1)
        have Q1 := Lib.hid (FIN.out _ _ hown1)
        have B1 := Lib.hid ((R.out.below.alloc hsz (Obj.cells #[.string (s.extract f s.size)] 9)).trans hb1)
        clear hown1 hb1
        go_ret
        exact ⟨⟨_, _, rfl, Q1.out⟩, B1.out⟩
      · have hfl' : ¬ (f : Int) < (s.size : Int) := by omega
        go_wp2
        go_ret
        exact ⟨⟨_, ts, rfl, by rw [hnl]; exact R.out.own, by omega, Lib.hid (R.out.inv.out.none hfl)⟩, R.out.below⟩
def behO (r : Option (List UInt8)) : ByteArray × Bool := match r with
  | some l => (ba l, true)
  | none => (⟨#[]⟩, false)
theorem beh_short {w s : ByteArray} (h : s.size < w.size) : behL w.data.toList s.data.toList = none := by
  unfold behL
  rw [if_neg fun e => ?_]
  have := congrArg List.length e
  rw [List.length_take, Array.length_toList, Array.length_toList] at this
  have h1 : w.data.size = w.size := rfl
  have h2 : s.data.size = s.size := rfl
  omega
theorem bytes_same {a b : ByteArray} (h : a.data.toList = b.data.toList) : a = b := by
  apply ByteArray.ext
  exact Array.toList_inj.1 h
theorem beh_take {w s : ByteArray} : ((s.extract 0 w.size).toList == w.toList) = (behL w.data.toList s.data.toList).isSome := by
  have e : (s.extract 0 w.size).toList = s.data.toList.take w.data.toList.length := by
    rw [ByteArray.toList_eq]
    simp only [ByteArray.data_extract, Array.toList_extract, List.extract, List.drop_zero, Nat.sub_zero]
    rfl
  rw [e, ByteArray.toList_eq]
  unfold behL
  by_cases h1 : s.data.toList.take w.data.toList.length = w.data.toList
  · rw [if_pos h1, h1]; simp
  · rw [if_neg h1]; simpa using h1
theorem beh_rest {w s : ByteArray} {r : List UInt8} (h : behL w.data.toList s.data.toList = some r) : s.extract w.size s.size = ba r := by
  unfold behL at h
  split at h
  · injection h with h
    apply bytes_same
    rw [← h]
    simp only [ByteArray.data_extract, Array.toList_extract, List.extract]
    rw [List.take_of_length_le (by rw [List.length_drop, Array.length_toList]; exact Nat.le_refl _)]
    simp [ba]
  · cases h
set_option maxRecDepth 100000 in
set_option maxHeartbeats 2000000 in
theorem behind_any (s p : ByteArray) (w : World) : Calls Tryd.prog 36 #[.string s, .string p] w fun e w' =>
    e = .returned (.tuple #[.string (behO (behL p.data.toList s.data.toList)).1, .bool (behO (behL p.data.toList s.data.toList)).2]) ∧ Below w.heap.size w w' := by
  by_cases h : (s.size : Int) < (p.size : Int)
  · rw [beh_short (by omega)]
    go_enter Tryd.func36, Tryd.ntmps36
    go_wp2
    refine bodyPost_ret (v := .tuple #[.string ⟨#[]⟩, .bool false]) (by simp [results, go_sem]) rfl ?_
    exact ⟨rfl, Below.refl _ _⟩
  · have h0 : (p.size : Int) ≤ (s.size : Int) := by omega
    have ht := beh_take (w := p) (s := s)
    cases hb : behL p.data.toList s.data.toList with
    | none =>
      rw [hb] at ht
      have ht : ((s.extract 0 p.size).toList == p.toList) = false := ht
      clear hb
      go_enter Tryd.func36, Tryd.ntmps36
      go_wp2
      refine bodyPost_ret (v := .tuple #[.string ⟨#[]⟩, .bool false]) (by simp [results, go_sem]) rfl ?_
      exact ⟨rfl, Below.refl _ _⟩
    | some r =>
      rw [hb] at ht
      have ht : ((s.extract 0 p.size).toList == p.toList) = true := ht
      have HR := Lib.hid (beh_rest hb)
      clear hb
      go_enter Tryd.func36, Tryd.ntmps36
      go_wp2
      rw [HR.out]
      refine bodyPost_ret (v := .tuple #[.string (ba r), .bool true]) (by simp [results, go_sem]) rfl ?_
      exact ⟨rfl, Below.refl _ _⟩
theorem blk_set {w : World} {g : Nat} {t : TypeId} {cs : Array Value} {m : Nat × Nat} (h : w.heap[g]? = some (.cells cs t m)) (i : Nat) (u : Value) : (w.setCell ⟨g, i, none⟩ u).heap[g]? = some (.cells (cs.setIfInBounds i u) t m) := by
  simp [World.setCell, Array.getElem?_modify, h]
theorem belA {w w1 : World} (h : Below w.heap.size w w1) (o : Obj) : Below w.heap.size w (w1.alloc o) := h.alloc h.size o
theorem box4t {w : World} {g : Nat} {t : TypeId} {f : Nat × Nat} {a b c d : Value} (h : w.heap[g]? = some (.cells #[a, b, c, d] t f)) :
    w.cell? ⟨g, 0, none⟩ = some a ∧ w.cell? ⟨g, 1, none⟩ = some b ∧ w.cell? ⟨g, 2, none⟩ = some c ∧ w.cell? ⟨g, 3, none⟩ = some d :=
  ⟨cell_of_row w g 0 _ _ _ h, cell_of_row w g 1 _ _ _ h, cell_of_row w g 2 _ _ _ h, cell_of_row w g 3 _ _ _ h⟩
/-- How many feeds a text has. -/
def feedsF (s : ByteArray) : Nat → Nat
  | 0 => 0
  | i + 1 => feedsF s i + (if bu s i = 10 then 1 else 0)
theorem feeds_le (s : ByteArray) : ∀ i, feedsF s i ≤ i
  | 0 => Nat.le_refl _
  | i + 1 => by
    have := feeds_le s i
    unfold feedsF
    split <;> omega
theorem feeds_pos (s : ByteArray) : ∀ i, i ≤ s.size → (0 < feedsF s i ↔ 10 ∈ s.data.toList.take i)
  | 0, _ => by simp [feedsF]
  | i + 1, h => by
    have ih := feeds_pos s i (by omega)
    have hl : i < s.data.toList.length := by rw [Array.length_toList]; exact h
    have e : s.data.toList.take (i + 1) = s.data.toList.take i ++ [bu s i] := by
      rw [List.take_succ_eq_append_getElem hl]
      congr 2
      unfold bu; rw [List.getD_eq_getElem?_getD, List.getElem?_eq_getElem hl]; rfl
    rw [e, List.mem_append, ← ih, List.mem_singleton]
    show 0 < feedsF s i + (if bu s i = 10 then 1 else 0) ↔ 0 < feedsF s i ∨ 10 = bu s i
    split
    · rename_i h1; simp [h1]
    · rename_i h1
      have h1' : ¬ (10 = bu s i) := fun e => h1 e.symm
      simp [h1']
theorem feeds_all (s : ByteArray) : 0 < feedsF s s.size ↔ 10 ∈ s.data.toList := by
  have := feeds_pos s s.size (Nat.le_refl _)
  rw [List.take_of_length_le (by rw [Array.length_toList]; exact Nat.le_refl _)] at this
  exact this
set_option maxRecDepth 100000 in
set_option maxHeartbeats 2000000 in
theorem rfeeds_any (s : ByteArray) (w : World) (hs : s.size ≤ 100000000) : Calls Tryd.prog 42 #[.string s] w fun e w' => e = .returned (.int .i64 (feedsF s s.size : Int)) ∧ Below w.heap.size w w' := by
  have hb : ∀ (i : Nat) (h : i < s.size), (s[i]'h).toNat = bn s i := bn_eq s
  go_enter Tryd.func42, Tryd.ntmps42
  go_wp2
  go_loopw [3, 4] (fun nv iv wr => ∃ i n : Nat, nv = .int .i64 (n : Int) ∧ iv = .int .i64 (i : Int) ∧ i ≤ s.size ∧ Hid (n = feedsF s i) ∧ n ≤ i ∧ w = wr) (fun _ iv _ => s.size - (intOf iv).toNat)
  case atStart => exact ⟨0, 0, rfl, rfl, Nat.zero_le _, Lib.hid rfl, Nat.le_refl _, rfl⟩
  case round =>
    obtain ⟨i, n, rfl, rfl, hi, hn, hni, rfl⟩ := hrel
    have HN := Lib.hid hn.out
    clear hn
    by_cases hle : i < s.size
    · have hle' : (i : Int) < (s.size : Int) := by omega
      cases h32 : ((bn s i : Int) == 10) with
      | true =>
        have HN2 := Lib.hid (show n + 1 = feedsF s (i + 1) by unfold feedsF; rw [if_pos (feed_bu.1 h32), HN.out])
        go_wp2
        go_roundw
        case rel => exact ⟨i + 1, n + 1, by go_num, by go_num, hle, HN2, by omega, trivial⟩
        case measure => simp [intOf] <;> omega
      | false =>
        have HN2 := Lib.hid (show n = feedsF s (i + 1) by unfold feedsF; rw [if_neg (fun e => by rw [feed_bu.2 e] at h32; cases h32), HN.out]; rfl)
        go_wp2
        go_roundw
        case rel => exact ⟨i + 1, n, rfl, by go_num, hle, HN2, by omega, trivial⟩
        case measure => simp [intOf] <;> omega
    · obtain rfl : s.size = i := by omega
      go_wp2
      go_ret
      exact ⟨by rw [HN.out]; rfl, Below.refl _ _⟩
theorem within_any' (n a b : Int) (w : World) : Calls Tryd.prog 43 #[.int .i64 n, .int .i64 a, .int .i64 b] w fun e w' => e = .returned (.bool (decide (a ≤ n ∧ n ≤ b))) ∧ w' = w := by
  by_cases h1 : a ≤ n
  · by_cases h2 : n ≤ b
    · rw [decide_eq_true ⟨h1, h2⟩]
      go_enter Tryd.func43, Tryd.ntmps43
      go_wp2
      go_ret
      exact ⟨rfl, rfl⟩
    · rw [decide_eq_false fun h => h2 h.2]
      go_enter Tryd.func43, Tryd.ntmps43
      go_wp2
      go_ret
      exact ⟨rfl, rfl⟩
  · rw [decide_eq_false fun h => h1 h.1]
    go_enter Tryd.func43, Tryd.ntmps43
    go_wp2
    go_ret
    exact ⟨rfl, rfl⟩
/-- May limits be? -/
def lim4 (a b c d : Int) : Bool := decide (1 ≤ a ∧ a ≤ 100000 ∧ 1 ≤ b ∧ b ≤ 1000 ∧ 1 ≤ c ∧ c ≤ 1000 ∧ 1 ≤ d ∧ d ≤ 100)
def lim4E (a b c d : Int) : Int := if lim4 a b c d = true then 0 else 1
end Go.Proofs.YtipddolkikhojaaDoor
