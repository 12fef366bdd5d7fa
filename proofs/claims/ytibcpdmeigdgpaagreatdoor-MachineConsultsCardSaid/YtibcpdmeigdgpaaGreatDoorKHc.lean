/- Reserved names, plainly: a name between blanks in a list is one of the list's words. What both Consult make of a text, plainly. Names of terms and control constructs: both packages. Control constructs: norm's. Control constructs: the reference's. Control constructs: both packages' words are the plain one's. Goals that may be called: the reference's callable, exactly. -/
import Derived.Test.YtibcpdmeigdgpaaGreatDoorKGb
import Derived.Test.YtibcpdmeigdgpaaGreatDoorKHb
import Derived.Deep.RegionHeld3
namespace Go.Proofs.YtibcpdmeigdgpaaGreatDoor
def joinW : List (List UInt8) → List UInt8
 | [] => []
 | w :: ws => w ++ 32 :: joinW ws
theorem first_blank : ∀ {w n x y : List UInt8}, 32 ∉ w → 32 ∉ n → w ++ 32 :: x = n ++ 32 :: y → w = n ∧ x = y
 | [], [], _, _, _, _, h => by injection h with _ h; exact ⟨rfl, h⟩
 | [], c :: n, _, _, _, hn, h => by
  injection h with h _
  exact absurd (h ▸ List.mem_cons_self) hn
 | c :: w, [], _, _, hw, _, h => by
  injection h with h _
  exact absurd (h ▸ List.mem_cons_self) hw
 | c :: w, d :: n, x, y, hw, hn, h => by
  injection h with h1 h2
  obtain ⟨h3, h4⟩ := first_blank (fun h => hw (List.mem_cons_of_mem _ h)) (fun h => hn (List.mem_cons_of_mem _ h)) h2
  exact ⟨by rw [h1, h3], h4⟩
theorem past_blank : ∀ {w a x y : List UInt8}, 32 ∉ w → w ++ 32 :: x = a ++ 32 :: y → ∃ a', (a = w ++ a' ∧ 32 :: x = a' ++ 32 :: y)
 | [], a, _, _, _, h => ⟨a, rfl, h⟩
 | c :: w, [], _, _, hw, h => by
  injection h with h _
  exact absurd (h ▸ List.mem_cons_self) hw
 | c :: w, d :: a, x, y, hw, h => by
  injection h with h1 h2
  obtain ⟨a', h3, h4⟩ := past_blank (fun h => hw (List.mem_cons_of_mem _ h)) h2
  exact ⟨a', by rw [h1, h3]; rfl, h4⟩
theorem infix_words {n : List UInt8} (hn : 32 ∉ n) : ∀ {ws : List (List UInt8)}, (∀ w ∈ ws, 32 ∉ w) → ((∃ a b, 32 :: joinW ws = a ++ 32 :: (n ++ 32 :: b)) ↔ n ∈ ws)
 | [], _ => by
  constructor
  ·rintro ⟨a, b, h⟩
   have := congrArg List.length h
   simp [joinW] at this
   omega
  ·exact fun h => absurd h (by simp)
 | w :: ws, hw => by
  have h0 := hw w List.mem_cons_self
  have ih := infix_words hn (ws := ws) fun x hx => hw x (List.mem_cons_of_mem _ hx)
  constructor
  ·rintro ⟨a, b, h⟩
   cases a with
   | nil =>
    injection h with _ h
    exact (first_blank h0 hn h).1 ▸ List.mem_cons_self
   | cons c a =>
    injection h with _ h
    obtain ⟨a', _, h2⟩ := past_blank h0 h
    exact List.mem_cons_of_mem _ (ih.1 ⟨a', b, h2⟩)
  ·intro h
   rcases List.mem_cons.1 h with rfl | h
   ·exact ⟨[], joinW ws, rfl⟩
   ·obtain ⟨a, b, h⟩ := ih.2 h
    exact ⟨32 :: (w ++ a), b, by show 32 :: (w ++ 32 :: joinW ws) = _; rw [h]; simp⟩
end Go.Proofs.YtibcpdmeigdgpaaGreatDoor
namespace Go.Proofs.YtibcpdmeigdgpaaGreatDoor
def anyN : Nat → (Nat → Bool) → Bool
 | 0, _ => false
 | n + 1, f => anyN n f || f n
theorem anyN_iff {f : Nat → Bool} : ∀ {n : Nat}, anyN n f = true ↔ ∃ i, i < n ∧ f i = true
 | 0 => by simp [anyN]
 | n + 1 => by
  rw [anyN, Bool.or_eq_true, anyN_iff]
  constructor
  ·rintro (⟨i, h, e⟩ | h)
   ·exact ⟨i, by omega, e⟩
   ·exact ⟨n, by omega, h⟩
  ·rintro ⟨i, h, e⟩
   rcases Nat.lt_or_ge i n with h1 | h1
   ·exact .inl ⟨i, h1, e⟩
   ·obtain rfl : i = n := by omega
    exact .inr e
def nameT : T → Option (List UInt8 × Nat)
 | .nil => none
 | .mk k _ s m _ => if k = 3 then some (s.data.toList, 0) else if k = 4 then some (s.data.toList, m) else none
def isN (t : T) (nm : List UInt8) (q : Nat) : Bool := nameT t == some (nm, q)
def ctlT (t : T) : Bool := isN t [44] 2 || isN t [59] 2 || isN t [45, 62] 2 || isN t [92, 43] 1 || isN t [33] 0
def wrongT : T → Bool
 | .nil => false
 | .mk k n s m a => k == 2 || (ctlT (.mk k n s m a) && anyN m fun i => wrongT (a i))
def neckT (t : T) (i : Nat) : T := match t with
 | .nil => .nil
 | .mk _ _ _ _ a => a i
def trueT : T := atT ⟨#[116, 114, 117, 101]⟩
def splitT (t : T) : Except Int (T × T) :=
 let h := if isN t [58, 45] 2 then neckT t 0 else t
 let b := if isN t [58, 45] 2 then neckT t 1 else trueT
 if (nameT h).isNone || ctlT h || isN h [58, 45] 1 || isN h [58, 45] 2 then .error 100
 else if wrongT b then .error 101
 else .ok (h, b)
def resW : Nat → List (List UInt8)
 | 0 => [[33], [116, 114, 117, 101], [102, 97, 105, 108]]
 | 1 => [[92, 43], [58, 45], [99, 97, 108, 108], [116, 104, 114, 111, 119], [118, 97, 114], [110, 111, 110, 118, 97, 114], [97, 116, 111, 109], [105, 110, 116, 101, 103, 101, 114], [99, 111, 109, 112, 111, 117, 110, 100], [99, 97, 108, 108, 97, 98, 108, 101], [103, 114, 111, 117, 110, 100], [97, 108, 108, 95, 100, 105, 102, 102, 101, 114, 101, 110, 116], [108, 97, 98, 101, 108]]
 | 2 => [[44], [59], [45, 62], [58, 45], [99, 97, 108, 108], [109, 105, 110, 105, 109, 105, 122, 101], [109, 97, 120, 105, 109, 105, 122, 101], [61], [92, 61], [61, 61], [92, 61, 61], [64, 60], [64, 62], [64, 61, 60], [64, 62, 61], [99, 111, 112, 121, 95, 116, 101, 114, 109], [61, 46, 46], [115, 111, 114, 116], [105, 115], [61, 58, 61], [61, 92, 61], [60], [62], [61, 60], [62, 61], [102, 114, 101, 101, 122, 101], [100, 105, 102], [119, 104, 101, 110], [105, 110], [102, 100, 95, 100, 111, 109], [35, 61], [35, 92, 61], [35, 60], [35, 62], [35, 61, 60], [35, 62, 61], [35, 60, 61, 62], [108, 97, 98, 101, 108, 105, 110, 103]]
 | 3 => [[99, 97, 108, 108], [99, 97, 116, 99, 104], [102, 105, 110, 100, 97, 108, 108], [102, 117, 110, 99, 116, 111, 114], [97, 114, 103]]
 | 4 => [[99, 97, 108, 108]]
 | _ => []
def resL : Nat → List UInt8
 | 0 => [32, 33, 32, 116, 114, 117, 101, 32, 102, 97, 105, 108, 32]
 | 1 => [32, 92, 43, 32, 58, 45, 32, 99, 97, 108, 108, 32, 116, 104, 114, 111, 119, 32, 118, 97, 114, 32, 110, 111, 110, 118, 97, 114, 32, 97, 116, 111, 109, 32, 105, 110, 116, 101, 103, 101, 114, 32, 99, 111, 109, 112, 111, 117, 110, 100, 32, 99, 97, 108, 108, 97, 98, 108, 101, 32, 103, 114, 111, 117, 110, 100, 32, 97, 108, 108, 95, 100, 105, 102, 102, 101, 114, 101, 110, 116, 32, 108, 97, 98, 101, 108, 32]
 | 2 => [32, 44, 32, 59, 32, 45, 62, 32, 58, 45, 32, 99, 97, 108, 108, 32, 109, 105, 110, 105, 109, 105, 122, 101, 32, 109, 97, 120, 105, 109, 105, 122, 101, 32, 61, 32, 92, 61, 32, 61, 61, 32, 92, 61, 61, 32, 64, 60, 32, 64, 62, 32, 64, 61, 60, 32, 64, 62, 61, 32, 99, 111, 112, 121, 95, 116, 101, 114, 109, 32, 61, 46, 46, 32, 115, 111, 114, 116, 32, 105, 115, 32, 61, 58, 61, 32, 61, 92, 61, 32, 60, 32, 62, 32, 61, 60, 32, 62, 61, 32, 102, 114, 101, 101, 122, 101, 32, 100, 105, 102, 32, 119, 104, 101, 110, 32, 105, 110, 32, 102, 100, 95, 100, 111, 109, 32, 35, 61, 32, 35, 92, 61, 32, 35, 60, 32, 35, 62, 32, 35, 61, 60, 32, 35, 62, 61, 32, 35, 60, 61, 62, 32, 108, 97, 98, 101, 108, 105, 110, 103, 32]
 | 3 => [32, 99, 97, 108, 108, 32, 99, 97, 116, 99, 104, 32, 102, 105, 110, 100, 97, 108, 108, 32, 102, 117, 110, 99, 116, 111, 114, 32, 97, 114, 103, 32]
 | 4 => [32, 99, 97, 108, 108, 32]
 | _ => []
theorem resL_words : ∀ n, n < 5 → resL n = 32 :: joinW (resW n) := by decide +kernel
theorem resW_plain : ∀ n, n < 5 → ∀ w ∈ resW n, 32 ∉ w ∧ w ≠ [] := by decide +kernel
theorem resW_none {n : Nat} (h : 5 ≤ n) : resW n = [] := by
 match n, h with
 | n + 5, _ => rfl
def resT (nm : List UInt8) (n : Nat) : Bool := (resW n).contains nm
theorem res_prog {nm : List UInt8} {n : Nat} (hn : n < 5) : resT nm n = true ↔ nm ≠ [] ∧ 32 ∉ nm ∧ ∃ a b, resL n = a ++ 32 :: (nm ++ 32 :: b) := by
 unfold resT
 rw [List.contains_iff_mem]
 constructor
 ·intro h
  obtain ⟨h1, h2⟩ := resW_plain n hn nm h
  refine ⟨h2, h1, ?_⟩
  rw [resL_words n hn]
  exact (infix_words h1 fun w hw => (resW_plain n hn w hw).1).2 h
 ·rintro ⟨_, h1, h2⟩
  rw [resL_words n hn] at h2
  exact (infix_words h1 fun w hw => (resW_plain n hn w hw).1).1 h2
def consC : Nat → List (T × List ByteArray) → Option (Int × Int)
 | _, [] => none
 | i, x :: l => if i = 200 then some ((i : Int) + 1, 34) else match splitT x.1 with
  | .error e => some ((i : Int) + 1, e)
  | .ok (h, _) => match nameT h with
   | some (nm, n) => if resT nm n then some ((i : Int) + 1, 100) else consC (i + 1) l
   | none => consC (i + 1) l
def consN (s : ByteArray) : Option (Int × Int) := match readN s with
 | .error e => some e
 | .ok l => consC 0 l
end Go.Proofs.YtibcpdmeigdgpaaGreatDoor
namespace Go.Proofs.YtibcpdmeigdgpaaGreatDoor
open Go.RowKit
def nameV (k : Int) (s : ByteArray) (m : Nat) : Value := if k = 3 then .tuple #[.string s, .int .i64 0, .bool true] else if k = 4 then .tuple #[.string s, .int .i64 (m : Int), .bool true] else .tuple #[.string ⟨#[]⟩, .int .i64 0, .bool false]
set_option maxRecDepth 100000 in
set_option maxHeartbeats 4000000 in
theorem pname_any (k n : Int) (s : ByteArray) (A : Option Addr) (m c : Nat) (w : World) : Calls Tryz.prog 10 #[.agg #[.int .i64 k, .int .i64 n, .string s, .slice A m c]] w fun e w' => e = .returned (nameV k s m) ∧ Below w.heap.size w w' := by
 have BX := Lib.hid ((Below.refl w.heap.size w).alloc (Nat.le_refl _) (Obj.cells #[.int .i64 k, .int .i64 n, .string s, .slice A m c] 39))
 unfold nameV
 by_cases h3 : k = 3
 ·subst h3
  go_enter Tryz.func10, Tryz.ntmps10
  go_wp2_with fail
  go_ret3
  exact ⟨rfl, BX.out⟩
 ·have h3' : (k == 3) = false := by simpa using h3
  by_cases h4 : k = 4
  ·subst h4
   go_enter Tryz.func10, Tryz.ntmps10
   go_wp2_with fail
   go_region
   all_goals
    go_wp2_with fail
    go_ret3
    exact ⟨rfl, BX.out.drew⟩
  ·have h4' : (k == 4) = false := by simpa using h4
   rw [if_neg h3, if_neg h4]
   go_enter Tryz.func10, Tryz.ntmps10
   go_wp2_with fail
   go_ret3
   exact ⟨rfl, BX.out⟩
set_option maxRecDepth 100000 in
set_option maxHeartbeats 4000000 in
theorem rname_any (k n : Int) (s : ByteArray) (A : Option Addr) (m c : Nat) (w : World) : Calls Tryz.prog 15 #[.agg #[.int .i64 k, .int .i64 n, .string s, .slice A m c]] w fun e w' => e = .returned (nameV k s m) ∧ Below w.heap.size w w' := by
 have BX := Lib.hid ((Below.refl w.heap.size w).alloc (Nat.le_refl _) (Obj.cells #[.int .i64 k, .int .i64 n, .string s, .slice A m c] 39))
 unfold nameV
 by_cases h3 : k = 3
 ·subst h3
  go_enter Tryz.func15, Tryz.ntmps15
  go_wp2_with fail
  go_ret3
  exact ⟨rfl, BX.out⟩
 ·have h3' : (k == 3) = false := by simpa using h3
  by_cases h4 : k = 4
  ·subst h4
   go_enter Tryz.func15, Tryz.ntmps15
   go_wp2_with fail
   go_region
   all_goals
    go_wp2_with fail
    go_ret3
    exact ⟨rfl, BX.out.drew⟩
  ·have h4' : (k == 4) = false := by simpa using h4
   rw [if_neg h3, if_neg h4]
   go_enter Tryz.func15, Tryz.ntmps15
   go_wp2_with fail
   go_ret3
   exact ⟨rfl, BX.out⟩
end Go.Proofs.YtibcpdmeigdgpaaGreatDoor
namespace Go.Proofs.YtibcpdmeigdgpaaGreatDoor
open Go.RowKit
def ctlL (l : List UInt8) (m : Int) : Bool := if l == [44] || l == [59] || l == [45, 62] then m == 2 else if l == [92, 43] then m == 1 else if l == [33] then m == 0 else false
def ctlV (k : Int) (s : ByteArray) (m : Nat) : Bool := if k = 3 then ctlL s.toList 0 else if k = 4 then ctlL s.toList m else false
set_option maxRecDepth 100000 in
set_option maxHeartbeats 4000000 in
theorem pcontrol_any (k n : Int) (s : ByteArray) (A : Option Addr) (m c : Nat) (w : World) : Calls Tryz.prog 21 #[.agg #[.int .i64 k, .int .i64 n, .string s, .slice A m c]] w fun e w' => e = .returned (.bool (ctlV k s m)) ∧ Below w.heap.size w w' := by
 have BX := Lib.hid ((Below.refl w.heap.size w).alloc (Nat.le_refl _) (Obj.cells #[.int .i64 k, .int .i64 n, .string s, .slice A m c] 39))
 have main : ∀ (z : ByteArray) (q : Int) (b : Bool), nameV k s m = .tuple #[.string z, .int .i64 q, .bool b] → ctlV k s m = ctlL z.toList q → Calls Tryz.prog 21 #[.agg #[.int .i64 k, .int .i64 n, .string s, .slice A m c]] w fun e w' => e = .returned (.bool (ctlV k s m)) ∧ Below w.heap.size w w' := by
  intro z q b he hv
  rw [hv]
  have CN := Lib.hid (fun W => pname_any k n s A m c W)
  rw [he] at CN
  unfold ctlL
  clear he hv
  go_enter Tryz.func21, Tryz.ntmps21
  go_wp2_with fail
  refine (CN.out _).mono ?_
  rintro e w1 ⟨rfl, hb⟩
  have B1 := Lib.hid (BX.out.trans (hb.mono BX.out.size))
  clear hb CN
  go_wp2_with fail
  all_goals
   go_ret
   exact ⟨by simp_all, B1.out⟩
 by_cases h3 : k = 3
 ·subst h3
  exact main s 0 true rfl rfl
 ·by_cases h4 : k = 4
  ·subst h4
   exact main s m true rfl rfl
  ·exact main ⟨#[]⟩ 0 false (by unfold nameV; rw [if_neg h3, if_neg h4]) (by unfold ctlV; rw [if_neg h3, if_neg h4, show (⟨#[]⟩ : ByteArray).toList = [] from by rw [ByteArray.toList_eq]]; rfl)
end Go.Proofs.YtibcpdmeigdgpaaGreatDoor
namespace Go.Proofs.YtibcpdmeigdgpaaGreatDoor
open Go.RowKit
def isV (z : ByteArray) (q : Int) (b : Bool) (nm : ByteArray) (x : Int) : Bool := b && (z.toList == nm.toList) && (q == x)
set_option maxRecDepth 100000 in
set_option maxHeartbeats 4000000 in
theorem ris_any (k n : Int) (s : ByteArray) (A : Option Addr) (m c : Nat) (nm : ByteArray) (x : Int) {z : ByteArray} {q : Int} {b : Bool} (he : nameV k s m = .tuple #[.string z, .int .i64 q, .bool b]) (w : World) :
 Calls Tryz.prog 29 #[.agg #[.int .i64 k, .int .i64 n, .string s, .slice A m c], .string nm, .int .i64 x] w fun e w' => e = .returned (.bool (isV z q b nm x)) ∧ Below w.heap.size w w' := by
 have BX := Lib.hid ((Below.refl w.heap.size w).alloc (Nat.le_refl _) (Obj.cells #[.int .i64 k, .int .i64 n, .string s, .slice A m c] 39))
 have CN := Lib.hid (fun W => rname_any k n s A m c W)
 rw [he] at CN
 unfold isV
 clear he
 cases b with
 | false =>
  go_enter Tryz.func29, Tryz.ntmps29
  go_wp2_with fail
  refine (CN.out _).mono ?_
  rintro e w1 ⟨rfl, hb⟩
  have B1 := Lib.hid (BX.out.trans (hb.mono BX.out.size))
  clear hb CN
  go_wp2_with fail
  go_ret
  exact ⟨rfl, B1.out⟩
 | true =>
  cases h1 : (z.toList == nm.toList) with
  | false =>
   go_enter Tryz.func29, Tryz.ntmps29
   go_wp2_with fail
   refine (CN.out _).mono ?_
   rintro e w1 ⟨rfl, hb⟩
   have B1 := Lib.hid (BX.out.trans (hb.mono BX.out.size))
   clear hb CN
   go_wp2_with fail
   go_ret
   exact ⟨rfl, B1.out⟩
  | true =>
   go_enter Tryz.func29, Tryz.ntmps29
   go_wp2_with fail
   refine (CN.out _).mono ?_
   rintro e w1 ⟨rfl, hb⟩
   have B1 := Lib.hid (BX.out.trans (hb.mono BX.out.size))
   clear hb CN
   go_wp2_with fail
   go_ret
   exact ⟨rfl, B1.out⟩
set_option maxRecDepth 100000 in
set_option maxHeartbeats 4000000 in
theorem rcontrol_any (k n : Int) (s : ByteArray) (A : Option Addr) (m c : Nat) {z : ByteArray} {q : Int} {b : Bool} (he : nameV k s m = .tuple #[.string z, .int .i64 q, .bool b]) (w : World) :
 Calls Tryz.prog 30 #[.agg #[.int .i64 k, .int .i64 n, .string s, .slice A m c]] w fun e w' => e = .returned (.bool (isV z q b ⟨#[44]⟩ 2 || isV z q b ⟨#[59]⟩ 2 || isV z q b ⟨#[45, 62]⟩ 2 || isV z q b ⟨#[92, 43]⟩ 1 || isV z q b ⟨#[33]⟩ 0)) ∧ Below w.heap.size w w' := by
 have BX := Lib.hid ((Below.refl w.heap.size w).alloc (Nat.le_refl _) (Obj.cells #[.int .i64 k, .int .i64 n, .string s, .slice A m c] 39))
 have X0 := Lib.hid (heap_alloc_new w (Obj.cells #[.int .i64 k, .int .i64 n, .string s, .slice A m c] 39))
 have CI := Lib.hid (fun nm x W => ris_any k n s A m c nm x he W)
 clear he
 obtain ⟨b0, h0⟩ : ∃ y, isV z q b ⟨#[44]⟩ 2 = y := ⟨_, rfl⟩
 obtain ⟨b1, h1⟩ : ∃ y, isV z q b ⟨#[59]⟩ 2 = y := ⟨_, rfl⟩
 obtain ⟨b2, h2⟩ : ∃ y, isV z q b ⟨#[45, 62]⟩ 2 = y := ⟨_, rfl⟩
 obtain ⟨b3, h3⟩ : ∃ y, isV z q b ⟨#[92, 43]⟩ 1 = y := ⟨_, rfl⟩
 obtain ⟨b4, h4⟩ : ∃ y, isV z q b ⟨#[33]⟩ 0 = y := ⟨_, rfl⟩
 have C0 := Lib.hid (fun W => CI.out ⟨#[44]⟩ 2 W)
 have C1 := Lib.hid (fun W => CI.out ⟨#[59]⟩ 2 W)
 have C2 := Lib.hid (fun W => CI.out ⟨#[45, 62]⟩ 2 W)
 have C3 := Lib.hid (fun W => CI.out ⟨#[92, 43]⟩ 1 W)
 have C4 := Lib.hid (fun W => CI.out ⟨#[33]⟩ 0 W)
 rw [h0] at C0
 rw [h1] at C1
 rw [h2] at C2
 rw [h3] at C3
 rw [h4] at C4
 rw [h0, h1, h2, h3, h4]
 clear h0 h1 h2 h3 h4 CI
 go_enter Tryz.func30, Tryz.ntmps30
 go_wp2_with fail
 refine (C0.out _).mono ?_
 rintro e w1 ⟨rfl, hb1⟩
 have B1 := Lib.hid (BX.out.trans (hb1.mono BX.out.size))
 have X1 := Lib.hid ((hb1.block _ (heap_lt X0.out)).trans X0.out)
 obtain ⟨x0, x1, x2, x3⟩ := box4t X1.out
 clear hb1
 cases b0 with
 | true =>
  go_wp2_with fail
  go_ret
  exact ⟨by simp, B1.out⟩
 | false =>
  go_wp2_with fail
  refine (C1.out _).mono ?_
  rintro e w2 ⟨rfl, hb2⟩
  have B2 := Lib.hid (B1.out.trans (hb2.mono B1.out.size))
  have X2 := Lib.hid ((hb2.block _ (heap_lt X1.out)).trans X1.out)
  clear x0 x1 x2 x3; obtain ⟨x0, x1, x2, x3⟩ := box4t X2.out
  clear hb2
  cases b1 with
  | true =>
   go_wp2_with fail
   go_ret
   exact ⟨by simp, B2.out⟩
  | false =>
   go_wp2_with fail
   refine (C2.out _).mono ?_
   rintro e w3 ⟨rfl, hb3⟩
   have B3 := Lib.hid (B2.out.trans (hb3.mono B2.out.size))
   have X3 := Lib.hid ((hb3.block _ (heap_lt X2.out)).trans X2.out)
   clear x0 x1 x2 x3; obtain ⟨x0, x1, x2, x3⟩ := box4t X3.out
   clear hb3
   cases b2 with
   | true =>
    go_wp2_with fail
    go_ret
    exact ⟨by simp, B3.out⟩
   | false =>
    go_wp2_with fail
    refine (C3.out _).mono ?_
    rintro e w4 ⟨rfl, hb4⟩
    have B4 := Lib.hid (B3.out.trans (hb4.mono B3.out.size))
    have X4 := Lib.hid ((hb4.block _ (heap_lt X3.out)).trans X3.out)
    clear x0 x1 x2 x3; obtain ⟨x0, x1, x2, x3⟩ := box4t X4.out
    clear hb4
    cases b3 with
    | true =>
     go_wp2_with fail
     go_ret
     exact ⟨by simp, B4.out⟩
    | false =>
     go_wp2_with fail
     refine (C4.out _).mono ?_
     rintro e w5 ⟨rfl, hb5⟩
     have B5 := Lib.hid (B4.out.trans (hb5.mono B4.out.size))
     have X5 := Lib.hid ((hb5.block _ (heap_lt X4.out)).trans X4.out)
     clear x0 x1 x2 x3; obtain ⟨x0, x1, x2, x3⟩ := box4t X5.out
     clear hb5
     go_wp2_with fail
     go_ret
     exact ⟨by simp, B5.out⟩
end Go.Proofs.YtibcpdmeigdgpaaGreatDoor
namespace Go.Proofs.YtibcpdmeigdgpaaGreatDoor
open Go.RowKit
theorem nm_list (l : List UInt8) : (ba l).toList = l := by rw [ByteArray.toList_eq]; exact ba_data l
theorem nameV_cases (k : Int) (s : ByteArray) (m : Nat) : ∃ (z : ByteArray) (q : Nat) (b : Bool), nameV k s m = .tuple #[.string z, .int .i64 (q : Int), .bool b] ∧ ((b = true ∧ z = s ∧ (k = 3 ∧ q = 0 ∨ k = 4 ∧ q = m)) ∨ (b = false ∧ k ≠ 3 ∧ k ≠ 4 ∧ z = ⟨#[]⟩ ∧ q = 0)) := by
 unfold nameV
 by_cases h3 : k = 3
 ·rw [if_pos h3]
  exact ⟨s, 0, true, rfl, .inl ⟨rfl, rfl, .inl ⟨h3, rfl⟩⟩⟩
 ·rw [if_neg h3]
  by_cases h4 : k = 4
  ·rw [if_pos h4]
   exact ⟨s, m, true, rfl, .inl ⟨rfl, rfl, .inr ⟨h4, rfl⟩⟩⟩
  ·rw [if_neg h4]
   exact ⟨⟨#[]⟩, 0, false, rfl, .inr ⟨rfl, h3, h4, rfl, rfl⟩⟩
theorem isN_is {k n : Int} {s : ByteArray} {m : Nat} {a : Nat → T} {z : ByteArray} {q : Nat} {b : Bool} (h : (b = true ∧ z = s ∧ (k = 3 ∧ q = 0 ∨ k = 4 ∧ q = m)) ∨ (b = false ∧ k ≠ 3 ∧ k ≠ 4 ∧ z = ⟨#[]⟩ ∧ q = 0)) (l : List UInt8) (x : Nat) :
 isN (.mk k n s m a) l x = isV z q b (ba l) x := by
 unfold isN isV nameT
 rw [nm_list]
 have key : ∀ y : Nat, (some (s.data.toList, y) == some (l, x)) = (true && (s.toList == l) && ((y : Int) == (x : Int))) := fun y => by
  rw [ByteArray.toList_eq]
  apply Bool.eq_iff_iff.2
  simp
  exact fun _ => ⟨fun e => by rw [e], fun e => by exact_mod_cast e⟩
 rcases h with ⟨rfl, rfl, ⟨rfl, rfl⟩ | ⟨rfl, rfl⟩⟩ | ⟨rfl, h3, h4, rfl, rfl⟩
 ·dsimp only
  rw [if_pos rfl]
  exact key 0
 ·dsimp only
  rw [if_neg (by decide), if_pos rfl]
  exact key q
 ·dsimp only
  rw [if_neg h3, if_neg h4]
  rfl
end Go.Proofs.YtibcpdmeigdgpaaGreatDoor
namespace Go.Proofs.YtibcpdmeigdgpaaGreatDoor
open Go.RowKit
theorem ctl_is {k n : Int} {s : ByteArray} {m : Nat} {a : Nat → T} {z : ByteArray} {q : Nat} {b : Bool} (h : (b = true ∧ z = s ∧ (k = 3 ∧ q = 0 ∨ k = 4 ∧ q = m)) ∨ (b = false ∧ k ≠ 3 ∧ k ≠ 4 ∧ z = ⟨#[]⟩ ∧ q = 0)) :
 (isV z q b ⟨#[44]⟩ 2 || isV z q b ⟨#[59]⟩ 2 || isV z q b ⟨#[45, 62]⟩ 2 || isV z q b ⟨#[92, 43]⟩ 1 || isV z q b ⟨#[33]⟩ 0) = ctlT (.mk k n s m a) := by
 unfold ctlT
 rw [isN_is (n := n) (a := a) h [44] 2, isN_is (n := n) (a := a) h [59] 2, isN_is (n := n) (a := a) h [45, 62] 2, isN_is (n := n) (a := a) h [92, 43] 1, isN_is (n := n) (a := a) h [33] 0]
 rfl
set_option maxRecDepth 100000 in
set_option maxHeartbeats 8000000 in
theorem rcallx_any : ∀ (t : T) (v : Value) (w : World), TIn w w.heap.size t v → t.nodes ≤ 20000 → Calls Tryz.prog 54 #[v] w fun e w' => e = .returned (.bool (!wrongT t)) ∧ Below w.heap.size w w' := by
 intro t
 induction t with
 | nil => exact fun _ _ h => h.elim
 | mk k n s m a ih =>
  intro v w hv hN
  obtain ⟨A, c, rfl, ta⟩ := hv.open_
  have HA := Lib.hid ta
  have hone : ∀ i, i < m → 1 ≤ (a i).nodes := fun i hi => by
   obtain ⟨b, off, _, _, hx⟩ := ta.cells (by omega)
   obtain ⟨_, _, _, _, _, _, _, _, ht⟩ := hx i hi
   cases h : a i with
   | nil => rw [h] at ht; exact ht.elim
   | mk => simp only [T.nodes]; omega
  have hsum : ∀ q, q ≤ m → q ≤ sumTo q fun i => (a i).nodes := by
   intro q
   induction q with
   | zero => intro _; omega
   | succ q ihq =>
    intro hq
    have h1 := ihq (by omega)
    have h2 := hone q (by omega)
    simp only [sumTo]
    omega
  have hm5 : m ≤ 20000 := by
   have := hsum m (Nat.le_refl _)
   simp only [T.nodes] at hN
   omega
  have HLN := Lib.hid (show ∀ i, i < m → (a i).nodes ≤ 20000 from fun i hi => by
   have key : ∀ q, i < q → (a i).nodes ≤ sumTo q fun i => (a i).nodes := by
    intro q
    induction q with
    | zero => intro h; omega
    | succ q ihq =>
     intro h
     simp only [sumTo]
     rcases Nat.lt_or_ge i q with h1 | h1
     ·have := ihq h1; omega
     ·obtain rfl : i = q := by omega
      omega
   have := key m hi
   simp only [T.nodes] at hN
   omega)
  obtain ⟨z, q, b, he, hz⟩ := nameV_cases k s m
  have CC := Lib.hid (fun W => rcontrol_any k n s A m c he W)
  rw [ctl_is (n := n) (a := a) hz] at CC
  have BX := Lib.hid ((Below.refl w.heap.size w).alloc (Nat.le_refl _) (Obj.cells #[.int .i64 k, .int .i64 n, .string s, .slice A m c] 39))
  have XB := Lib.hid (heap_alloc_new w (Obj.cells #[.int .i64 k, .int .i64 n, .string s, .slice A m c] 39))
  have IH := Lib.hid ih
  obtain ⟨cv, hcv⟩ : ∃ cv, ctlT (.mk k n s m a) = cv := ⟨_, rfl⟩
  rw [hcv] at CC
  have HW := Lib.hid (show wrongT (.mk k n s m a) = (k == 2 || (cv && anyN m fun i => wrongT (a i))) by rw [wrongT, hcv])
  rw [HW.out]
  clear hv ih hN ta hone hsum he hz hcv
  cases h2 : (k == 2) with
  | true =>
   go_enter Tryz.func54, Tryz.ntmps54
   go_wp2_with fail
   go_ret
   exact ⟨rfl, BX.out⟩
  | false =>
   go_enter Tryz.func54, Tryz.ntmps54
   go_wp2_with fail
   go_loopw [2, 3] (fun _ iv wr => ∃ i : Nat, iv = .int .i64 (i : Int) ∧ i ≤ m ∧ Hid (∀ q, q < i → wrongT (a q) = false) ∧ Below w.heap.size w wr ∧ wr.heap[w.heap.size]? = some (.cells #[.int .i64 k, .int .i64 n, .string s, .slice A m c] 39 (0, 0))) (fun _ iv _ => m - (intOf iv).toNat)
   case atStart => exact ⟨0, rfl, Nat.zero_le _, Lib.hid fun q hq => absurd hq (by omega), BX.out, XB.out⟩
   case round =>
    obtain ⟨i, rfl, hi, HQ, hbw, hbox⟩ := hrel
    have BW := Lib.hid hbw
    have HB1 := Lib.hid hbox
    obtain ⟨x0, x1, x2, x3⟩ := box4t hbox
    clear hbw hbox
    go_wp2_with fail
    refine (CC.out _).mono ?_
    rintro e w1 ⟨rfl, h1⟩
    have B1 := Lib.hid (BW.out.trans (h1.mono BW.out.size))
    have HB2 := Lib.hid ((h1.block w.heap.size (heap_lt HB1.out)).trans HB1.out)
    have hl2 := heap_lt HB2.out
    clear h1 x0 x1 x2 x3
    obtain ⟨y0, y1, y2, y3⟩ := box4t HB2.out
    cases cv with
    | false =>
     go_wp2_with fail
     go_ret
     exact ⟨by simp, B1.out⟩
    | true =>
     by_cases him : i < m
     ·have him' : (i : Int) < (m : Int) := by omega
      obtain ⟨g, o, rfl, hg, hargs⟩ := HA.out.cells (by omega)
      obtain ⟨u0, u1, u2, u3, d0, d1, d2, d3, hta⟩ := hargs i him
      rw [Nat.mul_comm 4 i] at d0 d1 d2 d3
      have z0 := (B1.out.cell (p := ⟨g, _, none⟩) hg).trans d0
      have z1 := (B1.out.cell (p := ⟨g, _, none⟩) hg).trans d1
      have z2 := (B1.out.cell (p := ⟨g, _, none⟩) hg).trans d2
      have z3 := (B1.out.cell (p := ⟨g, _, none⟩) hg).trans d3
      have hgl : g < w1.heap.size := Nat.lt_of_lt_of_le hg B1.out.size
      have CI := Lib.hid (IH.out i _ w1 ((hta.below B1.out).more B1.out.size) (HLN.out i him))
      obtain ⟨wv, hwv⟩ : ∃ wv, wrongT (a i) = wv := ⟨_, rfl⟩
      rw [hwv] at CI
      have HWV := Lib.hid hwv
      clear hargs d0 d1 d2 d3 hta hwv
      go_wp2_with fail
      refine CI.out.mono ?_
      rintro e w5 ⟨rfl, h5⟩
      have B5 := Lib.hid (B1.out.trans (h5.mono B1.out.size))
      have X5 := Lib.hid ((h5.block _ hl2).trans HB2.out)
      clear h5 y0 y1 y2 y3 z0 z1 z2 z3 CI
      cases wv with
      | true =>
       have hany := Lib.hid (show (anyN m fun i => wrongT (a i)) = true from anyN_iff.2 ⟨i, him, HWV.out⟩)
       go_wp2_with fail
       go_ret
       exact ⟨by rw [hany.out]; rfl, B5.out⟩
      | false =>
       go_wp2_with fail
       go_roundw
       case rel => exact ⟨i + 1, by go_num, him, Lib.hid (fun q hq => by
        rcases Nat.lt_or_ge q i with h9 | h9
        ·exact HQ.out q h9
        ·obtain rfl : q = i := by omega
         exact HWV.out), B5.out, X5.out⟩
       case measure => simp [intOf]; omega
     ·obtain rfl : i = m := by omega
      have hany := Lib.hid (show (anyN i fun i => wrongT (a i)) = false from by
       cases h9 : anyN i fun i => wrongT (a i) with
       | false => rfl
       | true =>
        obtain ⟨q, h10, h11⟩ := anyN_iff.1 h9
        rw [HQ.out q h10] at h11
        cases h11)
      go_wp2_with fail
      go_ret
      exact ⟨by rw [hany.out]; rfl, B1.out⟩
end Go.Proofs.YtibcpdmeigdgpaaGreatDoor
