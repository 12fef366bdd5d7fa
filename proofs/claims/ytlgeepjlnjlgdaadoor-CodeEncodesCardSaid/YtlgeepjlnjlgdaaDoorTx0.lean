/- What instructions tell of themselves: plain. -/
import Derived.Test.YtlgeepjlnjlgdaaDoorGf
import Derived.Test.YtlgeepjlnjlgdaaDoorGe
import Derived.Lib.ItoaNum
import Derived.Lib.ItoaLen
namespace Go.Proofs.YtlgeepjlnjlgdaaDoor
open Go.RowKit

def lineL (x : Ins) : List UInt8 :=
  if x.o = 1 then [104, 101, 97, 100, 32] ++ Lib.itoa x.a
  else if x.o = 2 then [102, 105, 114, 115, 116, 32] ++ Lib.itoa x.a
  else if x.o = 3 then [97, 103, 97, 105, 110, 32] ++ Lib.itoa x.a
  else if x.o = 4 then [105, 110, 116, 32] ++ Lib.itoa x.a
  else if x.o = 5 then [97, 116, 111, 109, 32] ++ (quoteN x.s).data.toList
  else if x.o = 6 then [99, 109, 112, 32] ++ (quoteN x.s).data.toList ++ [32] ++ Lib.itoa x.a
  else if x.o = 7 then [103, 111, 97, 108]
  else if x.o = 8 then [100, 111, 110, 101]
  else [63]
def textL (l : List Ins) : List UInt8 := l.flatMap fun x => lineL x ++ [10]
theorem textL_snoc (l : List Ins) (x : Ins) : textL (l ++ [x]) = textL l ++ lineL x ++ [10] := by simp [textL]
theorem quote_size {s : ByteArray} : (quoteN s).size ≤ 2 * s.size + 2 := by
  unfold quoteN
  cases plainN s with
  | true => rw [if_pos rfl]; omega
  | false =>
    rw [if_neg (by decide)]
    cases he : escN s.data.toList with
    | none => exact Nat.zero_le _
    | some x =>
      have := escN_len _ _ he
      have h9 : s.data.toList.length = s.size := by rw [Array.length_toList]; rfl
      show (39 :: (x ++ [39])).toArray.size ≤ _
      simp
      omega
theorem lineL_len {x : Ins} (ha : I64 x.a) (hs : x.s.size ≤ 4096) : (lineL x).length ≤ 8230 := by
  have h1 := Lib.itoa_length_le x.a ha.1 ha.2
  have h2 := quote_size (s := x.s)
  have h3 : (quoteN x.s).data.toList.length = (quoteN x.s).size := by rw [Array.length_toList]; rfl
  unfold lineL
  repeat' split
  all_goals
    simp only [List.length_append, List.length_cons, List.length_nil]
    omega
theorem textL_len {l : List Ins} (h : ∀ x ∈ l, I64 x.a ∧ x.s.size ≤ 4096) : (textL l).length ≤ 8231 * l.length := by
  induction l with
  | nil => exact Nat.le_refl _
  | cons x l ih =>
    have h1 := ih fun y hy => h y (List.mem_cons_of_mem _ hy)
    have h2 := lineL_len (h x List.mem_cons_self).1 (h x List.mem_cons_self).2
    show ((lineL x ++ [10]) ++ textL l).length ≤ _
    rw [List.length_append, List.length_append, List.length_cons]
    simp only [List.length_cons, List.length_nil]
    omega
end Go.Proofs.YtlgeepjlnjlgdaaDoor
