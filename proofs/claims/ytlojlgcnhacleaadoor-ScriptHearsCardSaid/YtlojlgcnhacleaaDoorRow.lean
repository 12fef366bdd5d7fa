/- An own row, opened; bytes as a string; a block that stands in a later world. -/
import Derived.Test.YtlojlgcnhacleaaDoorProg
import Derived.Test.YtlojlgcnhacleaaDoorPush
import Derived.Lib.Hide
import Derived.Below
import Derived.Laws.BytesArg
import Derived.OwnWalk
import Derived.Deep.DeepMust
namespace Go.Proofs.YtlojlgcnhacleaaDoor
open Go.RowKit

theorem heap_lt {w : World} {g : Nat} {o : Obj} (h : w.heap[g]? = some o) : g < w.heap.size := by
  rcases Nat.lt_or_ge g w.heap.size with hlt | hge
  · exact hlt
  · rw [Array.getElem?_eq_none hge] at h; cases h
/-- An own row stands in a world in which its block stands. -/
theorem own_keep {w w' : World} {base : Nat} {e : TypeId} {size : Nat} {v : Value} {n : Nat} {xs : List Value} (h : w.ownsRow base e size v n xs)
    (hk : ∀ g, v.ownBlock = some g → w'.heap[g]? = w.heap[g]?) : w'.ownsRow base e size v n xs := by
  obtain ⟨h1, h2⟩ := h
  refine ⟨h1, ?_⟩
  rcases h2 with h2 | ⟨g, cap, cur, hv, hg, hh, hr⟩
  · exact .inl h2
  · subst hv
    exact .inr ⟨g, cap, cur, rfl, hg, (hk g rfl).trans hh, hr⟩
theorem own_below {w w' : World} {base : Nat} {e : TypeId} {size : Nat} {v : Value} {n : Nat} {xs : List Value} (h : w.ownsRow base e size v n xs) (hb : Below w.heap.size w w') : w'.ownsRow base e size v n xs :=
  own_keep h fun g hg => hb.block g (h.lt g hg).2
theorem own_open {w : World} {base : Nat} {e : TypeId} {size : Nat} {v : Value} {n : Nat} {xs : List Value} (h : w.ownsRow base e size v n xs) :
    ∃ A c, v = .slice A n c ∧ n ≤ c ∧ (A = none → c = 0) ∧ c ≤ maxLen ∧
      (0 < n → ∃ g cur, A = some ⟨g, 0, none⟩ ∧ base ≤ g ∧ w.heap[g]? = some (.cells cur e (0, 0)) ∧ ∀ j, j < n * size → cur[j]? = xs[j]?) := by
  rcases h.2 with ⟨rfl, h0⟩ | ⟨g, cap, cur, rfl, hg, hh, hnc, hmx, hsz, htk⟩
  · subst h0
    exact ⟨none, 0, rfl, Nat.le_refl _, fun _ => rfl, Nat.zero_le _, fun h => absurd h (by omega)⟩
  · refine ⟨_, cap, rfl, hnc, fun h => by (cases h), hmx, fun _ => ⟨g, cur, rfl, hg, hh, fun j hj => ?_⟩⟩
    have h1 : (cur.toList.take (n * size))[j]? = xs[j]? := by rw [htk]
    rw [List.getElem?_take, if_pos hj] at h1
    rw [← Array.getElem?_toList, h1]
theorem own_len {w : World} {base : Nat} {e : TypeId} {size : Nat} {v : Value} {n : Nat} {xs : List Value} (h : w.ownsRow base e size v n xs) : xs.length = n * size := h.1
/-- The string of an own row of bytes. -/
theorem own_string {w : World} {base : Nat} {v : Value} {n : Nat} {zs : List Int} (h : w.ownsRow base 5 1 v n (zs.map (Value.int .u8))) :
    ∃ s : ByteArray, s.size = n ∧ (convert 32 9 v).run Tryd.prog w = .ok (.string s) w := by
  have hl : zs.length = n := by have := own_len h; simpa using this
  obtain ⟨A, c, rfl, hc, hA, _, hx⟩ := own_open h
  rcases Nat.eq_zero_or_pos n with h0 | h0
  · subst h0
    rcases A with _ | ⟨b, off, sp⟩
    · exact ⟨ByteArray.empty, rfl, run_convert_bytes_nil w 32 5 Tryd.underlying32 Tryd.underlying5 0 c 9 Tryd.underlying9⟩
    · rcases h.2 with ⟨he, _⟩ | ⟨g, cap, cur, he, _⟩
      · cases he
      · injection he with he _ _
        injection he with he
        injection he with h1 h2 h3
        subst h1 h2 h3
        refine ⟨strOfNums [], rfl, run_convert_bytes_arg w 32 5 Tryd.underlying32 Tryd.underlying5 b 0 0 c [] rfl (fun i hi => absurd hi (by omega)) 9 Tryd.underlying9⟩
  · obtain ⟨g, cur, rfl, _, hh, hcell⟩ := hx h0
    refine ⟨strOfNums zs, by simp [strOfNums, ByteArray.size, hl], run_convert_bytes_arg w 32 5 Tryd.underlying32 Tryd.underlying5 g 0 n c zs hl (fun i hi => ?_) 9 Tryd.underlying9⟩
    rw [cell_of_row w g (0 + i) _ _ _ hh, Nat.zero_add, hcell i (by omega)]
    simp [List.getD_eq_getElem?_getD, List.getElem?_eq_getElem (show i < zs.length by omega)]
theorem Tryd.info_u8 : (Tryd.prog.info? 5).map (fun i => (i.zero, i.size, i.bytes)) = some (some (.int .u8 0), 1, 1) := by kernel_rfl
theorem elU8 : El Tryd.prog 32 5 (.int .u8 0) 1 1 := by
  obtain ⟨i0, hi, hz0, hz1, hz2⟩ := info_parts Tryd.info_u8
  exact ⟨Tryd.underlying32, ⟨i0, hi, hz0, hz1, hz2⟩, rfl, by omega⟩
end Go.Proofs.YtlojlgcnhacleaaDoor
