/- strings.NewReplacer, at the four texts. -/
import Derived.Test.YtlojlgcnhacleaaDoorHp5
namespace Go.Proofs.YtlojlgcnhacleaaDoor
open Go.RowKit Go.Shelf
theorem fourRow {w : World} {B : Nat} {v : Value} (h : w.ownsRow B 9 1 v 4 [.string ⟨#[92]⟩, .string ⟨#[92, 92]⟩, .string ⟨#[10]⟩, .string ⟨#[92, 110]⟩]) : ∃ y cc, v = .slice (some ⟨y, 0, none⟩) 4 cc ∧ B ≤ y ∧ FourX w y := by
  obtain ⟨A, c, rfl, _, _, _, hx⟩ := own_open h
  obtain ⟨g, cur, rfl, hg, hh, hcell⟩ := hx (by decide)
  exact ⟨g, c, rfl, hg, cur, _, hh, hcell 0 (by decide), hcell 1 (by decide), hcell 2 (by decide), hcell 3 (by decide)⟩
set_option maxRecDepth 100000 in
set_option maxHeartbeats 1600000 in
theorem newRep_any (w : World) (x c : Nat) (hx : FourX w x) : Calls Tryd.prog 9 #[.slice (some ⟨x, 0, none⟩) 4 c] w fun e w' => ∃ p y cc, e = .returned (.pointer (some ⟨p, 0, none⟩)) ∧
    w'.heap[p]? = some (repC 0 0 .nilIface (.slice (some ⟨y, 0, none⟩) 4 cc)) ∧ w.heap.size ≤ y ∧ y < p ∧ FourX w' y ∧ Below w.heap.size w w' := by
  obtain ⟨cs, f, hh, c0, c1, c2, c3⟩ := hx
  have hnews : ∀ j u, ([.string ⟨#[92]⟩, .string ⟨#[92, 92]⟩, .string ⟨#[10]⟩, .string ⟨#[92, 110]⟩] : List Value)[j]? = some u → w.cell? ((⟨x, 0, none⟩ : Addr).add j) = some u := fun j u hj => by
    rw [Addr.add_mid, Nat.zero_add, cell_of_row w x j _ _ _ hh]
    rcases j with _ | _ | _ | _ | j
    · exact c0.trans (by simpa using hj)
    · exact c1.trans (by simpa using hj)
    · exact c2.trans (by simpa using hj)
    · exact c3.trans (by simpa using hj)
    · simp at hj
  have HN := Lib.hid hnews
  clear hh c0 c1 c2 c3 hnews
  obtain ⟨i0, hi, hz0, hz1, hz2⟩ := elStr.hi
  go_enter Tryd.func9, Tryd.ntmps9
  go_wp2_with (at_builtin; go_must (refine wpList_append_own _ rfl _ _ 52 rfl w.heap.size 9 i0 (.string ⟨#[]⟩) 1 16 Tryd.underlying52 hi hz0 hz1 hz2 rfl (by decide) (.slice none 0 0) 0 [] rfl ⟨rfl, .inl ⟨rfl, rfl⟩⟩ ⟨x, 0, none⟩ 4 c [.string ⟨#[92]⟩, .string ⟨#[92, 92]⟩, .string ⟨#[10]⟩, .string ⟨#[92, 110]⟩] rfl rfl HN.out ?_ (by decide) (by decide) (Nat.le_refl _) ?_; (intro u hu; simp at hu; rcases hu with rfl | rfl | rfl | rfl <;> rfl); intro v5 w5 hown5 hgr5 _; obtain ⟨y, cc, rfl, hy, hF⟩ := fourRow hown5))
  have hyl : y < w5.heap.size := by
    obtain ⟨cs, f, hh, -⟩ := hF
    exact heap_lt hh
  have hb5 : Below w.heap.size w w5 := (Below.refl _ _).grown hgr5 (Nat.le_refl _) (fun g e => by cases e)
  go_ret
  exact ⟨w5.heap.size, rfl, y, ⟨cc, heap_alloc_last _ _⟩, hy, hyl, hF.keep (Below.heap_alloc _ _ _ hyl), hb5.alloc hb5.size _⟩
end Go.Proofs.YtlojlgcnhacleaaDoor
