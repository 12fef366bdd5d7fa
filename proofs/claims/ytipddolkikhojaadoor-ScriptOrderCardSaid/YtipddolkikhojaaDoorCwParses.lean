/- The walk of ScriptParses. -/
import Derived.Test.YtipddolkikhojaaDoorCwPrints
import Derived.Test.YtipddolkikhojaaDoorRs
namespace Go.Proofs.YtipddolkikhojaaDoor
open Go.RowKit

theorem parse_same {tx : List UInt8} {pg q pg' q' : ByteArray} {a b c d n er a' b' c' d' n' er' : Int}
    (h1 : (scriptN tx = .error (n.toNat, er) ∧ 0 ≤ n ∧ er ≠ 0 ∧ pg = ⟨#[]⟩ ∧ q = ⟨#[]⟩ ∧ a = 0 ∧ b = 0 ∧ c = 0 ∧ d = 0) ∨ ∃ st, scriptN tx = .ok st ∧ er = 0 ∧ n = 0 ∧ pg = ba st.prog ∧ q = ba st.query ∧ a = st.lim 0 ∧ b = st.lim 1 ∧ c = st.lim 2 ∧ d = st.lim 3)
    (h2 : (scriptN tx = .error (n'.toNat, er') ∧ 0 ≤ n' ∧ er' ≠ 0 ∧ pg' = ⟨#[]⟩ ∧ q' = ⟨#[]⟩ ∧ a' = 0 ∧ b' = 0 ∧ c' = 0 ∧ d' = 0) ∨ ∃ st, scriptN tx = .ok st ∧ er' = 0 ∧ n' = 0 ∧ pg' = ba st.prog ∧ q' = ba st.query ∧ a' = st.lim 0 ∧ b' = st.lim 1 ∧ c' = st.lim 2 ∧ d' = st.lim 3) :
    pg' = pg ∧ q' = q ∧ a' = a ∧ b' = b ∧ c' = c ∧ d' = d ∧ n' = n ∧ er' = er := by
  rcases h1 with ⟨e1, f1, f2, rfl, rfl, rfl, rfl, rfl, rfl⟩ | ⟨st, e1, rfl, rfl, rfl, rfl, rfl, rfl, rfl, rfl⟩
  · rcases h2 with ⟨e2, g1, g2, rfl, rfl, rfl, rfl, rfl, rfl⟩ | ⟨st, e2, _⟩
    · rw [e1] at e2
      injection e2 with e2
      injection e2 with e3 e4
      exact ⟨rfl, rfl, rfl, rfl, rfl, rfl, by omega, e4.symm⟩
    · rw [e1] at e2; cases e2
  · rcases h2 with ⟨e2, _⟩ | ⟨st', e2, rfl, rfl, rfl, rfl, rfl, rfl, rfl, rfl⟩
    · rw [e1] at e2; cases e2
    · rw [e1] at e2
      injection e2 with e2
      subst e2
      exact ⟨rfl, rfl, rfl, rfl, rfl, rfl, rfl, rfl⟩
set_option maxRecDepth 100000 in
set_option maxHeartbeats 8000000 in
theorem scriptparses_any (s : ByteArray) (w : World) (mx : Int) (hm : w.cell? ⟨2, 0, none⟩ = some (.int .i64 mx)) (hW : WordsX w) (hT : TabX w) (hE : ErrX w) :
    Calls Tryd.prog 5 #[.string s] w fun e w' => e = .returned (.bool true) ∧ Below w.heap.size w w' := by
  by_cases hlong : (4096 : Int) < (s.size : Int)
  · clear hW hT hE hm
    go_enter Tryd.func5, Tryd.ntmps5
    go_wp2_with fail
    go_ret
    exact ⟨rfl, Below.refl _ _⟩
  have C1 := Lib.hid (sparse_any s w (by omega) hW mx hm hT hE)
  have CR := Lib.hid (fun (W : World) => rsparse_any s W (by omega))
  clear hW hT hE hm
  go_enter Tryd.func5, Tryd.ntmps5
  go_wp2_with fail
  refine C1.out.mono ?_
  rintro e w1 ⟨⟨pg, q, a, b, c, d, n, er, rfl, h1⟩, hb1⟩
  have H1 := Lib.hid h1
  have BZ1 := Lib.hid (belA hb1 (Obj.cells #[.string pg, .string q, .int .i64 a, .int .i64 b, .int .i64 c, .int .i64 d] 38))
  have Z1 := Lib.hid (heap_alloc_new w1 (Obj.cells #[.string pg, .string q, .int .i64 a, .int .i64 b, .int .i64 c, .int .i64 d] 38))
  have CT := Lib.hid (fun (W : World) => theirs_any pg q a b c d W)
  clear h1 hb1 C1
  go_wp2_with fail
  refine (CR.out _).mono ?_
  rintro e w2 ⟨⟨pg', q', a', b', c', d', n', er', rfl, h2⟩, hb2⟩
  obtain ⟨rfl, rfl, rfl, rfl, rfl, rfl, rfl, rfl⟩ := parse_same H1.out h2
  have B2 := Lib.hid (BZ1.out.trans (hb2.mono BZ1.out.size))
  have Z2 := Lib.hid ((hb2.block _ (heap_lt Z1.out)).trans Z1.out)
  have BZ2 := Lib.hid (belA B2.out (Obj.cells #[.string pg', .string q', .int .i64 a', .int .i64 b', .int .i64 c', .int .i64 d'] TRS))
  have Y1 := Lib.hid ((Below.heap_alloc w2 (Obj.cells #[.string pg', .string q', .int .i64 a', .int .i64 b', .int .i64 c', .int .i64 d'] TRS) _ (heap_lt Z2.out)).trans Z2.out)
  have Y2 := Lib.hid (heap_alloc_new w2 (Obj.cells #[.string pg', .string q', .int .i64 a', .int .i64 b', .int .i64 c', .int .i64 d'] TRS))
  have hpp : (pg'.toList == pg'.toList) = true := beq_self_eq_true _
  have hqq : (q'.toList == q'.toList) = true := beq_self_eq_true _
  clear h2 hb2 CR H1
  go_wp2_with fail
  generalize w2.alloc (Obj.cells #[.string pg', .string q', .int .i64 a', .int .i64 b', .int .i64 c', .int .i64 d'] TRS) = X at *
  have KP := Lib.hid (fun (W : World) (h : Below X.heap.size X W) => And.intro (box6 ((h.block _ (heap_lt Y1.out)).trans Y1.out)) (box6 ((h.block _ (heap_lt Y2.out)).trans Y2.out)))
  have b0 := (Below.refl X.heap.size X).drew
  obtain ⟨⟨y0, y1, y2, y3, y4, y5⟩, z0, z1, z2, z3, z4, z5⟩ := KP.out X (Below.refl _ _)
  go_region_held3 (fun W => (W.cell? ⟨w1.heap.size, 0, none⟩ = some (.string pg') ∧ W.cell? ⟨w1.heap.size, 1, none⟩ = some (.string q') ∧ W.cell? ⟨w1.heap.size, 2, none⟩ = some (.int .i64 a') ∧ W.cell? ⟨w1.heap.size, 3, none⟩ = some (.int .i64 b') ∧ W.cell? ⟨w1.heap.size, 4, none⟩ = some (.int .i64 c') ∧ W.cell? ⟨w1.heap.size, 5, none⟩ = some (.int .i64 d')) ∧
      W.cell? ⟨w2.heap.size, 0, none⟩ = some (.string pg') ∧ W.cell? ⟨w2.heap.size, 1, none⟩ = some (.string q') ∧ W.cell? ⟨w2.heap.size, 2, none⟩ = some (.int .i64 a') ∧ W.cell? ⟨w2.heap.size, 3, none⟩ = some (.int .i64 b') ∧ W.cell? ⟨w2.heap.size, 4, none⟩ = some (.int .i64 c') ∧ W.cell? ⟨w2.heap.size, 5, none⟩ = some (.int .i64 d'))
    (first | (with_reducible exact KP.out _ b0) | (with_reducible exact KP.out _ b1))
    ((first
      | ((with_reducible refine (CT.out _).mono ?_); rintro e w4 ⟨rfl, k4⟩; have b1 := b0.trans (k4.mono b0.size); clear k4)))
  all_goals
    go_wp2_with fail
    go_ret
    exact ⟨rfl, BZ2.out.trans (b1.mono BZ2.out.size)⟩
end Go.Proofs.YtipddolkikhojaaDoor
