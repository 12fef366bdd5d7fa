/- The walk through coneyref11.Encode. -/
import Derived.Test.YtlgeepjlnjlgdaaDoorCo6
namespace Go.Proofs.YtlgeepjlnjlgdaaDoor
open Go.RowKit

theorem codeG_len : ∀ (gs : List T) (r : List Ins × List Int), (∀ g ∈ gs, g.kinds) → (codeG gs r).1.length = r.1.length + gs.length + nodesL gs ∧ (codeG gs r).2.length ≤ r.2.length + nodesL gs
  | [], r, _ => ⟨by simp [codeG, nodesL], by simp [codeG, nodesL]⟩
  | g :: gs, r, h => by
    obtain ⟨j1, j2⟩ := codeT_len g (h g (by simp)) r.2
    obtain ⟨i1, i2⟩ := codeG_len gs (r.1 ++ [⟨7, 0, ⟨#[]⟩⟩] ++ (codeT g r.2).1, (codeT g r.2).2) fun x hx => h x (by simp [hx])
    have e : codeG (g :: gs) r = codeG gs (r.1 ++ [⟨7, 0, ⟨#[]⟩⟩] ++ (codeT g r.2).1, (codeT g r.2).2) := rfl
    rw [e]
    simp only [List.length_append, List.length_cons, List.length_nil, nodesL, List.map_cons, List.sum_cons] at i1 i2 j1 j2 ⊢
    exact ⟨by omega, by omega⟩
/-- A row of terms stands where instructions are laid down. -/
theorem TL.kp {w w' : World} {B B' : Nat} {S P : Nat → Prop} {v : Value} {l : List T} {qs : List Q6} (h : TL w B S P v l qs) (hk : Kp B' w w') : TL w' B S P v l qs :=
  ⟨h.len, hk.own h.own (by decide), fun i h1 h2 => hk.tp (h.tp i h1 h2), fun b hP => ⟨(h.lo b hP).1, Nat.lt_of_lt_of_le (h.lo b hP).2 hk.size⟩, h.off, h.NB⟩
def EncP (th : T) (gs : List T) (w : World) (e : Ending) (w' : World) : Prop := ∃ lv : Value, e = .returned lv ∧ IRw w' w.heap.size lv (encN th gs) ∧ Kp w.heap.size w w'
theorem IRw.all {w : World} {B : Nat} {v : Value} {l : List Ins} (h : IRw w B v l) : ∃ A c, v = .slice A l.length c ∧ l.length ≤ c ∧ (A = none → c = 0) ∧ (0 < l.length → ∃ b off, A = some ⟨b, off, none⟩ ∧ b < w.heap.size ∧ ∀ j u, (insCells l)[j]? = some u → w.cell? ⟨b, off + j, none⟩ = some u) := by
  obtain ⟨A, c, rfl, hc, hA, _, hx⟩ := own_open h
  refine ⟨A, c, rfl, hc, hA, fun h0 => ?_⟩
  obtain ⟨g, cur, rfl, _, hh, hcur⟩ := hx h0
  refine ⟨g, 0, rfl, heap_lt hh, fun j u hu => ?_⟩
  have hj : j < l.length * 3 := by
    rcases Nat.lt_or_ge j (insCells l).length with h1 | h1
    · rw [insCells_length] at h1; omega
    · rw [List.getElem?_eq_none h1] at hu; cases hu
  rw [Nat.zero_add, cell_of_row w g j _ _ _ hh, hcur j hj, hu]
set_option maxRecDepth 100000 in
set_option maxHeartbeats 8000000 in
theorem rencode_any {th : T} {gs : List T} {w : World} {S S' P : Nat → Prop} {B' : Nat} {hv gv : Value} {qs : List Q6} (hok : th.ok) (hgok : ∀ g ∈ gs, g.ok) (hth : TP w S th hv) (hgs : TL w B' S' P gv gs qs) (hfew : nodesL gs ≤ 7000) (hfew2 : gs.length ≤ 7000) :
    Calls Tryd.prog 7 #[hv, gv] w fun e w' => EncP th gs w e w' := by
  obtain ⟨q0, q1, q2, q3, q4, q5, rfl⟩ := hth.agg
  obtain ⟨A, c, rfl, hc, hA, hx⟩ := hgs.all
  have HTH := Lib.hid hth
  have HGS := Lib.hid hgs
  have HOK := Lib.hid hok
  have HGO := Lib.hid hgok
  have hn1 : th.nodes ≤ 4000 := hok.2
  have BX := Lib.hid (belA (Below.refl w.heap.size w) (Obj.cells #[.int .i64 q0, .int .i64 q1, .string q2, .slice q3 q4 q5] 24))
  have KX := Lib.hid (Kp.of BX.out (Nat.le_refl _))
  have C0 := Lib.hid (code_any th hok w.heap.size [] [] (.slice none 0 0) (.slice none 0 0) _ _ S (HTH.out.below BX.out) (World.ownsRow_nil _ _ _ _) (IRow.nil _) (by simp) (by simp; omega) (by simp; omega))
  obtain ⟨r0, hr0⟩ : ∃ r0, r0 = codeT th [] := ⟨_, rfl⟩
  have HR0 := Lib.hid hr0
  have HRL := Lib.hid (show r0.1.length ≤ 4000 ∧ r0.2.length ≤ 4000 by
    obtain ⟨j1, j2⟩ := codeT_len th hok.1.kinds []
    rw [hr0]
    simp at j2
    exact ⟨by omega, by omega⟩)
  clear hth hgs hok hgok hx hr0
  go_enter Tryd.func7, Tryd.ntmps7
  go_wp2_with fail
  refine C0.out.mono ?_
  rintro e w1 ⟨ov, vv, rfl, ho, hv, hk⟩
  have O1 := Lib.hid (show IRw w1 w.heap.size ov r0.1 by rw [HR0.out]; simpa using ho)
  have V1 := Lib.hid (show IRow w1 vv r0.2 by rw [HR0.out]; exact hv)
  have K1 := Lib.hid (KX.out.trans hk)
  clear ho hv hk C0
  go_wp2_with fail
  go_loopw [5, 6, 7] (fun oq vq iv wr => ∃ i : Nat, iv = .int .i64 (i : Int) ∧ i ≤ gs.length ∧ IRw wr w.heap.size oq (codeG (gs.take i) r0).1 ∧ IRow wr vq (codeG (gs.take i) r0).2 ∧ Kp w.heap.size w wr) (fun _ _ iv _ => gs.length - (intOf iv).toNat)
  case atStart => exact ⟨0, rfl, Nat.zero_le _, O1.out, V1.out, K1.out⟩
  case round =>
    clear O1 V1 K1
    obtain ⟨i, rfl, hi, ho2, hv2, hk2⟩ := hrel
    have HLen := Lib.hid (show (codeG (gs.take i) r0).1.length ≤ 19000 ∧ (codeG (gs.take i) r0).2.length ≤ 19000 by
      obtain ⟨j1, j2⟩ := codeG_len (gs.take i) r0 fun x hx => (HGO.out x (List.mem_of_mem_take hx)).1.kinds
      have h1 : (gs.take i).length ≤ gs.length := by rw [List.length_take]; omega
      have h2 : nodesL gs = nodesL (gs.take i) + nodesL (gs.drop i) := by rw [← nodesL_app, List.take_append_drop]
      have h3 := HRL.out
      omega)
    obtain ⟨r2, hr2⟩ : ∃ r2, r2 = codeG (gs.take i) r0 := ⟨_, rfl⟩
    rw [← hr2] at ho2 hv2 HLen
    have HR2 := Lib.hid hr2
    have O2 := Lib.hid ho2
    have V2 := Lib.hid hv2
    have K2 := Lib.hid hk2
    have hw2 := hk2.size
    have hL1 : r2.1.length ≤ 19000 := HLen.out.1
    have hL2 : r2.2.length ≤ 19000 := HLen.out.2
    obtain ⟨AV, cv, rfl, _, _, _⟩ := hv2.open_
    clear ho2 hv2 hk2 hr2
    by_cases hig : i < gs.length
    · have hig' : (i : Int) < (gs.length : Int) := by omega
      go_wp2_with (at_builtin; go_must (refine wpList_append_at _ rfl _ _ _ rfl elIns w.heap.size _ r2.1.length (insCells r2.1) rfl (O2.out.alloc _) (some ⟨wr.heap.size, 0, none⟩) 1 1 (insCells [⟨7, 0, ⟨#[]⟩⟩]) rfl (fun h => by cases h) (Nat.le_refl _) rfl (fun _ => ⟨_, 0, rfl, fun j u hu => ?_⟩) (insCells_small _) (by omega) (by unfold maxLen; omega) (by simp; omega) ?_))
      · simpa [insCells, Ins.cells] using hu
      intro v3 w3 hown3 hg3 hat3
      obtain ⟨l3, hl3⟩ : ∃ l3, l3 = r2.1 ++ [⟨7, 0, ⟨#[]⟩⟩] := ⟨_, rfl⟩
      have HL3 := Lib.hid hl3
      have hl3n : l3.length = r2.1.length + 1 := by rw [hl3]; simp
      have O3 := Lib.hid (show IRw w3 w.heap.size v3 l3 by
        unfold IRw
        rw [hl3, ← insCells_app, List.length_append]
        exact hown3)
      have K3 := Lib.hid ((K2.out.trans (Kp.of ((Below.refl _ _).alloc (Nat.le_refl wr.heap.size) (Obj.cells #[.int .i64 7, .int .i64 0, .string ⟨#[]⟩] 50)) hw2)).trans (Kp.grown hg3 (O2.out.alloc _) (by simp; omega)))
      have V3 := Lib.hid (((Kp.of ((Below.refl _ _).alloc (Nat.le_refl wr.heap.size) (Obj.cells #[.int .i64 7, .int .i64 0, .string ⟨#[]⟩] 50)) hw2).trans (Kp.grown hg3 (O2.out.alloc _) (by simp; omega))).irow V2.out)
      obtain ⟨g, q, hA', _, hgl, _, d0, d1, d2, d3, ht⟩ := (HGS.out.kp K3.out).at_ rfl hig
      subst hA'
      have hgi := HGO.out _ (List.getElem_mem hig)
      obtain ⟨x, hxE⟩ : ∃ x, x = gs[i]'hig := ⟨_, rfl⟩
      rw [← hxE] at ht hgi
      have HXE := Lib.hid hxE
      have hgn : x.nodes ≤ 4000 := hgi.2
      have CI := Lib.hid (code_any x hgi w.heap.size l3 r2.2 v3 (.slice AV r2.2.length cv) q.val w3 _ ht O3.out V3.out (by have := K3.out.size; omega) (by omega) (by omega))
      clear hown3 hg3 hat3 ht hgi hl3 hxE
      go_wp2_with fail
      refine CI.out.mono ?_
      rintro e w4 ⟨ov4, vv4, rfl, ho4, hv4, hk4⟩
      have E4 := Lib.hid (show codeG (gs.take (i + 1)) r0 = (l3 ++ (codeT x r2.2).1, (codeT x r2.2).2) by
        rw [List.take_succ_eq_append_getElem hig, codeG_snoc, ← HR2.out, ← HXE.out, HL3.out])
      have O4 := Lib.hid (show IRw w4 w.heap.size ov4 (codeG (gs.take (i + 1)) r0).1 by rw [E4.out]; exact ho4)
      have V4 := Lib.hid (show IRow w4 vv4 (codeG (gs.take (i + 1)) r0).2 by rw [E4.out]; exact hv4)
      have K4 := Lib.hid (K3.out.trans hk4)
      clear ho4 hv4 hk4 CI
      go_wp2_with fail
      go_roundw
      case rel => exact ⟨i + 1, by go_num, hig, O4.out, V4.out, K4.out⟩
      case measure => simp [intOf]; omega
    · have hig' : ¬ (i : Int) < (gs.length : Int) := by omega
      have hin : i = gs.length := by omega
      have E := Lib.hid (show r2 = codeG gs (codeT th []) by rw [HR2.out, hin, List.take_length, HR0.out])
      obtain ⟨AO, co, rfl, hco, hAO, hxo⟩ := O2.out.all
      have HXO := Lib.hid hxo
      have F0 := Lib.hid (show IRw (wr.alloc (Obj.cells #[.int .i64 1, .int .i64 (r2.2.length : Int), .string ⟨#[]⟩] 50)) w.heap.size (.slice (some ⟨wr.heap.size, 0, none⟩) 1 1) [⟨1, (r2.2.length : Int), ⟨#[]⟩⟩] from
        ⟨rfl, .inr ⟨_, 1, _, rfl, hw2, heap_alloc_new _ _, Nat.le_refl _, by simp [maxLen], rfl, by simp [insCells, Ins.cells]⟩⟩)
      have HU := Lib.hid (show 0 < r2.1.length → ∃ b off, AO = some ⟨b, off, none⟩ ∧ ∀ j u, (insCells r2.1)[j]? = some u → (wr.alloc (Obj.cells #[.int .i64 1, .int .i64 (r2.2.length : Int), .string ⟨#[]⟩] 50)).cell? ⟨b, off + j, none⟩ = some u from fun h0 => by
        obtain ⟨b, off, e, hb, h⟩ := HXO.out h0
        exact ⟨b, off, e, fun j u hu => by rw [World.cell?_alloc_lt _ _ _ hb]; exact h j u hu⟩)
      clear hxo hin
      go_wp2_with (first
        | (at_builtin; go_must (refine wpList_append_at _ rfl (.tmp 38) (.tmp 39) _ rfl elIns w.heap.size _ 1 (insCells [⟨1, (r2.2.length : Int), ⟨#[]⟩⟩]) rfl F0.out AO r2.1.length co (insCells r2.1) rfl hAO hco (by rw [insCells_length, Nat.mul_comm]) HU.out (insCells_small _) (by omega) (by unfold maxLen; omega) (by simp; omega) ?_)))
      intro v5 w5 hown5 hg5 hat5
      obtain ⟨l5, hl5⟩ : ∃ l5, l5 = [⟨1, (r2.2.length : Int), ⟨#[]⟩⟩] ++ r2.1 := ⟨_, rfl⟩
      have HL5 := Lib.hid hl5
      have hl5n : l5.length = 1 + r2.1.length := by rw [hl5]; simp; omega
      have O5 := Lib.hid (show IRw w5 w.heap.size v5 l5 by
        unfold IRw
        rw [hl5, ← insCells_app, List.length_append]
        exact hown5)
      have K5 := Lib.hid ((K2.out.trans (Kp.of ((Below.refl _ _).alloc (Nat.le_refl wr.heap.size) (Obj.cells #[.int .i64 1, .int .i64 (r2.2.length : Int), .string ⟨#[]⟩] 50)) hw2)).trans (Kp.grown hg5 F0.out (by simp; omega)))
      have hw5 := K5.out.size
      clear hown5 hg5 hat5 hl5
      go_wp2_with (at_builtin; go_must (refine wpList_append_at _ rfl _ _ _ rfl elIns w.heap.size _ l5.length (insCells l5) rfl (O5.out.alloc _) (some ⟨w5.heap.size, 0, none⟩) 1 1 (insCells [⟨8, 0, ⟨#[]⟩⟩]) rfl (fun h => by cases h) (Nat.le_refl _) rfl (fun _ => ⟨_, 0, rfl, fun j u hu => ?_⟩) (insCells_small _) (by omega) (by unfold maxLen; omega) (by simp; omega) ?_))
      · simpa [insCells, Ins.cells] using hu
      intro v6 w6 hown6 hg6 hat6
      have O6 := Lib.hid (show IRw w6 w.heap.size v6 (encN th gs) by
        have e : encN th gs = l5 ++ [⟨8, 0, ⟨#[]⟩⟩] := by rw [HL5.out, E.out]; rfl
        unfold IRw
        rw [e, ← insCells_app, List.length_append, hl5n]
        exact hown6)
      have K6 := Lib.hid ((K5.out.trans (Kp.of ((Below.refl _ _).alloc (Nat.le_refl w5.heap.size) (Obj.cells #[.int .i64 8, .int .i64 0, .string ⟨#[]⟩] 50)) hw5)).trans (Kp.grown hg6 (O5.out.alloc _) (by simp; omega)))
      clear hown6 hg6 hat6
      go_wp2_with fail
      go_ret
      exact ⟨_, rfl, O6.out, K6.out⟩
end Go.Proofs.YtlgeepjlnjlgdaaDoor
