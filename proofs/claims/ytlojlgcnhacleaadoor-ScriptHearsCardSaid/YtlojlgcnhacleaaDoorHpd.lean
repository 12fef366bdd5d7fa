/- script.heard, of a line that was told. -/
import Derived.Test.YtlojlgcnhacleaaDoorHpa
import Derived.Test.YtlojlgcnhacleaaDoorHpb
import Derived.Test.YtlojlgcnhacleaaDoorHpc
namespace Go.Proofs.YtlojlgcnhacleaaDoor
open Go.RowKit Go.Shelf
def ksFrom (k : Nat) : List Nat := List.range' k (9 - k)
theorem ks_step {k : Nat} (h : k < 9) : ksFrom k = k :: ksFrom (k + 1) := by
  unfold ksFrom
  rw [show 9 - k = (9 - (k + 1)) + 1 by omega, List.range'_succ]
theorem ks_end : ksFrom 9 = [] := rfl
theorem ks_all : ksFrom 1 = [1, 2, 3, 4, 5, 6, 7, 8] := rfl
set_option maxRecDepth 100000 in
set_option maxHeartbeats 4000000 in
theorem heard_any (s : ByteArray) (o : Nat × List UInt8) (h : heardL s.data.toList = some o) (hs : s.size ≤ 100000000) (w : World) (hK : KindsX w) :
    Calls Tryd.prog 15 #[.string s] w fun e w' => e = .returned (.tuple #[.agg #[.int .i64 (o.1 : Int), .string (ba o.2)], .bool true]) ∧ Below w.heap.size w w' := by
  have hgl : 0 < w.heap.size := cell_lt (hK 0 (by decide))
  have HK := Lib.hid hK
  have H := Lib.hid h
  clear h hK
  have BX := Lib.hid (belA (Below.refl w.heap.size w) (.cells #[.int .i64 0, .string ⟨#[]⟩] 25))
  have HX := Lib.hid (heap_at w (.cells #[.int .i64 0, .string ⟨#[]⟩] 25) rfl)
  go_enter Tryd.func15, Tryd.ntmps15
  go_wp2
  go_loopw [3, 4] (fun bv kv wr => ∃ k : Nat, bv = .bool false ∧ kv = .int .i64 (k : Int) ∧ 1 ≤ k ∧ k ≤ 9 ∧ Hid (heardF s.data.toList (ksFrom k) = some o) ∧ Hid (wr.heap[w.heap.size]? = some (.cells #[.int .i64 0, .string ⟨#[]⟩] 25 (0, 0))) ∧ Below w.heap.size w wr) (fun _ kv _ => 9 - (intOf kv).toNat)
  case atStart => exact ⟨1, rfl, rfl, by omega, by omega, Lib.hid (by rw [ks_all]; exact H.out), HX, BX.out⟩
  case round =>
    obtain ⟨k, rfl, rfl, hk1, hk9, HF, HXr, hbl⟩ := hrel
    have hsz := hbl.size
    rcases Nat.lt_or_ge k 9 with hk | hk
    · have kc := (HK.out.below hbl hgl) k hk
      have HB := Lib.hid hbl
      have CC := Lib.hid (cutp_any s (ba (kindL k)) wr)
      have hF := HF.out
      rw [ks_step hk, heardF] at hF
      have hbe : (ba (kindL k)).data.toList = kindL k := by simp [ba]
      rw [hbe] at CC
      have hk9' : (k : Int) < 9 := by omega
      clear hbl
      have hksz : (ba (kindL k)).size ≤ 7 := by have := kind_len k hk; simp [ba, ByteArray.size]; omega
      cases hbh : behL (kindL k) s.data.toList with
      | none =>
        rw [hbh] at hF CC
        have HF2 := Lib.hid hF
        clear hF hbh
        go_wp2_with fail
        refine CC.out.mono ?_
        rintro e w1 ⟨rfl, hb1⟩
        have X1 := Lib.hid ((hb1.block _ (heap_lt HXr.out)).trans HXr.out)
        have B1 := HB.out.trans (hb1.mono hsz)
        clear hb1
        go_wp2_with fail
        go_roundw
        case rel => exact ⟨k + 1, rfl, by go_num, by omega, by omega, HF2, X1, B1⟩
        case measure => simp [intOf]; omega
      | some r =>
        rw [hbh] at hF CC
        simp only at hF
        have hrs : (ba r).size ≤ s.size := by
          have h2 := hbh
          unfold behL at h2
          split at h2
          · injection h2 with h2
            rw [← h2]
            show (ba _).data.size ≤ s.data.size
            rw [← Array.length_toList (xs := s.data)]
            simp [ba]
          · cases h2
        clear hbh
        have hsuf := fun W : World => Tryd.strings_HasSuffix (ba (kindL k)) ⟨#[32]⟩ W (by omega)
        simp only [kind_suf k hk] at hsuf
        cases hT : hasT k with
        | true =>
          rw [hT, if_pos rfl] at hF
          obtain ⟨t, ht, rfl⟩ := Option.map_eq_some_iff.1 hF
          rw [hT] at hsuf
          have HSf := Lib.hid hsuf
          have CU := Lib.hid (fun W : World => unmask_any (ba r) t (by simpa [ba] using ht) (by omega) W)
          clear hsuf hT hF ht
          go_wp2_with fail
          refine CC.out.mono ?_
          rintro e w1 ⟨rfl, hb1⟩
          have x1 := (hb1.block _ (heap_lt HXr.out)).trans HXr.out
          have X1 := Lib.hid x1
          have B1 := Lib.hid (HB.out.trans (hb1.mono hsz))
          clear hb1 x1
          go_wp2_with fail
          refine (HSf.out _).mono ?_
          rintro e w' ⟨rfl, rfl⟩
          go_wp2_with fail
          refine (CU.out _).mono ?_
          rintro e w2 ⟨rfl, hb2⟩
          have x2 := (hb2.block _ (heap_lt X1.out)).trans X1.out
          have c0 := cell_of_row w2 w.heap.size 0 _ _ _ x2
          have c1 := cell_of_row w2 w.heap.size 1 _ _ _ x2
          have hf0 : ∀ i, w2.frozen? ⟨w.heap.size, i, none⟩ = false := fun i => by simp [World.frozen?, x2]
          go_wp2_with fail
          have x3 := blk_set (blk_set x2 0 (.int .i64 (k : Int))) 1 (.string (ba t))
          have z0 := cell_of_row _ w.heap.size 0 _ _ _ x3
          have z1 := cell_of_row _ w.heap.size 1 _ _ _ x3
          refine bodyPost_ret (v := .tuple #[.agg #[.int .i64 (k : Int), .string (ba t)], .bool true]) (by simp [results, go_sem, z0, z1]) rfl ?_
          exact ⟨rfl, ((B1.out.trans (hb2.mono (by have := B1.out.size; omega))).setCell (p := ⟨w.heap.size, 0, none⟩) (Nat.le_refl _) _).setCell (p := ⟨w.heap.size, 1, none⟩) (Nat.le_refl _) _⟩
        | false =>
          rw [hT, if_neg (by decide)] at hF
          have hr0 : r = [] := by
            split at hF
            · assumption
            · cases hF
          subst hr0
          rw [if_pos rfl] at hF
          obtain rfl := Option.some.inj hF
          rw [hT] at hsuf
          have HSf := Lib.hid hsuf
          have hce : (cutO s (some [])).fst.toList = [] := by show (ba []).toList = []; rw [ByteArray.toList_eq]; rfl
          clear hsuf hT hF
          go_wp2_with fail
          refine CC.out.mono ?_
          rintro e w1 ⟨rfl, hb1⟩
          have x1 := (hb1.block _ (heap_lt HXr.out)).trans HXr.out
          have X1 := Lib.hid x1
          have B1 := Lib.hid (HB.out.trans (hb1.mono hsz))
          clear hb1 x1
          go_wp2_with fail
          refine (HSf.out _).mono ?_
          rintro e w2 ⟨rfl, rfl⟩
          have x2 := X1.out
          have c0 := cell_of_row _ w.heap.size 0 _ _ _ x2
          have c1 := cell_of_row _ w.heap.size 1 _ _ _ x2
          have hf0 : ∀ i, w2.frozen? ⟨w.heap.size, i, none⟩ = false := fun i => by simp [World.frozen?, x2]
          go_wp2_with fail
          have x3 := blk_set (blk_set x2 0 (.int .i64 (k : Int))) 1 (.string ⟨#[]⟩)
          have z0 := cell_of_row _ w.heap.size 0 _ _ _ x3
          have z1 := cell_of_row _ w.heap.size 1 _ _ _ x3
          refine bodyPost_ret (v := .tuple #[.agg #[.int .i64 (k : Int), .string ⟨#[]⟩], .bool true]) (by simp [results, go_sem, z0, z1]) rfl ?_
          exact ⟨rfl, (B1.out.setCell (p := ⟨w.heap.size, 0, none⟩) (Nat.le_refl _) _).setCell (p := ⟨w.heap.size, 1, none⟩) (Nat.le_refl _) _⟩
    · obtain rfl : k = 9 := by omega
      have := HF.out
      rw [ks_end, heardF] at this
      cases this
end Go.Proofs.YtlojlgcnhacleaaDoor
