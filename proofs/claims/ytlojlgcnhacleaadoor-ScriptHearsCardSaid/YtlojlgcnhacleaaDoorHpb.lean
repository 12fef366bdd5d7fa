/- script.Tell: its contract. -/
import Derived.Test.YtlojlgcnhacleaaDoorHpa
namespace Go.Proofs.YtlojlgcnhacleaaDoor
open Go.RowKit Go.Shelf
theorem kind_suf : ∀ k, k < 9 → Lib.hasSuffix (ba (kindL k)).data.toList [32] = hasT k := by decide
theorem kind_len : ∀ k, k < 9 → (kindL k).length ≤ 7 := by decide
/-- Tell under way. -/
structure TLi (B p y : Nat) (w wr : World) (l : List UInt8) : Prop where
  ib : Lib.IsBuilder TB 5 B B (Lib.byteCells l) wr
  rp : RpS wr p y
  bl : Below B w wr
set_option maxRecDepth 100000 in
set_option maxHeartbeats 4000000 in
theorem tell_any (os : List (Nat × List UInt8)) (A : Option Addr) (c : Nat) (w : World) (h : OutR w A os) (hK : KindsX w) (hk : ∀ o ∈ os, 1 ≤ o.1 ∧ o.1 ≤ 8) (hn : os.length ≤ 100000) (hl : (tellL os).length ≤ 1000000) (ht : ∀ o ∈ os, o.2.length ≤ 100000) :
    Calls Tryd.prog 5 #[.slice A os.length c] w fun e w' => e = .returned (.string (ba (tellL os))) ∧ Below w.heap.size w w' := by
  have HR := Lib.hid h
  have hgl : 0 < w.heap.size := cell_lt (hK 0 (by decide))
  have HK := Lib.hid hK
  have hX : FourX ((w.alloc (.cells #[.pointer none, .slice none 0 0] TB)).alloc (.cells #[.string ⟨#[92]⟩, .string ⟨#[92, 92]⟩, .string ⟨#[10]⟩, .string ⟨#[92, 110]⟩] 9)) (w.heap.size + 1) := ⟨_, _, heap_at _ _ (by simp), rfl, rfl, rfl, rfl⟩
  have hN := newRep_any _ _ 4 hX
  have HS := Lib.hid (show ((w.alloc (.cells #[.pointer none, .slice none 0 0] TB)).alloc (.cells #[.string ⟨#[92]⟩, .string ⟨#[92, 92]⟩, .string ⟨#[10]⟩, .string ⟨#[92, 110]⟩] 9)).heap.size = w.heap.size + 2 by simp)
  have IB0 := Lib.hid (isb_below (bld_new w) (belA (Below.refl (w.alloc (.cells #[.pointer none, .slice none 0 0] TB)).heap.size _) (.cells #[.string ⟨#[92]⟩, .string ⟨#[92, 92]⟩, .string ⟨#[10]⟩, .string ⟨#[92, 110]⟩] 9)))
  clear h hK hX
  go_enter Tryd.func5, Tryd.ntmps5
  go_wp2_with (go_at_call 9; refine hN.mono ?_; rintro e w1 ⟨p, y, cc, rfl, hp1, hy1, hyp, hF1, hb1⟩)
  have hpl : w.heap.size ≤ p := by have := HS.out; omega
  have H1 := Lib.hid (show TLi w.heap.size p y w w1 [] from ⟨isb_below IB0.out hb1, .inl ⟨cc, hp1, by omega, hF1⟩, (((Below.refl w.heap.size w).alloc (Nat.le_refl _) _).alloc (by simp) _).trans (hb1.mono (by have := HS.out; omega))⟩)
  clear hp1 hy1 hyp hF1 hb1
  go_wp2
  go_loopw [12] (fun iv wr => ∃ k : Nat, iv = .int .i64 (k : Int) ∧ k ≤ os.length ∧ Hid (TLi w.heap.size p y w wr (tellL (os.take k)))) (fun iv _ => os.length - (intOf iv).toNat)
  case atStart => exact ⟨0, rfl, by omega, H1⟩
  case round =>
    obtain ⟨k, rfl, hkl, HT⟩ := hrel
    have hBr := HT.out.bl.size
    rcases Nat.lt_or_ge k os.length with hlt | hge
    · obtain ⟨g, rfl, c0, c1⟩ := (HR.out.below HT.out.bl).at' k hlt
      have hk1 := hk _ (List.getElem_mem hlt)
      have ht1 := ht _ (List.getElem_mem hlt)
      have hsn := tell_snoc os k hlt
      have hpr := tell_pre os (k + 1)
      rw [hsn] at hpr
      have hpl0 := tell_pre os k
      have HSn := Lib.hid hsn
      clear hsn
      generalize os[k] = o at *
      obtain ⟨K, tx⟩ := o
      simp only at hk1 ht1 c0 c1
      obtain ⟨l, hl0⟩ : ∃ l, tellL (os.take k) = l := ⟨_, rfl⟩
      rw [hl0] at HT HSn hpr hpl0
      have HL0 := Lib.hid hl0
      clear hl0
      have hll : l.length ≤ 1000000 := by omega
      have hwl : w.heap.size ≤ wr.heap.size := hBr
      -- the loop's variable in its box
      have hb9 : Below wr.heap.size wr (wr.alloc (.cells #[.int .i64 (K : Int), .string (ba tx)] 25)) := belA (Below.refl _ _) _
      have hx9 : (wr.alloc (.cells #[.int .i64 (K : Int), .string (ba tx)] 25)).heap[wr.heap.size]? = some (.cells #[.int .i64 (K : Int), .string (ba tx)] 25 (0, 0)) := heap_at _ _ rfl
      have i9 := isb_below HT.out.ib hb9
      have r9 : RpS (wr.alloc (.cells #[.int .i64 (K : Int), .string (ba tx)] 25)) p y := HT.out.rp.low hb9
      have B9 := HT.out.bl.trans (hb9.mono hBr)
      have kc := (HK.out.below B9 hgl) K (by omega)
      have CK := Lib.hid (kb_any w.heap.size w.heap.size l (kindL K) (ba (kindL K)) _ i9 (by simp [ba]) (by have := kind_len K (by omega); omega) (by simp <;> omega))
      have I9 := Lib.hid i9
      have R9 := Lib.hid r9
      have X9 := Lib.hid hx9
      have BB9 := Lib.hid B9
      clear hb9 hx9 i9 r9 B9
      have k0 : ((K : Int) < 0) = False := by simp
      have hk9 : (K : Int) < 9 := by omega
      go_wp2_with fail
      refine CK.out.mono ?_
      rintro e w2 ⟨rfl, i2, k2⟩
      have far25 : Obj.far (.cells #[.int .i64 (K : Int), .string (ba tx)] 25) := fun cs t f e => by injection e with _ e; rw [← e]; exact ⟨by decide, fun e => absurd e (by decide)⟩
      have x2 := k2.keep _ _ X9.out far25
      have R2 := Lib.hid (R9.out.far k2)
      have B2 := Lib.hid (BB9.out.trans k2.low)
      have I2 := Lib.hid i2
      have kc2 := (HK.out.below B2.out hgl) K (by omega)
      have hsw2 : w.heap.size ≤ w2.heap.size := B2.out.size
      have CS := Lib.hid (Tryd.strings_HasSuffix (ba (kindL K)) ⟨#[32]⟩ w2 (by have := kind_len K (by omega); simp [ba, ByteArray.size]; omega))
      rw [show (⟨#[32]⟩ : ByteArray).data.toList = [32] from rfl, kind_suf K (by omega)] at CS
      have y1 := cell_of_row w2 wr.heap.size 1 _ _ _ x2
      simp only [List.getElem?_toArray, List.getElem?_cons_succ, List.getElem?_cons_zero] at y1
      clear i2 k2 kc CK
      cases hT : hasT K with
      | true =>
        rw [hT] at CS
        have HSn2 := Lib.hid (show tellL (os.take (k + 1)) = (l ++ kindL K ++ maskL tx) ++ [10] by rw [HSn.out]; simp [lineO, hT])
        have hlm : (l ++ kindL K ++ maskL tx).length + 1 ≤ 1000000 := by
          have := hpr
          simp [lineO, hT] at this ⊢
          omega
        have hmk : (l ++ kindL K).length + (maskL tx).length ≤ 1000000 := by simp at hlm ⊢; omega
        clear hT hpr
        have CR := Lib.hid (rep_any w2 p y w.heap.size w.heap.size _ (ba tx) (by simp [ba, ByteArray.size]; omega) R2.out I2.out hpl)
        go_wp2_with fail
        refine CS.out.mono ?_
        rintro e w' ⟨rfl, rfl⟩
        go_wp2_with fail
        refine CR.out.mono ?_
        rintro e w3 ⟨rfl, r3, i3, b3⟩
        have hsw3 := b3.size
        have CK3 := Lib.hid (kb_any w.heap.size w.heap.size (l ++ kindL K) (maskL tx) (ba (maskL (ba tx).data.toList)) _ i3 (by simp [ba]) (by omega) (by omega))
        have B3 := Lib.hid (B2.out.trans b3)
        have R3 := Lib.hid r3
        clear r3 i3 b3 CR
        go_wp2_with fail
        refine CK3.out.mono ?_
        rintro e w4 ⟨rfl, i4, k4⟩
        have hsw4 := k4.low.size
        have CK4 := Lib.hid (kb_any w.heap.size w.heap.size (l ++ kindL K ++ maskL tx) [10] ⟨#[10]⟩ _ i4 rfl (by simp only [List.length_cons, List.length_nil]; omega) (by omega))
        have B4 := Lib.hid (B3.out.trans k4.low)
        have R4 := Lib.hid (R3.out.far k4)
        clear k4 i4 CK3
        go_wp2_with fail
        refine CK4.out.mono ?_
        rintro e w5 ⟨rfl, i5, k5⟩
        have H5 := Lib.hid (show TLi w.heap.size p y w w5 (tellL (os.take (k + 1))) from ⟨by rw [HSn2.out]; exact i5, R4.out.far k5, B4.out.trans k5.low⟩)
        clear i5 k5 CK4
        go_wp2_with fail
        go_roundw
        case rel => exact ⟨k + 1, by go_num, by omega, H5⟩
        case measure => simp [intOf]; omega
      | false =>
        rw [hT] at CS
        have HSn2 := Lib.hid (show tellL (os.take (k + 1)) = (l ++ kindL K) ++ [10] by rw [HSn.out]; simp [lineO, hT])
        have hlm : (l ++ kindL K).length + 1 ≤ 1000000 := by
          have := hpr
          simp [lineO, hT] at this ⊢
          omega
        clear hT hpr
        have CK4 := Lib.hid (kb_any w.heap.size w.heap.size (l ++ kindL K) [10] ⟨#[10]⟩ _ I2.out rfl (by simp only [List.length_cons, List.length_nil]; omega) (by omega))
        go_wp2_with fail
        refine CS.out.mono ?_
        rintro e w' ⟨rfl, rfl⟩
        go_wp2_with fail
        refine CK4.out.mono ?_
        rintro e w5 ⟨rfl, i5, k5⟩
        have H5 := Lib.hid (show TLi w.heap.size p y w w5 (tellL (os.take (k + 1))) from ⟨by rw [HSn2.out]; exact i5, R2.out.far k5, B2.out.trans k5.low⟩)
        clear i5 k5 CK4
        go_wp2_with fail
        go_roundw
        case rel => exact ⟨k + 1, by go_num, by omega, H5⟩
        case measure => simp [intOf]; omega
    · have hk' : k = os.length := by omega
      have CS := Lib.hid (Tryd.Builder_String_any w.heap.size w.heap.size _ wr HT.out.ib hBr)
      have HB := Lib.hid HT.out.bl
      have e1 : tellL (os.take k) = tellL os := by rw [hk', List.take_length]
      rw [e1] at CS
      clear hk' e1
      go_wp2_with fail
      refine CS.out.mono ?_
      rintro e w2 ⟨rfl, hb2⟩
      go_wp2_with fail
      go_ret
      exact ⟨rfl, HB.out.trans hb2⟩
end Go.Proofs.YtlojlgcnhacleaaDoor
