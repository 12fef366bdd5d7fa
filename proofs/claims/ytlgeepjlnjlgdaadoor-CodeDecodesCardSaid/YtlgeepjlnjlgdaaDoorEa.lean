/- The walks through num.Print, code.line, code.Text. -/
import Derived.Test.YtlgeepjlnjlgdaaDoorEZ
import Derived.Test.YtlgeepjlnjlgdaaDoorEI
import Derived.Test.YtlgeepjlnjlgdaaDoorES
import Derived.Test.YtlgeepjlnjlgdaaDoorShelf
import Derived.WalkSmall
import Derived.Lib.AppendIntMem
namespace Go.Proofs.YtlgeepjlnjlgdaaDoor
open Go.RowKit

/-- The table of the powers of ten stands. -/
def TabX (w : World) : Prop := Lib.TabIs Tryd.prog w "internal/strconv.uint64pow10" .u64 Lib.pow10Tab
theorem TabX.below {w w' : World} (h : TabX w) (hb : Below w.heap.size w w') : TabX w' := by
  unfold TabX Lib.TabIs World.var? at h ⊢
  cases hg : Tryd.prog.globalNamed "internal/strconv.uint64pow10" with
  | none => rw [hg] at h; cases h
  | some g =>
    rw [hg] at h
    simp only [Option.bind_some] at h ⊢
    cases hh : w.heap[g]? with
    | none => rw [hh] at h; cases h
    | some o =>
      rw [hb.block g (heap_lt hh), hh]
      rw [hh] at h
      exact h
theorem pprint_any (a : Int) (w : World) (ha : I64 a) (ht : TabX w) : Calls Tryd.prog 47 #[.int .i64 a] w fun e w' => e = .returned (.string ⟨(Lib.itoa a).toArray⟩) ∧ Below w.heap.size w w' := by
  have CI := Lib.hid (Tryd.strconv_Itoa a ha.1 ha.2 w ht)
  clear ht
  go_enter Tryd.func47, Tryd.ntmps47
  go_wp2_with fail
  refine CI.out.mono ?_
  rintro e w1 ⟨rfl, k, os, rfl⟩
  go_wp2_with fail
  go_ret
  exact ⟨rfl, Lib.below_grow _ _ (Nat.le_refl _) _ _⟩
theorem bld_below {T e : TypeId} {B b : Nat} {bs : List Value} {w w' : World} (h : Lib.IsBuilder T e B b bs w) (hb : Below w.heap.size w w') : Lib.IsBuilder T e B b bs w' := by
  have one : ∀ p, Lib.BuilderAt T e B b p bs w → Lib.BuilderAt T e B b p bs w' := fun p hp => by
    obtain ⟨h1, v, h2, h3⟩ := hp
    exact ⟨h1, v, (hb.block b (heap_lt h2)).trans h2, own_below h3.1 hb, h3.2⟩
  exact h.imp (one _) (one _)
theorem str_list (l : List UInt8) : (⟨l.toArray⟩ : ByteArray).data.toList = l := rfl
theorem str_eq {t : ByteArray} {l : List UInt8} (h : t.data.toList = l) : t = ⟨l.toArray⟩ := by
  subst h
  rfl
set_option maxRecDepth 100000 in
set_option maxHeartbeats 4000000 in
theorem line_any (xo xa : Int) (xs : ByteArray) (w : World) (ha : I64 xa) (hs : xs.size ≤ 4096) (ht : TabX w) : Calls Tryd.prog 24 #[.agg #[.int .i64 xo, .int .i64 xa, .string xs]] w fun e w' => e = .returned (.string ⟨(lineL ⟨xo, xa, xs⟩).toArray⟩) ∧ Below w.heap.size w w' := by
  have BX := Lib.hid (belA (Below.refl w.heap.size w) (Obj.cells #[.int .i64 xo, .int .i64 xa, .string xs] 50))
  obtain ⟨W, hW⟩ : ∃ W, W = w.alloc (Obj.cells #[.int .i64 xo, .int .i64 xa, .string xs] 50) := ⟨_, rfl⟩
  have HW := Lib.hid hW
  rw [← hW] at BX
  have TX := Lib.hid (ht.below BX.out)
  have HB := Lib.hid (show W.heap[w.heap.size]? = some (.cells #[.int .i64 xo, .int .i64 xa, .string xs] 50 (0, 0)) by rw [hW]; exact heap_alloc_new _ _)
  have c0 := cell_of_row _ w.heap.size 0 _ _ _ HB.out
  have c1 := cell_of_row _ w.heap.size 1 _ _ _ HB.out
  have c2 := cell_of_row _ w.heap.size 2 _ _ _ HB.out
  simp at c0 c1 c2
  have hl := heap_lt HB.out
  have CP := Lib.hid (pprint_any xa W ha TX.out)
  have CQ := Lib.hid (pquote_any xs hs W)
  have SS := Lib.hid (show ∀ V, Below W.heap.size W V → V.cell? ⟨w.heap.size, 1, none⟩ = some (.int .i64 xa) ∧ V.cell? ⟨w.heap.size, 2, none⟩ = some (.string xs) from fun V hV => ⟨(hV.cell (p := ⟨w.heap.size, 1, none⟩) hl).trans c1, (hV.cell (p := ⟨w.heap.size, 2, none⟩) hl).trans c2⟩)
  have CP2 := Lib.hid (show ∀ V, Below W.heap.size W V → Calls Tryd.prog 47 #[.int .i64 xa] V fun e w' => e = .returned (.string ⟨(Lib.itoa xa).toArray⟩) ∧ Below V.heap.size V w' from fun V hV => pprint_any xa V ha (TX.out.below hV))
  have CQ2 := Lib.hid (fun V => pquote_any xs hs V)
  have HIL := Lib.hid (show (⟨(Lib.itoa xa).toArray⟩ : ByteArray).size ≤ 21 from by
    have := Lib.itoa_length_le xa ha.1 ha.2
    show (Lib.itoa xa).toArray.size ≤ 21
    simpa using this)
  have hil := HIL.out
  have hil2 : (Lib.itoa xa).length ≤ 21 := Lib.itoa_length_le xa ha.1 ha.2
  have hql : (quoteN xs).size ≤ 8194 := Nat.le_trans quote_size (by omega)
  clear ht hW
  go_enter Tryd.func24, Tryd.ntmps24
  go_upto_region 1 with fail
  rw [← HW.out]
  by_cases d1 : xo = 1
  · subst d1
    go_wp2_with fail
    refine CP.out.mono ?_
    rintro e w1 ⟨rfl, hb1⟩
    have B1 := Lib.hid (BX.out.trans (hb1.mono BX.out.size))
    clear hb1 CP c0 c1 c2
    go_wp2_with fail
    go_ret
    exact ⟨by rw [str_eq (show (⟨#[104, 101, 97, 100, 32]⟩ ++ (⟨(Lib.itoa xa).toArray⟩ : ByteArray)).data.toList = lineL ⟨1, xa, xs⟩ by simp; rfl)]; rfl, B1.out⟩
  by_cases d2 : xo = 2
  · subst d2
    go_wp2_with fail
    refine CP.out.mono ?_
    rintro e w1 ⟨rfl, hb1⟩
    have B1 := Lib.hid (BX.out.trans (hb1.mono BX.out.size))
    clear hb1 CP c0 c1 c2
    go_wp2_with fail
    go_ret
    exact ⟨by rw [str_eq (show (⟨#[102, 105, 114, 115, 116, 32]⟩ ++ (⟨(Lib.itoa xa).toArray⟩ : ByteArray)).data.toList = lineL ⟨2, xa, xs⟩ by simp; rfl)]; rfl, B1.out⟩
  by_cases d3 : xo = 3
  · subst d3
    go_wp2_with fail
    refine CP.out.mono ?_
    rintro e w1 ⟨rfl, hb1⟩
    have B1 := Lib.hid (BX.out.trans (hb1.mono BX.out.size))
    clear hb1 CP c0 c1 c2
    go_wp2_with fail
    go_ret
    exact ⟨by rw [str_eq (show (⟨#[97, 103, 97, 105, 110, 32]⟩ ++ (⟨(Lib.itoa xa).toArray⟩ : ByteArray)).data.toList = lineL ⟨3, xa, xs⟩ by simp; rfl)]; rfl, B1.out⟩
  by_cases d4 : xo = 4
  · subst d4
    go_wp2_with fail
    refine CP.out.mono ?_
    rintro e w1 ⟨rfl, hb1⟩
    have B1 := Lib.hid (BX.out.trans (hb1.mono BX.out.size))
    clear hb1 CP c0 c1 c2
    go_wp2_with fail
    go_ret
    exact ⟨by rw [str_eq (show (⟨#[105, 110, 116, 32]⟩ ++ (⟨(Lib.itoa xa).toArray⟩ : ByteArray)).data.toList = lineL ⟨4, xa, xs⟩ by simp; rfl)]; rfl, B1.out⟩
  by_cases d5 : xo = 5
  · subst d5
    go_wp2_with fail
    refine CQ.out.mono ?_
    rintro e w1 ⟨rfl, hb1⟩
    have B1 := Lib.hid (BX.out.trans (hb1.mono BX.out.size))
    clear hb1 CQ c0 c1 c2
    go_wp2_with fail
    go_ret
    exact ⟨by rw [str_eq (show (⟨#[97, 116, 111, 109, 32]⟩ ++ quoteN xs).data.toList = lineL ⟨5, xa, xs⟩ by simp; rfl)]; rfl, B1.out⟩
  by_cases d6 : xo = 6
  · subst d6
    go_wp2_with fail
    refine wp_region_held_drew (S := fun w1 => w1.cell? ⟨w.heap.size, 1, none⟩ = some (.int .i64 xa) ∧ w1.cell? ⟨w.heap.size, 2, none⟩ = some (.string xs)) (by kernel_rfl) ?Srl (fun hH0 => ?Brl)
    case Srl => (exact SS.out _ (Below.refl _ _).drew)
    refine wpAnyH_take (i := 0) (oi := { dst := some 37, op := Go.Op.fieldAddr 50 (Go.Operand.tmp 1) 2, type := 0, pos := "code.go:119", after := #[], guard := none }) (v := ?vrl0) rfl (by kernel_rfl) (by kernel_rfl) (by kernel_rfl) (fun _ _ _ h => h) (Or.inl ⟨by rfl, ?hyrl0⟩) (by assumption) ?restrl0
    case hyrl0 => (intro w hSw; (try dsimp only at hSw); go_simp; try with_reducible rfl)
    try simp only [Act.put, List.setIfInBounds_toArray, List.set_cons_zero, List.set_cons_succ]
    refine wpAnyH_take (i := 1) (oi := { dst := some 38, op := Go.Op.load 9 (Go.Operand.tmp 37), type := 9, pos := "code.go:119", after := #[{ on := 0, ground := Go.Ground.data }], guard := none }) (v := ?vrl1) rfl (by kernel_rfl) (by kernel_rfl) (by kernel_rfl) (fun _ _ _ h => h) (Or.inl ⟨by rfl, ?hyrl1⟩) (by assumption) ?restrl1
    case hyrl1 => (intro w hSw; (try dsimp only at hSw); go_simp; try with_reducible rfl)
    try simp only [Act.put, List.setIfInBounds_toArray, List.set_cons_zero, List.set_cons_succ]
    refine wpAnyH_take (i := 5) (oi := { dst := some 42, op := Go.Op.fieldAddr 50 (Go.Operand.tmp 1) 1, type := 0, pos := "code.go:119", after := #[], guard := none }) (v := ?vrl5) rfl (by kernel_rfl) (by kernel_rfl) (by kernel_rfl) (fun _ _ _ h => h) (Or.inl ⟨by rfl, ?hyrl5⟩) (by assumption) ?restrl5
    case hyrl5 => (intro w hSw; (try dsimp only at hSw); go_simp; try with_reducible rfl)
    try simp only [Act.put, List.setIfInBounds_toArray, List.set_cons_zero, List.set_cons_succ]
    refine wpAnyH_take (i := 6) (oi := { dst := some 43, op := Go.Op.load 3 (Go.Operand.tmp 42), type := 3, pos := "code.go:119", after := #[{ on := 5, ground := Go.Ground.data }], guard := none }) (v := ?vrl6) rfl (by kernel_rfl) (by kernel_rfl) (by kernel_rfl) (fun _ _ _ h => h) (Or.inl ⟨by rfl, ?hyrl6⟩) (by assumption) ?restrl6
    case hyrl6 => (intro w hSw; (try dsimp only at hSw); go_simp; try with_reducible rfl)
    try simp only [Act.put, List.setIfInBounds_toArray, List.set_cons_zero, List.set_cons_succ]
    refine wpAnyH_ready (rs := [2]) (by kernel_rfl) (by simp) ?_
    refine AllReadyH.cons (o := { dst := some 39, op := Go.Op.call { callee := Go.Callee.value (Go.Operand.func 48), args := #[Go.Operand.tmp 38], argTypes := #[9] }, type := 9, pos := "code.go:119", after := #[{ on := 1, ground := Go.Ground.data }], guard := none }) rfl (fun K hK => ?_) ?nilrl2
    case nilrl2 => exact AllReadyH.nil
    go_simp
    (refine (CQ2.out _).mono ?_)
    rintro e w1 ⟨rfl, hb1⟩
    have B1 := Lib.hid (show Below W.heap.size W w1 from (Below.refl W.heap.size W).drew.trans (hb1.mono (Nat.le_refl _)))
    clear hb1
    go_wp2_with fail
    refine hK.out _ _ ?Srl2 (fun hH1 => ?restrl2)
    case Srl2 => (exact SS.out _ B1.out)
    clear hK K
    try simp only [Act.put, List.setIfInBounds_toArray, List.set_cons_zero, List.set_cons_succ]
    refine wpAnyH_take (i := 3) (oi := { dst := some 40, op := Go.Op.binOp Go.BinOp.add 9 (Go.Operand.const (Go.Value.string { data := #[99, 109, 112, 32] })) (Go.Operand.tmp 39) 9, type := 9, pos := "code.go:119", after := #[{ on := 2, ground := Go.Ground.data }], guard := none }) (v := (.string (⟨#[99, 109, 112, 32]⟩ ++ quoteN xs))) rfl (by kernel_rfl) (by kernel_rfl) (by kernel_rfl) (fun _ _ _ h => h) (Or.inl ⟨by rfl, ?hyrl3⟩) (by assumption) ?restrl3
    case hyrl3 => (intro w hSw; go_simp; (try omega))
    try simp only [Act.put, List.setIfInBounds_toArray, List.set_cons_zero, List.set_cons_succ]
    refine wpAnyH_take (i := 4) (oi := { dst := some 41, op := Go.Op.binOp Go.BinOp.add 9 (Go.Operand.tmp 40) (Go.Operand.const (Go.Value.string { data := #[32] })) 9, type := 9, pos := "code.go:119", after := #[{ on := 3, ground := Go.Ground.data }], guard := none }) (v := (.string (⟨#[99, 109, 112, 32]⟩ ++ quoteN xs ++ ⟨#[32]⟩))) rfl (by kernel_rfl) (by kernel_rfl) (by kernel_rfl) (fun _ _ _ h => h) (Or.inl ⟨by rfl, ?hyrl4⟩) (by assumption) ?restrl4
    case hyrl4 => (intro w hSw; go_simp; (try omega))
    try simp only [Act.put, List.setIfInBounds_toArray, List.set_cons_zero, List.set_cons_succ]
    refine wpAnyH_ready (rs := [7]) (by kernel_rfl) (by simp) ?_
    refine AllReadyH.cons (o := { dst := some 44, op := Go.Op.call { callee := Go.Callee.value (Go.Operand.func 47), args := #[Go.Operand.tmp 43], argTypes := #[3] }, type := 9, pos := "code.go:119", after := #[{ on := 6, ground := Go.Ground.data }, { on := 2, ground := Go.Ground.chain }], guard := none }) rfl (fun K hK => ?_) ?nilrl7
    case nilrl7 => exact AllReadyH.nil
    go_simp
    (refine (CP2.out _ B1.out).mono ?_)
    rintro e w2 ⟨rfl, hb2⟩
    have B2 := Lib.hid (B1.out.trans (hb2.mono B1.out.size))
    clear hb2
    go_wp2_with fail
    refine hK.out _ _ ?Srl7 (fun hH2 => ?restrl7)
    case Srl7 => (exact SS.out _ B2.out)
    clear hK K
    try simp only [Act.put, List.setIfInBounds_toArray, List.set_cons_zero, List.set_cons_succ]
    refine wpAnyH_take (i := 8) (oi := { dst := some 45, op := Go.Op.binOp Go.BinOp.add 9 (Go.Operand.tmp 41) (Go.Operand.tmp 44) 9, type := 9, pos := "code.go:119", after := #[{ on := 4, ground := Go.Ground.data }, { on := 7, ground := Go.Ground.data }], guard := none }) (v := (.string (⟨#[99, 109, 112, 32]⟩ ++ quoteN xs ++ ⟨#[32]⟩ ++ ⟨(Lib.itoa xa).toArray⟩))) rfl (by kernel_rfl) (by kernel_rfl) (by kernel_rfl) (fun _ _ _ h => h) (Or.inl ⟨by rfl, ?hyrl8⟩) (by assumption) ?restrl8
    case hyrl8 => (intro w hSw; go_simp; (try omega))
    try simp only [Act.put, List.setIfInBounds_toArray, List.set_cons_zero, List.set_cons_succ]
    refine wpAnyH_take (i := 9) (oi := { dst := some 2, op := Go.Op.assign (Go.Operand.tmp 45), type := 9, pos := "code.go:119", after := #[{ on := 8, ground := Go.Ground.data }, { on := 7, ground := Go.Ground.chain }, { on := 0, ground := Go.Ground.phase }, { on := 1, ground := Go.Ground.phase }, { on := 2, ground := Go.Ground.phase }, { on := 3, ground := Go.Ground.phase }, { on := 4, ground := Go.Ground.phase }, { on := 5, ground := Go.Ground.phase }, { on := 6, ground := Go.Ground.phase }, { on := 7, ground := Go.Ground.phase }, { on := 8, ground := Go.Ground.phase }], guard := none }) (v := ?vrl9) rfl (by kernel_rfl) (by kernel_rfl) (by kernel_rfl) (fun _ _ _ h => h) (Or.inl ⟨by rfl, ?hyrl9⟩) (by assumption) ?restrl9
    case hyrl9 => (intro w hSw; (try dsimp only at hSw); go_simp; try with_reducible rfl)
    try simp only [Act.put, List.setIfInBounds_toArray, List.set_cons_zero, List.set_cons_succ]
    refine wpAnyH_done (by kernel_rfl) ?_ _
    go_wp2_with fail
    go_ret
    exact ⟨by rw [str_eq (show (⟨#[99, 109, 112, 32]⟩ ++ quoteN xs ++ ⟨#[32]⟩ ++ (⟨(Lib.itoa xa).toArray⟩ : ByteArray)).data.toList = lineL ⟨6, xa, xs⟩ by rw [show lineL ⟨6, xa, xs⟩ = [99, 109, 112, 32] ++ (quoteN xs).data.toList ++ [32] ++ Lib.itoa xa from rfl]; simp)]; rfl, BX.out.trans (B2.out.mono BX.out.size)⟩
  by_cases d7 : xo = 7
  · subst d7
    go_wp2_with fail
    go_ret
    exact ⟨rfl, BX.out⟩
  by_cases d8 : xo = 8
  · subst d8
    go_wp2_with fail
    go_ret
    exact ⟨rfl, BX.out⟩
  have e1 : (xo == 1) = false := by simp; exact d1
  have e2 : (xo == 2) = false := by simp; exact d2
  have e3 : (xo == 3) = false := by simp; exact d3
  have e4 : (xo == 4) = false := by simp; exact d4
  have e5 : (xo == 5) = false := by simp; exact d5
  have e6 : (xo == 6) = false := by simp; exact d6
  have e7 : (xo == 7) = false := by simp; exact d7
  have e8 : (xo == 8) = false := by simp; exact d8
  have HL := Lib.hid (show lineL ⟨xo, xa, xs⟩ = [63] by unfold lineL; rw [if_neg d1, if_neg d2, if_neg d3, if_neg d4, if_neg d5, if_neg d6, if_neg d7, if_neg d8])
  clear d1 d2 d3 d4 d5 d6 d7 d8
  go_wp2_with fail
  go_ret
  exact ⟨by rw [HL.out]; rfl, BX.out⟩
set_option maxRecDepth 100000 in
set_option maxHeartbeats 4000000 in
theorem ptext_any {l : List Ins} (w : World) {va : Value} {B : Nat} (ha : GRw w B va l) (hfew : l.length ≤ 6000) (hin : ∀ x ∈ l, I64 x.a ∧ x.s.size ≤ 4096) (ht : TabX w) :
    Calls Tryd.prog 9 #[va] w fun e w' => e = .returned (.string ⟨(textL l).toArray⟩) ∧ Below w.heap.size w w' := by
  have OA := Lib.hid ha
  have HIN := Lib.hid hin
  have TX := Lib.hid ht
  obtain ⟨A, c, rfl, _, _, _, _⟩ := GRw.open4 ha
  have HN := Lib.hid (bld_new w)
  have BN := Lib.hid (Below.alloc (Below.refl w.heap.size w) (Nat.le_refl _) (.cells #[.pointer none, .slice none 0 0] TB))
  clear ha hin ht
  go_enter Tryd.func9, Tryd.ntmps9
  go_wp2_with fail
  go_loopw [8] (fun iv wr => ∃ i : Nat, iv = .int .i64 (i : Int) ∧ i ≤ l.length ∧ Lib.IsBuilder TB 5 w.heap.size w.heap.size (Lib.byteCells (textL (l.take i))) wr ∧ Below w.heap.size w wr) (fun iv _ => l.length - (intOf iv).toNat)
  case atStart => exact ⟨0, rfl, Nat.zero_le _, HN.out, BN.out⟩
  case round =>
    clear HN BN
    obtain ⟨i, rfl, hi, hbl, hbw⟩ := hrel
    have BW := Lib.hid hbw
    have HL := Lib.hid hbl
    have OA' := Lib.hid (OA.out.below hbw)
    have hws := hbw.size
    have hts : (textL (l.take i)).length ≤ 49386000 := by
      have h1 := textL_len (l := l.take i) fun x hx => HIN.out x (List.mem_of_mem_take hx)
      have h2 : (l.take i).length ≤ i := by rw [List.length_take]; omega
      omega
    clear hbw hbl
    by_cases hil : i < l.length
    · have hil' : (i : Int) < (l.length : Int) := by omega
      obtain ⟨g, og, rfl, hg, hcell⟩ := grow OA'.out rfl hil
      obtain ⟨x, hx⟩ : ∃ x, l[i]'hil = x := ⟨_, rfl⟩
      rw [hx] at hcell
      have h0 : wr.cell? ⟨g, og + i * 3, none⟩ = some (.int .i64 x.o) := hcell 0 (by omega)
      have h1 : wr.cell? ⟨g, og + i * 3 + 1, none⟩ = some (.int .i64 x.a) := hcell 1 (by omega)
      have h2 : wr.cell? ⟨g, og + i * 3 + 2, none⟩ = some (.string x.s) := hcell 2 (by omega)
      have HX := Lib.hid (HIN.out x (hx ▸ List.getElem_mem hil))
      have TS := Lib.hid (show textL (l.take (i + 1)) = textL (l.take i) ++ (lineL x ++ [10]) by rw [List.take_succ_eq_append_getElem hil, textL_snoc, hx, List.append_assoc])
      have HLL := Lib.hid (lineL_len HX.out.1 HX.out.2)
      obtain ⟨xo, xa, xs⟩ := x
      obtain ⟨tl, htl⟩ : ∃ tl : ByteArray, tl = ⟨(lineL ⟨xo, xa, xs⟩).toArray⟩ := ⟨_, rfl⟩
      have HTL := Lib.hid htl
      have htl2 : tl.size ≤ 8230 := by
        rw [htl]
        show (lineL ⟨xo, xa, xs⟩).toArray.size ≤ 8230
        simpa using HLL.out
      have BA := Lib.hid (Below.alloc (Below.refl wr.heap.size wr) (Nat.le_refl _) (Obj.cells #[.int .i64 xo, .int .i64 xa, .string xs] 50))
      have CL := Lib.hid (line_any xo xa xs _ HX.out.1 HX.out.2 ((TX.out.below BW.out).below BA.out))
      have HL1 := Lib.hid (bld_below HL.out BA.out)
      rw [← htl] at CL
      clear hcell hx htl
      go_wp2_with fail
      refine CL.out.mono ?_
      rintro e w1 ⟨rfl, hb1⟩
      have B1 := Lib.hid (BW.out.trans ((BA.out.trans (hb1.mono (by simp))).mono hws))
      have HL2 := Lib.hid (bld_below HL1.out hb1)
      have hsn : (tl ++ (⟨#[10]⟩ : ByteArray)).size ≤ 8231 := by rw [ByteArray.size_append]; have : (⟨#[10]⟩ : ByteArray).size = 1 := rfl; omega
      have CW := Lib.hid (wstring_any w.heap.size w.heap.size _ (tl ++ (⟨#[10]⟩ : ByteArray)) w1 HL2.out (by rw [Lib.byteCells_length]; omega) B1.out.size)
      clear hb1 CL h0 h1 h2
      go_wp2_with fail
      refine CW.out.mono ?_
      rintro e w2 ⟨rfl, hbl, hb2⟩
      have HL3 := Lib.hid (show Lib.IsBuilder TB 5 w.heap.size w.heap.size (Lib.byteCells (textL (l.take (i + 1)))) w2 by
        have e : Lib.strCells (tl ++ (⟨#[10]⟩ : ByteArray)) = Lib.byteCells (lineL ⟨xo, xa, xs⟩ ++ [10]) := by
          rw [Lib.strCells_eq]
          congr 1
          rw [HTL.out]
          simp
        rw [TS.out, Lib.byteCells_append, ← e]
        exact hbl)
      have B2 := Lib.hid (B1.out.trans hb2)
      clear hbl hb2 CW
      go_wp2_with fail
      go_roundw
      case rel => exact ⟨i + 1, by go_num, by omega, HL3.out, B2.out⟩
      case measure => simp [intOf]; omega
    · have H1 := Lib.hid (show l.take i = l from List.take_of_length_le (by omega))
      have CG := Lib.hid (Tryd.Builder_String_any w.heap.size w.heap.size (textL l) wr (by have := HL.out; rw [H1.out] at this; exact this) hws)
      go_wp2_with fail
      refine CG.out.mono ?_
      rintro e w3 ⟨rfl, hb3⟩
      have B3 := Lib.hid (BW.out.trans hb3)
      clear hb3 CG
      go_wp2_with fail
      go_ret
      exact ⟨rfl, B3.out⟩
end Go.Proofs.YtlgeepjlnjlgdaaDoor
