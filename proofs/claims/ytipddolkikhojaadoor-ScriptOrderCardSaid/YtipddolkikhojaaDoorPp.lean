/- script.Print = printN. -/
import Derived.Test.YtipddolkikhojaaDoorPl
import Derived.Test.YtipddolkikhojaaDoorBk
namespace Go.Proofs.YtipddolkikhojaaDoor
open Go.RowKit Go.Shelf
attribute [local go_sem] Oper.semAt_some

def lim4F (a b c d : Int) : Nat → Int
  | 0 => a
  | 1 => b
  | 2 => c
  | _ => d
theorem limOk4 (a b c d : Int) : limOk (lim4F a b c d) = lim4 a b c d := rfl
/-- The lines of limits ahead of the k-th one. -/
def preL (f : Nat → Int) : Nat → List UInt8
  | 0 => []
  | k + 1 => preL f k ++ (limLine f k ++ [10])
theorem print_text (p q : List UInt8) (f : Nat → Int) : joinL (scriptLines p q f) = preL f 4 ++ (joinL ((linesL p).map fun l => barW ++ l) ++ (askW ++ (q ++ [10]))) := by
  unfold scriptLines
  rw [joinL_app, joinL_app]
  simp [joinL, preL]
theorem wb_any (B b : Nat) (l r : List UInt8) (s : ByteArray) (w : World) (h : Lib.IsBuilder TB 5 B b (Lib.byteCells l) w) (hs : s.data.toList = r) (hlen : l.length + r.length ≤ 140737488355328) (hB : B ≤ w.heap.size) :
    Calls Tryd.prog 23 #[.pointer (some ⟨b, 0, none⟩), .string s] w fun e w' => e = .returned (.tuple #[.int .i64 s.size, .nilIface]) ∧ (Lib.IsBuilder TB 5 B b (Lib.byteCells (l ++ r)) w' ∧ Below B w w') := by
  have e : Lib.byteCells (l ++ r) = Lib.byteCells l ++ Lib.strCells s := by rw [Lib.strCells_eq, hs]; simp [Lib.byteCells]
  rw [e]
  refine wstring_any B b _ s w h ?_ hB
  rw [Lib.byteCells_length]
  have : s.size = r.length := by rw [← hs]; exact Array.length_toList.symm
  omega
theorem box6 {w : World} {g : Nat} {t : TypeId} {f : Nat × Nat} {a b c d e h' : Value} (h : w.heap[g]? = some (.cells #[a, b, c, d, e, h'] t f)) :
    w.cell? ⟨g, 0, none⟩ = some a ∧ w.cell? ⟨g, 1, none⟩ = some b ∧ w.cell? ⟨g, 2, none⟩ = some c ∧ w.cell? ⟨g, 3, none⟩ = some d ∧ w.cell? ⟨g, 4, none⟩ = some e ∧ w.cell? ⟨g, 5, none⟩ = some h' :=
  ⟨cell_of_row w g 0 _ _ _ h, cell_of_row w g 1 _ _ _ h, cell_of_row w g 2 _ _ _ h, cell_of_row w g 3 _ _ _ h, cell_of_row w g 4 _ _ _ h, cell_of_row w g 5 _ _ _ h⟩
theorem cat2 (s t : ByteArray) : (s ++ t).data.toList = s.data.toList ++ t.data.toList := by simp
theorem retM {F : Fence} {n : Nat} {P : Program} {fn : Func} {R : Ending → World → Prop} {a : Act} {w : World} {v : Value} (hr : (results fn a.tmps).run P w = .ok v w) (hd : a.defers = []) (hR : R (.returned v) w) : bodyPostM F n P fn R .ret a w := by
  show LeavesInM F n P fn a.tmps R a.defers .returning w
  rw [hd]
  exact ⟨v, hr, hR⟩
theorem retMD {F : Fence} {n : Nat} {P : Program} {fn : Func} {R : Ending → World → Prop} {a : Act} {w : World} {v : Value} {D : Nat} (hK : w.heap[D]? = some (.deferred (some []))) (hr : (results fn a.tmps).run P (w.putObj D (.deferred none)) = .ok v (w.putObj D (.deferred none))) (hd : a.defers = [{ target := .collected D, args := #[] }]) (hR : R (.returned v) (w.putObj D (.deferred none))) : bodyPostM F n P fn R .ret a w := by
  show LeavesInM F n P fn a.tmps R a.defers .returning w
  rw [hd]
  exact ⟨by simp, .inl ⟨_, _, rfl, run_takeDeferred hK, ⟨v, hr, hR⟩⟩⟩
theorem idx4_0 (a b c d : Option Addr) (W : World) : (Instr.index 83 (.agg #[.pointer a, .pointer b, .pointer c, .pointer d]) (.int .i64 0)).run Tryd.prog W = .ok (.pointer a) W := by kernel_rfl
theorem idx4_1 (a b c d : Option Addr) (W : World) : (Instr.index 83 (.agg #[.pointer a, .pointer b, .pointer c, .pointer d]) (.int .i64 1)).run Tryd.prog W = .ok (.pointer b) W := by kernel_rfl
theorem idx4_2 (a b c d : Option Addr) (W : World) : (Instr.index 83 (.agg #[.pointer a, .pointer b, .pointer c, .pointer d]) (.int .i64 2)).run Tryd.prog W = .ok (.pointer c) W := by kernel_rfl
theorem idx4_3 (a b c d : Option Addr) (W : World) : (Instr.index 83 (.agg #[.pointer a, .pointer b, .pointer c, .pointer d]) (.int .i64 3)).run Tryd.prog W = .ok (.pointer d) W := by kernel_rfl
def PrintE (p q : ByteArray) (f : Nat → Int) (w : World) (e : Ending) (w' : World) : Prop := (∃ (t : ByteArray) (k : Int), e = .returned (.tuple #[.string t, .int .i64 k]) ∧
  ((printN p.data.toList q.data.toList f = .ok t.data.toList ∧ k = 0) ∨ (printN p.data.toList q.data.toList f = .error k ∧ t = ⟨#[]⟩))) ∧ Below w.heap.size w w'
theorem num_map : ∀ (xs : List Ln) (k : Nat) (ls : List (List UInt8)), xs.map Subtype.val = numL k ls → (xs.map fun x => barW ++ x.1.2.data.toList) = ls.map fun l => barW ++ l
  | [], _, [], _ => rfl
  | [], _, _ :: _, h => by cases h
  | _ :: _, _, [], h => by cases h
  | x :: xs, k, l :: ls, h => by
    simp only [List.map_cons, numL, List.cons.injEq] at h ⊢
    refine ⟨?_, num_map xs (k + 1) ls h.2⟩
    rw [h.1]
    simp [ba]
theorem joinL_len : ∀ pre : List Ln, (joinL (pre.map fun x => barW ++ x.1.2.data.toList)).length ≤ 100000010 * pre.length
  | [] => Nat.le_refl _
  | x :: pre => by
    have h1 := joinL_len pre
    have h2 : x.1.2.data.toList.length ≤ 100000000 := by rw [Array.length_toList]; exact x.2.1
    rw [List.map_cons, joinL_cons]
    have hb : barW.length = 2 := rfl
    simp only [List.length_append, List.length_cons]
    omega
theorem linesF_len : ∀ (f : Nat) (s : List UInt8), (linesF f s).length ≤ f
  | 0, _ => Nat.le_refl _
  | f + 1, [] => Nat.zero_le _
  | f + 1, c :: s => by
    have := linesF_len f (cutL (c :: s)).2
    simp only [linesF, List.length_cons]
    omega
theorem lines_len (s : List UInt8) : (linesL s).length ≤ s.length := linesF_len _ _
theorem line_len {a b c d : Int} (ha : I64 a) (hb : I64 b) (hc : I64 c) (hd : I64 d) : ∀ k, k < 4 → (limLine (lim4F a b c d) k).length ≤ 30 := by
  intro k hk
  unfold limLine
  rw [List.length_append]
  have h1 : (wordL k).length ≤ 8 := by
    rcases k with _ | _ | _ | _ | k <;> first | (show _ ≤ _; decide) | omega
  have h2 : I64 (lim4F a b c d k) := by
    rcases k with _ | _ | _ | _ | k <;> first | exact ha | exact hb | exact hc | exact hd
  have := Lib.itoa_length_le _ h2.1 h2.2
  omega
theorem preL_len {a b c d : Int} (ha : I64 a) (hb : I64 b) (hc : I64 c) (hd : I64 d) : ∀ k, k ≤ 4 → (preL (lim4F a b c d) k).length ≤ 40 * k := by
  intro k
  induction k with
  | zero => exact fun _ => Nat.le_refl _
  | succ k ih =>
    intro hk
    have h1 := ih (by omega)
    have h2 := line_len ha hb hc hd k (by omega)
    simp only [preL, List.length_append, List.length_cons, List.length_nil]
    omega
set_option maxRecDepth 100000 in
set_option maxHeartbeats 16000000 in
theorem sprint_any (p q : ByteArray) (a b c d : Int) (w : World) (hp : p.size ≤ 5000) (hq : q.size ≤ 5000) (ha : I64 a) (hb : I64 b) (hc : I64 c) (hd : I64 d) (hW : WordsX w) (mx : Int) (hm : w.cell? ⟨2, 0, none⟩ = some (.int .i64 mx)) (hT : TabX w) :
    Calls Tryd.prog 19 #[.agg #[.string p, .string q, .int .i64 a, .int .i64 b, .int .i64 c, .int .i64 d]] w fun e w' => PrintE p q (lim4F a b c d) w e w' := by
  have BX := Lib.hid (belA (Below.refl w.heap.size w) (Obj.cells #[.string p, .string q, .int .i64 a, .int .i64 b, .int .i64 c, .int .i64 d] 38))
  have XB := Lib.hid (heap_alloc_new w (Obj.cells #[.string p, .string q, .int .i64 a, .int .i64 b, .int .i64 c, .int .i64 d] 38))
  have C1 := Lib.hid (pcheck_any a b c d (w.alloc (Obj.cells #[.string p, .string q, .int .i64 a, .int .i64 b, .int .i64 c, .int .i64 d] 38)))
  have hl1 := heap_lt XB.out
  obtain ⟨y0, y1, y2, y3, y4, y5⟩ := box6 XB.out
  have ix0 := idx4_0
  have ix1 := idx4_1
  have ix2 := idx4_2
  have ix3 := idx4_3
  have HW0 := Lib.hid hW
  have HT0 := Lib.hid hT
  have hgw := hW.lt
  have hsw : w.heap.size < w.heap.size + 1 := by omega
  clear hW hT
  refine (callsIn_wide (n := 10)).1 (callsIn_of_wp_marks Tryd.func19 rfl trivial (wpIn_wide.2 ?_))
  simp only [Tryd.ntmps19, List.size_toArray, List.length_cons, List.length_nil, Nat.reduceAdd, Nat.reduceSub, Array.replicate_succ, Array.replicate_zero, List.push_toArray, List.append_toArray, List.nil_append, List.cons_append]
  cases hlim : lim4 a b c d with
  | false =>
    have hE : lim4E a b c d = 1 := by unfold lim4E; rw [hlim]; rfl
    rw [hE] at C1
    have HL := Lib.hid hlim
    clear hE hlim
    go_wp2_with fail
    refine C1.out.mono ?_
    rintro e w1 ⟨rfl, hb1⟩
    have B1 := Lib.hid (BX.out.trans (hb1.mono BX.out.size))
    clear hb1 C1
    go_wp2_with fail
    refine retM (v := .tuple #[.string ⟨#[]⟩, .int .i64 1]) (by simp [results, go_sem]) rfl ?_
    exact ⟨⟨_, _, rfl, .inr ⟨by unfold printN; rw [limOk4, HL.out]; rfl, rfl⟩⟩, B1.out⟩
  | true =>
    have hE : lim4E a b c d = 0 := by unfold lim4E; rw [hlim]; rfl
    rw [hE] at C1
    have HL := Lib.hid hlim
    clear hE hlim
    go_wp2_with fail
    refine C1.out.mono ?_
    rintro e w1 ⟨rfl, hb1⟩
    have B1 := Lib.hid (BX.out.trans (hb1.mono BX.out.size))
    have X1 := Lib.hid ((hb1.block _ hl1).trans XB.out)
    have hx1 := heap_lt X1.out
    have CC := Lib.hid (Tryd.strings_Contains_one q 10 w1)
    rw [idx_mem] at CC
    have CS := Lib.hid (Tryd.strings_HasSuffix p ⟨#[10]⟩ w1 (by omega))
    have e10 : (⟨#[10]⟩ : ByteArray).data.toList = [10] := rfl
    rw [e10, suf_last] at CS
    clear hb1 C1 y0 y1 y2 y3 y4 y5 e10
    obtain ⟨y0, y1, y2, y3, y4, y5⟩ := box6 X1.out
    by_cases hq10 : 10 ∈ q.data.toList
    · rw [decide_eq_true hq10] at CC
      have HQ := Lib.hid hq10
      clear hq10
      go_wp2_with fail
      refine CC.out.mono ?_
      rintro e w2 ⟨rfl, rfl⟩
      go_wp2_with fail
      refine retM (v := .tuple #[.string ⟨#[]⟩, .int .i64 220]) (by simp [results, go_sem]) rfl ?_
      exact ⟨⟨_, _, rfl, .inr ⟨by unfold printN; rw [limOk4, HL.out, if_neg (by decide), if_pos (.inl HQ.out)], rfl⟩⟩, B1.out⟩
    rw [decide_eq_false hq10] at CC
    have HQ := Lib.hid hq10
    clear hq10
    by_cases hp10 : p.data.toList = [] ∨ p.data.toList.getLast? = some 10
    · have HP := Lib.hid hp10
      have NB := Lib.hid (bld_new w1)
      have BN := Lib.hid (belA B1.out (Obj.cells #[.pointer none, .slice none 0 0] TB))
      have BN1 := Lib.hid (belA (Below.refl w1.heap.size w1) (Obj.cells #[.pointer none, .slice none 0 0] TB))
      have CPl := Lib.hid (places_any w.heap.size 2 (w1.alloc (Obj.cells #[.pointer none, .slice none 0 0] TB)))
      have hmid : ∀ (w3 : World), Below (w1.alloc (Obj.cells #[.pointer none, .slice none 0 0] TB)).heap.size (w1.alloc (Obj.cells #[.pointer none, .slice none 0 0] TB)) w3 → Hid (Lib.IsBuilder TB 5 w1.heap.size w1.heap.size (Lib.byteCells (preL (lim4F a b c d) 0)) w3) ∧ Hid (Below w1.heap.size w1 w3) := fun _ h => ⟨Lib.hid (isb_below NB.out h), Lib.hid (BN1.out.trans (h.mono BN1.out.size))⟩
      have HMID := Lib.hid hmid
      have HPV := Lib.hid hp10
      clear hmid hp10
      cases hpe : (p.toList == [])
      case' true =>
        go_wp2_with fail
        refine CC.out.mono ?_
        rintro e w2 ⟨rfl, rfl⟩
        go_wp2_with fail
      case' false =>
        have hgl : p.data.toList.getLast? = some 10 := HPV.out.resolve_left fun h => by rw [ByteArray.toList_eq, h] at hpe; cases hpe
        rw [decide_eq_true hgl] at CS
        clear hgl
        go_wp2_with fail
        refine CC.out.mono ?_
        rintro e w2 ⟨rfl, rfl⟩
        go_wp2_with fail
        refine CS.out.mono ?_
        rintro e w2 ⟨rfl, rfl⟩
        go_wp2_with fail
      all_goals
        refine CPl.out.mono ?_
        rintro e w3 ⟨rfl, hb3⟩
        obtain ⟨IB3, B3⟩ := HMID.out _ hb3
        have hw13 := B3.out.size
        have X3 := Lib.hid ((B3.out.block _ hx1).trans X1.out)
        clear hb3 y0 y1 y2 y3 y4 y5 CC CS
        go_wp2_with fail
        go_loopw [29] (fun iv wr => ∃ k : Nat, iv = .int .i64 (k : Int) ∧ k ≤ 4 ∧ Hid (Lib.IsBuilder TB 5 w2.heap.size w2.heap.size (Lib.byteCells (preL (lim4F a b c d) k)) wr) ∧ Below w2.heap.size w2 wr) (fun iv _ => 4 - (intOf iv).toNat)
        case atStart => exact ⟨0, rfl, by omega, IB3, B3.out⟩
        case round =>
          obtain ⟨k, rfl, hk, IBr, hbr⟩ := hrel
          have HBr := Lib.hid hbr
          have hwr1 : w2.heap.size ≤ wr.heap.size := hbr.size
          have Xr := Lib.hid ((hbr.block _ hx1).trans X1.out)
          have BWr := Lib.hid (B1.out.trans (hbr.mono B1.out.size))
          have HWr := Lib.hid (HW0.out.below BWr.out)
          have HTr := Lib.hid (HT0.out.below BWr.out)
          obtain ⟨z0, z1, z2, z3, z4, z5⟩ := box6 Xr.out
          clear hbr
          obtain rfl | rfl | rfl | rfl | rfl : k = 0 ∨ k = 1 ∨ k = 2 ∨ k = 3 ∨ k = 4 := by omega
          -- the limit 0
          · obtain ⟨u, hu⟩ : ∃ u : ByteArray, (⟨(Lib.itoa a).toArray⟩ : ByteArray) = u := ⟨_, rfl⟩
            have hul : u.size ≤ 21 := by rw [← hu]; exact Lib.itoa_length_le a ha.1 ha.2
            have CPr := Lib.hid (fun (W : World) (h : Below wr.heap.size wr W) => pprint_any a W ha ((HTr.out).below h))
            rw [hu] at CPr
            have E := Lib.hid (show (⟨#[102, 117, 101, 108, 32]⟩ ++ u ++ ⟨#[10]⟩ : ByteArray).data.toList = limLine (lim4F a b c d) 0 ++ [10] by rw [cat2, cat2, ← hu]; rfl)
            have CW := Lib.hid (fun (W : World) (h : Lib.IsBuilder TB 5 w2.heap.size w2.heap.size (Lib.byteCells (preL (lim4F a b c d) 0)) W) (hs : w2.heap.size ≤ W.heap.size) => kb_any w2.heap.size w2.heap.size (preL (lim4F a b c d) 0) _ _ W h E.out (by have h1 := preL_len ha hb hc hd 0 (by omega); have h2 := line_len ha hb hc hd 0 (by omega); simp only [List.length_append, List.length_cons, List.length_nil]; omega) hs)
            have wk := HWr.out.1
            have lk := z2
            have KP := Lib.hid (fun (W : World) (h : Below w2.heap.size wr W) => (⟨(h.cell (p := ⟨1, 0, none⟩) (by show 1 < _; omega)).trans wk, (h.cell (p := ⟨w.heap.size, 2, none⟩) (by show w.heap.size < _; omega)).trans lk⟩ : W.cell? ⟨1, 0, none⟩ = some (.string ⟨#[102, 117, 101, 108, 32]⟩) ∧ W.cell? ⟨w.heap.size, 2, none⟩ = some (.int .i64 a)))
            have hcat : ¬ (9223372036854775807 < 5 + u.size) := by omega
            have hcat2 : ¬ (9223372036854775807 < 5 + u.size + 1) := by omega
            have hcat3 : ¬ (9223372036854775806 < 5 + u.size) := by omega
            have b0 := (Below.refl w2.heap.size wr).drew
            have d0 := (Below.refl wr.heap.size wr).drew
            have IBd := Lib.hid (isb_below IBr.out (Below.refl wr.heap.size wr).drew)
            clear hu
            go_wp2_with fail
            go_region_held3 (fun W => W.cell? ⟨1, 0, none⟩ = some (.string ⟨#[102, 117, 101, 108, 32]⟩) ∧ W.cell? ⟨w.heap.size, 2, none⟩ = some (.int .i64 a))
              (first | (with_reducible exact KP.out _ b0) | (with_reducible exact KP.out _ b1) | (with_reducible exact KP.out _ b2))
              ((first
                | ((with_reducible refine (CPr.out _ d0).mono ?_); rintro e w4 ⟨rfl, k4⟩; have b1 := b0.trans (k4.mono hwr1); have i1 := isb_below IBd.out k4; have s1 : wr.heap.size ≤ w4.heap.size := k4.size)
                | ((with_reducible refine (CW.out _ i1 (Nat.le_trans hwr1 s1)).mono ?_); rintro e w5 ⟨rfl, i2, k5⟩; have b2 := b1.trans k5.low)))
            go_wp2_with fail
            go_roundw
            case rel => exact ⟨1, rfl, by omega, Lib.hid i2, HBr.out.trans b2⟩
            case measure => decide
          -- the limit 1
          · obtain ⟨u, hu⟩ : ∃ u : ByteArray, (⟨(Lib.itoa b).toArray⟩ : ByteArray) = u := ⟨_, rfl⟩
            have hul : u.size ≤ 21 := by rw [← hu]; exact Lib.itoa_length_le b hb.1 hb.2
            have CPr := Lib.hid (fun (W : World) (h : Below wr.heap.size wr W) => pprint_any b W hb ((HTr.out).below h))
            rw [hu] at CPr
            have E := Lib.hid (show (⟨#[114, 111, 111, 109, 32]⟩ ++ u ++ ⟨#[10]⟩ : ByteArray).data.toList = limLine (lim4F a b c d) 1 ++ [10] by rw [cat2, cat2, ← hu]; rfl)
            have CW := Lib.hid (fun (W : World) (h : Lib.IsBuilder TB 5 w2.heap.size w2.heap.size (Lib.byteCells (preL (lim4F a b c d) 1)) W) (hs : w2.heap.size ≤ W.heap.size) => kb_any w2.heap.size w2.heap.size (preL (lim4F a b c d) 1) _ _ W h E.out (by have h1 := preL_len ha hb hc hd 1 (by omega); have h2 := line_len ha hb hc hd 1 (by omega); simp only [List.length_append, List.length_cons, List.length_nil]; omega) hs)
            have wk := HWr.out.2.1
            have lk := z3
            have KP := Lib.hid (fun (W : World) (h : Below w2.heap.size wr W) => (⟨(h.cell (p := ⟨1, 1, none⟩) (by show 1 < _; omega)).trans wk, (h.cell (p := ⟨w.heap.size, 3, none⟩) (by show w.heap.size < _; omega)).trans lk⟩ : W.cell? ⟨1, 1, none⟩ = some (.string ⟨#[114, 111, 111, 109, 32]⟩) ∧ W.cell? ⟨w.heap.size, 3, none⟩ = some (.int .i64 b)))
            have hcat : ¬ (9223372036854775807 < 5 + u.size) := by omega
            have hcat2 : ¬ (9223372036854775807 < 5 + u.size + 1) := by omega
            have hcat3 : ¬ (9223372036854775806 < 5 + u.size) := by omega
            have b0 := (Below.refl w2.heap.size wr).drew
            have d0 := (Below.refl wr.heap.size wr).drew
            have IBd := Lib.hid (isb_below IBr.out (Below.refl wr.heap.size wr).drew)
            clear hu
            go_wp2_with fail
            go_region_held3 (fun W => W.cell? ⟨1, 1, none⟩ = some (.string ⟨#[114, 111, 111, 109, 32]⟩) ∧ W.cell? ⟨w.heap.size, 3, none⟩ = some (.int .i64 b))
              (first | (with_reducible exact KP.out _ b0) | (with_reducible exact KP.out _ b1) | (with_reducible exact KP.out _ b2))
              ((first
                | ((with_reducible refine (CPr.out _ d0).mono ?_); rintro e w4 ⟨rfl, k4⟩; have b1 := b0.trans (k4.mono hwr1); have i1 := isb_below IBd.out k4; have s1 : wr.heap.size ≤ w4.heap.size := k4.size)
                | ((with_reducible refine (CW.out _ i1 (Nat.le_trans hwr1 s1)).mono ?_); rintro e w5 ⟨rfl, i2, k5⟩; have b2 := b1.trans k5.low)))
            go_wp2_with fail
            go_roundw
            case rel => exact ⟨2, rfl, by omega, Lib.hid i2, HBr.out.trans b2⟩
            case measure => decide
          -- the limit 2
          · obtain ⟨u, hu⟩ : ∃ u : ByteArray, (⟨(Lib.itoa c).toArray⟩ : ByteArray) = u := ⟨_, rfl⟩
            have hul : u.size ≤ 21 := by rw [← hu]; exact Lib.itoa_length_le c hc.1 hc.2
            have CPr := Lib.hid (fun (W : World) (h : Below wr.heap.size wr W) => pprint_any c W hc ((HTr.out).below h))
            rw [hu] at CPr
            have E := Lib.hid (show (⟨#[115, 116, 97, 99, 107, 32]⟩ ++ u ++ ⟨#[10]⟩ : ByteArray).data.toList = limLine (lim4F a b c d) 2 ++ [10] by rw [cat2, cat2, ← hu]; rfl)
            have CW := Lib.hid (fun (W : World) (h : Lib.IsBuilder TB 5 w2.heap.size w2.heap.size (Lib.byteCells (preL (lim4F a b c d) 2)) W) (hs : w2.heap.size ≤ W.heap.size) => kb_any w2.heap.size w2.heap.size (preL (lim4F a b c d) 2) _ _ W h E.out (by have h1 := preL_len ha hb hc hd 2 (by omega); have h2 := line_len ha hb hc hd 2 (by omega); simp only [List.length_append, List.length_cons, List.length_nil]; omega) hs)
            have wk := HWr.out.2.2.1
            have lk := z4
            have KP := Lib.hid (fun (W : World) (h : Below w2.heap.size wr W) => (⟨(h.cell (p := ⟨1, 2, none⟩) (by show 1 < _; omega)).trans wk, (h.cell (p := ⟨w.heap.size, 4, none⟩) (by show w.heap.size < _; omega)).trans lk⟩ : W.cell? ⟨1, 2, none⟩ = some (.string ⟨#[115, 116, 97, 99, 107, 32]⟩) ∧ W.cell? ⟨w.heap.size, 4, none⟩ = some (.int .i64 c)))
            have hcat : ¬ (9223372036854775807 < 6 + u.size) := by omega
            have hcat2 : ¬ (9223372036854775807 < 6 + u.size + 1) := by omega
            have hcat3 : ¬ (9223372036854775806 < 6 + u.size) := by omega
            have b0 := (Below.refl w2.heap.size wr).drew
            have d0 := (Below.refl wr.heap.size wr).drew
            have IBd := Lib.hid (isb_below IBr.out (Below.refl wr.heap.size wr).drew)
            clear hu
            go_wp2_with fail
            go_region_held3 (fun W => W.cell? ⟨1, 2, none⟩ = some (.string ⟨#[115, 116, 97, 99, 107, 32]⟩) ∧ W.cell? ⟨w.heap.size, 4, none⟩ = some (.int .i64 c))
              (first | (with_reducible exact KP.out _ b0) | (with_reducible exact KP.out _ b1) | (with_reducible exact KP.out _ b2))
              ((first
                | ((with_reducible refine (CPr.out _ d0).mono ?_); rintro e w4 ⟨rfl, k4⟩; have b1 := b0.trans (k4.mono hwr1); have i1 := isb_below IBd.out k4; have s1 : wr.heap.size ≤ w4.heap.size := k4.size)
                | ((with_reducible refine (CW.out _ i1 (Nat.le_trans hwr1 s1)).mono ?_); rintro e w5 ⟨rfl, i2, k5⟩; have b2 := b1.trans k5.low)))
            go_wp2_with fail
            go_roundw
            case rel => exact ⟨3, rfl, by omega, Lib.hid i2, HBr.out.trans b2⟩
            case measure => decide
          -- the limit 3
          · obtain ⟨u, hu⟩ : ∃ u : ByteArray, (⟨(Lib.itoa d).toArray⟩ : ByteArray) = u := ⟨_, rfl⟩
            have hul : u.size ≤ 21 := by rw [← hu]; exact Lib.itoa_length_le d hd.1 hd.2
            have CPr := Lib.hid (fun (W : World) (h : Below wr.heap.size wr W) => pprint_any d W hd ((HTr.out).below h))
            rw [hu] at CPr
            have E := Lib.hid (show (⟨#[97, 110, 115, 119, 101, 114, 115, 32]⟩ ++ u ++ ⟨#[10]⟩ : ByteArray).data.toList = limLine (lim4F a b c d) 3 ++ [10] by rw [cat2, cat2, ← hu]; rfl)
            have CW := Lib.hid (fun (W : World) (h : Lib.IsBuilder TB 5 w2.heap.size w2.heap.size (Lib.byteCells (preL (lim4F a b c d) 3)) W) (hs : w2.heap.size ≤ W.heap.size) => kb_any w2.heap.size w2.heap.size (preL (lim4F a b c d) 3) _ _ W h E.out (by have h1 := preL_len ha hb hc hd 3 (by omega); have h2 := line_len ha hb hc hd 3 (by omega); simp only [List.length_append, List.length_cons, List.length_nil]; omega) hs)
            have wk := HWr.out.2.2.2
            have lk := z5
            have KP := Lib.hid (fun (W : World) (h : Below w2.heap.size wr W) => (⟨(h.cell (p := ⟨1, 3, none⟩) (by show 1 < _; omega)).trans wk, (h.cell (p := ⟨w.heap.size, 5, none⟩) (by show w.heap.size < _; omega)).trans lk⟩ : W.cell? ⟨1, 3, none⟩ = some (.string ⟨#[97, 110, 115, 119, 101, 114, 115, 32]⟩) ∧ W.cell? ⟨w.heap.size, 5, none⟩ = some (.int .i64 d)))
            have hcat : ¬ (9223372036854775807 < 8 + u.size) := by omega
            have hcat2 : ¬ (9223372036854775807 < 8 + u.size + 1) := by omega
            have hcat3 : ¬ (9223372036854775806 < 8 + u.size) := by omega
            have b0 := (Below.refl w2.heap.size wr).drew
            have d0 := (Below.refl wr.heap.size wr).drew
            have IBd := Lib.hid (isb_below IBr.out (Below.refl wr.heap.size wr).drew)
            clear hu
            go_wp2_with fail
            go_region_held3 (fun W => W.cell? ⟨1, 3, none⟩ = some (.string ⟨#[97, 110, 115, 119, 101, 114, 115, 32]⟩) ∧ W.cell? ⟨w.heap.size, 5, none⟩ = some (.int .i64 d))
              (first | (with_reducible exact KP.out _ b0) | (with_reducible exact KP.out _ b1) | (with_reducible exact KP.out _ b2))
              ((first
                | ((with_reducible refine (CPr.out _ d0).mono ?_); rintro e w4 ⟨rfl, k4⟩; have b1 := b0.trans (k4.mono hwr1); have i1 := isb_below IBd.out k4; have s1 : wr.heap.size ≤ w4.heap.size := k4.size)
                | ((with_reducible refine (CW.out _ i1 (Nat.le_trans hwr1 s1)).mono ?_); rintro e w5 ⟨rfl, i2, k5⟩; have b2 := b1.trans k5.low)))
            go_wp2_with fail
            go_roundw
            case rel => exact ⟨4, rfl, by omega, Lib.hid i2, HBr.out.trans b2⟩
            case measure => decide
          -- behind the limits
          · have CL := Lib.hid (plines_any p wr)
            go_wp2_with fail
            refine CL.out.mono ?_
            rintro e w6 ⟨rfl, rfl⟩
            have XS := Lib.hid (heap_alloc_new wr (Obj.cells #[.string p] 9))
            have BS := Lib.hid (belA (Below.refl wr.heap.size wr) (Obj.cells #[.string p] 9))
            have hmw : 2 < w.heap.size := Lib.lt_of_cell hm
            have hmr : (wr.alloc (Obj.cells #[.string p] 9)).cell? ⟨2, 0, none⟩ = some (.int .i64 mx) := ((BWr.out.trans (BS.out.mono BWr.out.size)).cell (p := ⟨2, 0, none⟩) hmw).trans hm
            have hww : w.heap.size ≤ wr.heap.size := BWr.out.size
            have LS := lines_stops 9 wr.heap.size w.heap.size p mx _ (by omega) (by omega) hmw hww XS.out hmr
            have I6 := Lib.hid (isb_below IBr.out BS.out)
            have hwn : w2.heap.size ≤ wr.heap.size := hwr1
            go_wp2_with fail
            have XW6 := Lib.hid ((BS.out.block _ (heap_lt Xr.out)).trans Xr.out)
            have B6 := Lib.hid (BWr.out.trans (BS.out.mono BWr.out.size))
            have hs2w : w.heap.size ≤ w2.heap.size := B1.out.size
            have XS := XS.out
            generalize hW6 : wr.alloc (Obj.cells #[.string p] 9) = W6 at *
            have h6 : W6.heap.size = wr.heap.size + 1 := by rw [← hW6]; simp
            refine (wpIn_wide (n := 10)).1 (wpIn_rangeFunc_box (n := 10) (a₁ := _) (b0 := wr.heap.size) (n0 := w.heap.size) rfl (by omega) (gf := 48) (lb := #[.pointer (some ⟨wr.heap.size, 0, none⟩)]) rfl trivial (enters_of Tryd.func48 (by kernel_rfl) rfl) LS (by omega) (by omega) (Below.refl _ _) (fun _ => rfl)
              (fun pre W => (Lib.IsBuilder TB 5 w2.heap.size w2.heap.size (Lib.byteCells (preL (lim4F a b c d) 4 ++ joinL (pre.map fun x => barW ++ x.1.2.data.toList))) W ∧ (∃ cs, W.heap[wr.heap.size]? = some (.cells cs 9 (0, 0))) ∧ W.heap[w.heap.size]? = some (.cells #[.string p, .string q, .int .i64 a, .int .i64 b, .int .i64 c, .int .i64 d] 38 (0, 0))) ∧ Below w.heap.size w W)
              (fun _ _ _ => False) ?_ (fun _ _ _ _ _ hs _ _ => hs) ?_ (fun _ _ _ _ hs => hs) ?_
              (by
                intro l x W K hK
                dsimp only [lnV]
                gi_wp2
                exact hK) ?_ ?_ ?_)
            · exact OwnFrom.and (fun s A B row hs hg hr => ⟨isb_grown hs.1 hg fun r e => (hr r e).2, (by obtain ⟨cs, h⟩ := hs.2.1; exact ⟨cs, cells_grown h hg fun r e => (hr r e).2⟩), cells_grown hs.2.2 hg fun r e => (hr r e).2⟩) (ownFrom_below (Nat.le_refl _) (by omega))
            · intro s W v hs
              obtain ⟨⟨h1, ⟨cs, h2⟩, h3⟩, h4⟩ := hs
              exact ⟨⟨isb_set h1 h2 (by decide) 0 v, ⟨_, blk_set h2 0 v⟩, (Below.heap_setCell _ _ _ _ (by show w.heap.size ≠ wr.heap.size; omega)).trans h3⟩, h4.setCell (p := ⟨wr.heap.size, 0, none⟩) hww v⟩
            · exact ⟨⟨by simpa [joinL] using I6.out, ⟨_, XS⟩, XW6.out⟩, B6.out⟩
            · intro l pre x W hi hlen
              obtain ⟨⟨h1, ⟨cs, h2⟩, h3⟩, h4⟩ := hi
              have hjl : (joinL (pre.map fun x => barW ++ x.1.2.data.toList)).length ≤ 100000010 * 5000 := by
                have e3 := lines_len p.data.toList
                have e4 : p.data.toList.length = p.size := Array.length_toList
                exact Nat.le_trans (joinL_len pre) (Nat.mul_le_mul_left _ (by omega))
              obtain ⟨⟨xn, xs⟩, hxs, hx1, hx2⟩ := x
              have hxs : xs.size ≤ 100000000 := hxs
              have E := Lib.hid (show (⟨#[124, 32]⟩ ++ xs ++ ⟨#[10]⟩ : ByteArray).data.toList = barW ++ xs.data.toList ++ [10] by rw [cat2, cat2]; rfl)
              have hxl : xs.data.toList.length ≤ 100000000 := by rw [Array.length_toList]; exact hxs
              have hwl : w2.heap.size ≤ W.heap.size := by have := h4.size; have := heap_lt h2; omega
              have CW := Lib.hid (kb_any w2.heap.size w2.heap.size _ _ _ W h1 E.out (by have h9 := preL_len ha hb hc hd 4 (by omega); have h8 : barW.length = 2 := rfl; simp only [List.length_append, List.length_cons, List.length_nil]; omega) hwl)
              have hcat : ¬ (9223372036854775807 < 2 + xs.size) := by omega
              have hcat2 : ¬ (9223372036854775807 < 2 + xs.size + 1) := by omega
              have hcat3 : ¬ (9223372036854775806 < 2 + xs.size) := by omega
              have HI := Lib.hid h1
              have H2 := Lib.hid h2
              have H3 := Lib.hid h3
              have H4 := Lib.hid h4
              clear h1 h2 h3 h4 hjl
              gi_wp2
              refine ⟨trivial, ?_⟩
              refine (CallsIn.inRound l (callsIn_wide.2 CW.out)).mono ?_
              rintro e w' ⟨rfl, i2, k2⟩
              have k0 := k2.low.mono hs2w
              have e0 := k2.keep wr.heap.size _ H2.out (fun cs t f e => by injection e with _ e; rw [← e]; decide)
              have e1 := k2.keep w.heap.size _ H3.out (fun cs t f e => by injection e with _ e; rw [← e]; decide)
              gi_wp2
              refine ⟨k2.from, ⟨e0.trans H2.out.symm, k0⟩, ⟨?_, ⟨cs, e0⟩, e1⟩, H4.out.trans k0⟩
              have e9 : (joinL ((pre ++ [(⟨(xn, xs), hxs, hx1, hx2⟩ : Ln)]).map fun x : Ln => barW ++ x.1.2.data.toList)) = joinL (pre.map fun x => barW ++ x.1.2.data.toList) ++ (barW ++ xs.data.toList ++ [10]) := by
                rw [List.map_append, joinL_app]
                simp [joinL]
              rw [e9, ← List.append_assoc]
              exact i2
            · intro D xs W hD hS hi hK
              obtain ⟨⟨h1, ⟨cs, h2⟩, h3⟩, h4⟩ := hi
              rw [num_map xs 1 _ hS] at h1
              have hjl : (joinL ((linesL p.data.toList).map fun l => barW ++ l)).length ≤ 100000010 * 5000 := by
                have e1 := joinL_len xs
                rw [num_map xs 1 _ hS] at e1
                have e2 : xs.length = (linesL p.data.toList).length := by have := congrArg List.length hS; rw [numL_len, List.length_map] at this; exact this
                have e3 := lines_len p.data.toList
                have e4 : p.data.toList.length = p.size := Array.length_toList
                have e5 : xs.length ≤ 5000 := by omega
                exact Nat.le_trans e1 (Nat.mul_le_mul_left _ e5)
              have hwl : w2.heap.size ≤ W.heap.size := by have := h4.size; have := heap_lt h2; omega
              have E := Lib.hid (show (⟨#[63, 32]⟩ ++ q ++ ⟨#[10]⟩ : ByteArray).data.toList = askW ++ (q.data.toList ++ [10]) by rw [cat2, cat2, List.append_assoc]; rfl)
              have hql : q.data.toList.length = q.size := Array.length_toList
              have CW := Lib.hid (kb_any w2.heap.size w2.heap.size _ _ _ W h1 E.out (by have h9 := preL_len ha hb hc hd 4 (by omega); have h8 : askW.length = 2 := rfl; simp only [List.length_append, List.length_cons, List.length_nil]; omega) hwl)
              have hcat : ¬ (9223372036854775807 < 2 + q.size) := by omega
              have hcat2 : ¬ (9223372036854775807 < 2 + q.size + 1) := by omega
              have hcat3 : ¬ (9223372036854775806 < 2 + q.size) := by omega
              obtain ⟨y0, y1, y2, y3, y4, y5⟩ := box6 h3
              have H4 := Lib.hid h4
              have HK := Lib.hid hK
              clear h1 h2 h3 h4 hjl hS hK z0 z1 z2 z3 z4 z5
              go_wp2_with fail
              refine CW.out.mono ?_
              rintro e w7 ⟨rfl, i7, k7⟩
              have CS := Lib.hid (Tryd.Builder_String_any_k w2.heap.size w2.heap.size _ w7 (Lib.IsBuilderF.of i7) (Nat.le_trans hwl k7.low.size))
              have K7 := Lib.hid (k7.keep D _ HK.out (far_noncells rfl))
              have L7 := Lib.hid (H4.out.trans (k7.low.mono hs2w))
              clear i7 k7
              go_wp2_with fail
              refine CS.out.mono ?_
              rintro e w8 ⟨rfl, _, hb8, ho8⟩
              have K8 := ho8 D _ K7.out (fun e => by injection e with e; omega) (fun c f e => by cases e)
              have L8 := L7.out.trans (hb8.mono hs2w)
              go_wp2_with fail
              refine retMD (v := .tuple #[.string _, .int .i64 0]) K8 (by simp [results, go_sem]; rfl) rfl ?_
              refine ⟨⟨_, _, rfl, .inl ⟨?_, rfl⟩⟩, L8.trans (belowK_b (w := w) (Nat.le_refl _) _ D _ _ (by omega) K8 rfl rfl)⟩
              unfold printN
              rw [limOk4, HL.out, if_neg (by decide), if_neg (fun h => h.elim HQ.out (fun h => h HPV.out)), print_text]
            · intro D c pre W hD hS hi hK
              exact hi.elim
    · have hpe : (p.toList == []) = false := by
        rw [ByteArray.toList_eq]
        cases h : p.data.toList with
        | nil => exact absurd (.inl h) hp10
        | cons => rfl
      rw [decide_eq_false fun h => hp10 (.inr h)] at CS
      have HP := Lib.hid hp10
      clear hp10
      go_wp2_with fail
      refine CC.out.mono ?_
      rintro e w2 ⟨rfl, rfl⟩
      go_wp2_with fail
      refine CS.out.mono ?_
      rintro e w2 ⟨rfl, rfl⟩
      go_wp2_with fail
      refine retM (v := .tuple #[.string ⟨#[]⟩, .int .i64 220]) (by simp [results, go_sem]) rfl ?_
      exact ⟨⟨_, _, rfl, .inr ⟨by unfold printN; rw [limOk4, HL.out, if_neg (by decide), if_pos (.inr HP.out)], rfl⟩⟩, B1.out⟩
end Go.Proofs.YtipddolkikhojaaDoor
