/- coneyref21.Print = printN. -/
import Derived.Test.YtipddolkikhojaaDoorPp
namespace Go.Proofs.YtipddolkikhojaaDoor
open Go.RowKit

abbrev TRS : TypeId := 41
set_option maxRecDepth 100000 in
set_option maxHeartbeats 4000000 in
theorem rword_any (k : Nat) (hk : k < 4) (w : World) : Calls Tryd.prog 37 #[.int .i64 (k : Int)] w fun e w' => e = .returned (.string (ba (wordL k))) ∧ Below w.heap.size w w' := by
  obtain ⟨W1, hW1⟩ : ∃ W1, w.alloc (Obj.cells #[.string ⟨#[102, 117, 101, 108, 32]⟩, .string ⟨#[114, 111, 111, 109, 32]⟩, .string ⟨#[115, 116, 97, 99, 107, 32]⟩, .string ⟨#[97, 110, 115, 119, 101, 114, 115, 32]⟩] 9) = W1 := ⟨_, rfl⟩
  have BX := Lib.hid (belA (Below.refl w.heap.size w) (Obj.cells #[.string ⟨#[102, 117, 101, 108, 32]⟩, .string ⟨#[114, 111, 111, 109, 32]⟩, .string ⟨#[115, 116, 97, 99, 107, 32]⟩, .string ⟨#[97, 110, 115, 119, 101, 114, 115, 32]⟩] 9))
  obtain ⟨x0, x1, x2, x3⟩ := box4t (heap_alloc_new w (Obj.cells #[.string ⟨#[102, 117, 101, 108, 32]⟩, .string ⟨#[114, 111, 111, 109, 32]⟩, .string ⟨#[115, 116, 97, 99, 107, 32]⟩, .string ⟨#[97, 110, 115, 119, 101, 114, 115, 32]⟩] 9))
  clear hW1 W1
  obtain rfl | rfl | rfl | rfl : k = 0 ∨ k = 1 ∨ k = 2 ∨ k = 3 := by omega
  all_goals
    go_enter Tryd.func37, Tryd.ntmps37
    go_wp2
    go_ret
    exact ⟨rfl, BX.out⟩
theorem lines_each : ∀ (f : Nat) (s : List UInt8), ∀ l ∈ linesF f s, l.length ≤ s.length
  | 0, _, _, h => by cases h
  | f + 1, [], _, h => by cases h
  | f + 1, c :: s, l, h => by
    rcases List.mem_cons.1 h with rfl | h
    · exact cut_len1 _
    · have h1 := lines_each f _ l h
      have h2 := cut_len c s
      omega
theorem joinB_len (m : Nat) : ∀ ls : List (List UInt8), (∀ l ∈ ls, l.length ≤ m) → (joinL (ls.map fun l => barW ++ l)).length ≤ (m + 3) * ls.length
  | [], _ => Nat.le_refl _
  | l :: ls, h => by
    have h1 := joinB_len m ls fun x hx => h x (List.mem_cons_of_mem _ hx)
    have h2 := h l List.mem_cons_self
    have hb : barW.length = 2 := rfl
    rw [List.map_cons, joinL_cons]
    simp only [List.length_append, List.length_cons]
    rw [Nat.mul_add]
    omega
theorem joinB_snoc (ls : List (List UInt8)) (l : List UInt8) : joinL ((ls ++ [l]).map fun l => barW ++ l) = joinL (ls.map fun l => barW ++ l) ++ (barW ++ l ++ [10]) := by
  rw [List.map_append, joinL_app]
  simp [joinL]
theorem last_bu {p : ByteArray} {K : Nat} (h : p.size = K + 1) : p.data.toList.getLast? = some (bu p K) := by
  have hl : p.data.toList.length = K + 1 := by rw [Array.length_toList]; exact h
  rw [List.getLast?_eq_getElem?, hl, Nat.add_sub_cancel]
  unfold bu
  rw [List.getD_eq_getElem?_getD, List.getElem?_eq_getElem (by omega)]
  rfl
theorem lim_snoc (f : Nat → Int) (k : Nat) {o t : ByteArray} (ho : o.data.toList = preL f k) (ht : t.data.toList = Lib.itoa (f k)) : (o ++ ba (wordL k) ++ t ++ ⟨#[10]⟩ : ByteArray).data.toList = preL f (k + 1) := by
  rw [cat2, cat2, cat2, ho, ht]
  simp [preL, limLine, ba]
set_option maxRecDepth 100000 in
set_option maxHeartbeats 16000000 in
theorem rprintS_any (p q : ByteArray) (a b c d : Int) (w : World) (hp : p.size ≤ 5000) (hq : q.size ≤ 5000) (ha : I64 a) (hb : I64 b) (hc : I64 c) (hd : I64 d) :
    Calls Tryd.prog 20 #[.agg #[.string p, .string q, .int .i64 a, .int .i64 b, .int .i64 c, .int .i64 d]] w fun e w' => PrintE p q (lim4F a b c d) w e w' := by
  have BX := Lib.hid (belA (Below.refl w.heap.size w) (Obj.cells #[.string p, .string q, .int .i64 a, .int .i64 b, .int .i64 c, .int .i64 d] TRS))
  have XB := Lib.hid (heap_alloc_new w (Obj.cells #[.string p, .string q, .int .i64 a, .int .i64 b, .int .i64 c, .int .i64 d] TRS))
  have C1 := Lib.hid (rcheck_any a b c d (w.alloc (Obj.cells #[.string p, .string q, .int .i64 a, .int .i64 b, .int .i64 c, .int .i64 d] TRS)))
  have hl1 := heap_lt XB.out
  obtain ⟨y0, y1, y2, y3, y4, y5⟩ := box6 XB.out
  cases hlim : lim4 a b c d with
  | false =>
    have hE : lim4E a b c d = 1 := by unfold lim4E; rw [hlim]; rfl
    rw [hE] at C1
    have HL := Lib.hid hlim
    clear hE hlim
    go_enter Tryd.func20, Tryd.ntmps20
    go_wp2_with fail
    refine C1.out.mono ?_
    rintro e w1 ⟨rfl, hb1⟩
    have B1 := Lib.hid (BX.out.trans (hb1.mono BX.out.size))
    clear hb1 C1
    go_wp2_with fail
    refine bodyPost_ret (v := .tuple #[.string ⟨#[]⟩, .int .i64 1]) (by simp [results, go_sem]) rfl ?_
    exact ⟨⟨_, _, rfl, .inr ⟨by unfold printN; rw [limOk4, HL.out]; rfl, rfl⟩⟩, B1.out⟩
  | true =>
    have hE : lim4E a b c d = 0 := by unfold lim4E; rw [hlim]; rfl
    rw [hE] at C1
    have HL := Lib.hid hlim
    clear hE hlim
    go_enter Tryd.func20, Tryd.ntmps20
    go_wp2_with fail
    refine C1.out.mono ?_
    rintro e w1 ⟨rfl, hb1⟩
    have B1 := Lib.hid (BX.out.trans (hb1.mono BX.out.size))
    have X1 := Lib.hid ((hb1.block _ hl1).trans XB.out)
    have hx1 := heap_lt X1.out
    have CF := Lib.hid (rfeeds_any q w1 (by omega))
    clear hb1 C1 y0 y1 y2 y3 y4 y5
    obtain ⟨y0, y1, y2, y3, y4, y5⟩ := box6 X1.out
    obtain ⟨fd, hfd⟩ : ∃ fd : Nat, feedsF q q.size = fd := ⟨_, rfl⟩
    have hf10 : 0 < fd ↔ 10 ∈ q.data.toList := by rw [← hfd]; exact feeds_all q
    rw [hfd] at CF
    have HF := Lib.hid hf10
    clear hfd hf10
    go_wp2_with fail
    refine CF.out.mono ?_
    rintro e w2 ⟨rfl, hb2⟩
    have B2 := Lib.hid (B1.out.trans (hb2.mono B1.out.size))
    have X2 := Lib.hid ((hb2.block _ hx1).trans X1.out)
    have hx2 := heap_lt X2.out
    clear hb2 CF y0 y1 y2 y3 y4 y5
    obtain ⟨y0, y1, y2, y3, y4, y5⟩ := box6 X2.out
    by_cases hq10 : 0 < fd
    · have hq10' : (0 : Int) < (fd : Int) := by omega
      have HQ := Lib.hid (HF.out.1 hq10)
      go_wp2_with fail
      refine bodyPost_ret (v := .tuple #[.string ⟨#[]⟩, .int .i64 220]) (by simp [results, go_sem]) rfl ?_
      exact ⟨⟨_, _, rfl, .inr ⟨by unfold printN; rw [limOk4, HL.out, if_neg (by decide), if_pos (.inl HQ.out)], rfl⟩⟩, B2.out⟩
    have hq10' : ¬ (0 : Int) < (fd : Int) := by omega
    have HQ := Lib.hid (fun h => hq10 (HF.out.2 h))
    clear hq10
    have hlast : ∀ K, p.size = K + 1 → (p.data.toList.getLast? = some 10 ↔ ((bn p K : Int) == 10) = true) := fun K h => by
      rw [last_bu h, feed_bu]
      constructor
      · intro h; injection h
      · intro h; rw [h]
    by_cases hp10 : p.data.toList = [] ∨ p.data.toList.getLast? = some 10
    · have HP := Lib.hid hp10
      have CL := Lib.hid (fun (W : World) => rlines_any p W (by omega))
      have hpb : ∀ (K : Nat) (h : K < p.size), (p[K]'h).toNat = bn p K := fun K h => bn_eq p K h
      rcases Nat.eq_zero_or_pos p.size with hp0 | hp0
      case' inl =>
        have hpe : (p.toList == []) = true := by
          rw [ByteArray.toList_eq, List.eq_nil_of_length_eq_zero (show p.data.toList.length = 0 by rw [Array.length_toList]; exact hp0)]
          rfl
        clear hp10 hlast
        go_wp2_with fail
      case' inr =>
        obtain ⟨K, hK⟩ : ∃ K, p.size = K + 1 := ⟨p.size - 1, by omega⟩
        have hpe : (p.toList == []) = false := by
          rw [ByteArray.toList_eq]
          cases h : p.data.toList with
          | nil => have := congrArg List.length h; rw [Array.length_toList] at this; exact absurd (show p.size = 0 from this) (by omega)
          | cons => rfl
        have h10 : ((bn p K : Int) == 10) = true := (hlast K hK).1 (hp10.resolve_left fun h => by rw [ByteArray.toList_eq, h] at hpe; cases hpe)
        have h10b : ((bn p K : Int) != 10) = false := by rw [bne, h10]; rfl
        clear hp10 hlast
        go_wp2_with fail
        clear hK h10 hpe h10b
        obtain ⟨zz, hzz⟩ : ∃ z : Int, (K : Int) + 1 = z := ⟨_, rfl⟩
        rw [hzz]
        clear hzz
      all_goals
        have XO : Hid ((w2.alloc (Obj.cells #[.int .i64 a, .int .i64 b, .int .i64 c, .int .i64 d] 3)).heap[w.heap.size]? = some (.cells #[.string p, .string q, .int .i64 a, .int .i64 b, .int .i64 c, .int .i64 d] TRS (0, 0))) := Lib.hid ((Below.heap_alloc _ _ _ (heap_lt X2.out)).trans X2.out)
        have XL := Lib.hid (heap_alloc_new w2 (Obj.cells #[.int .i64 a, .int .i64 b, .int .i64 c, .int .i64 d] 3))
        have BL := Lib.hid (belA B2.out (Obj.cells #[.int .i64 a, .int .i64 b, .int .i64 c, .int .i64 d] 3))
        have hlt2 := heap_lt XL.out
        generalize w2.alloc (Obj.cells #[.int .i64 a, .int .i64 b, .int .i64 c, .int .i64 d] 3) = w3 at *
        have hx3 := heap_lt XO.out
        clear y0 y1 y2 y3 y4 y5
        go_loopw [5, 6] (fun ov iv wr => ∃ (k : Nat) (o : ByteArray), ov = .string o ∧ iv = .int .i64 (k : Int) ∧ k ≤ 4 ∧ Hid (o.data.toList = preL (lim4F a b c d) k) ∧ Below w3.heap.size w3 wr) (fun _ iv _ => 4 - (intOf iv).toNat)
        case atStart => exact ⟨0, ⟨#[]⟩, rfl, rfl, by omega, Lib.hid rfl, Below.refl _ _⟩
        case round =>
          obtain ⟨k, o, rfl, rfl, hk, HO, hbr⟩ := hrel
          have HBr := Lib.hid hbr
          have hos : o.size ≤ 160 := by
            have h1 := preL_len ha hb hc hd k hk
            rw [← HO.out, Array.length_toList] at h1
            have h9 : o.data.size = o.size := rfl
            omega
          by_cases hk4 : k < 4
          · have hk4' : (k : Int) < 4 := by omega
            obtain ⟨v, hv⟩ : ∃ v, lim4F a b c d k = v := ⟨_, rfl⟩
            have hvi : I64 v := by
              rw [← hv]
              rcases k with _ | _ | _ | _ | k <;> first | exact ha | exact hb | exact hc | exact hd
            have lk : wr.cell? ⟨w2.heap.size, k, none⟩ = some (.int .i64 v) := by
              refine (hbr.cell (p := ⟨w2.heap.size, k, none⟩) hlt2).trans ?_
              obtain ⟨x0, x1, x2, x3⟩ := box4t XL.out
              rw [← hv]
              obtain rfl | rfl | rfl | rfl : k = 0 ∨ k = 1 ∨ k = 2 ∨ k = 3 := by omega
              · exact x0
              · exact x1
              · exact x2
              · exact x3
            obtain ⟨wd, hwd⟩ : ∃ wd, ba (wordL k) = wd := ⟨_, rfl⟩
            have hws : wd.size ≤ 8 := by
              rw [← hwd]
              obtain rfl | rfl | rfl | rfl : k = 0 ∨ k = 1 ∨ k = 2 ∨ k = 3 := by omega
              all_goals decide
            have CWd := Lib.hid (fun (W : World) => rword_any k hk4 W)
            rw [hwd] at CWd
            have CPr := Lib.hid (fun (W : World) => rprint_any v W hvi.1 hvi.2)
            have E := Lib.hid (fun (t : ByteArray) (ht : t.data.toList = Lib.itoa v) => show (o ++ wd ++ t ++ ⟨#[10]⟩ : ByteArray).data.toList = preL (lim4F a b c d) (k + 1) from by rw [← hwd]; exact lim_snoc _ k HO.out (by rw [hv]; exact ht))
            have TS := Lib.hid (fun (t : ByteArray) (ht : t.data.toList = Lib.itoa v) => show t.size ≤ 21 from by
              have h1 := Lib.itoa_length_le v hvi.1 hvi.2
              rw [← ht, Array.length_toList] at h1
              exact Nat.le_trans (show t.size ≤ _ from Nat.le_refl _) (by have h9 : t.data.size = t.size := rfl; omega))
            have KP := Lib.hid (fun (W : World) (h : Below wr.heap.size wr W) => (h.cell (p := ⟨w2.heap.size, k, none⟩) (by have := hbr.size; show w2.heap.size < _; omega)).trans lk)
            have b0 := (Below.refl wr.heap.size wr).drew
            have hcat1 : ¬ (9223372036854775807 < o.size + wd.size) := by omega
            clear hbr hv hwd
            go_wp2_with fail
            go_region_held3 (fun W => W.cell? ⟨w2.heap.size, k, none⟩ = some (.int .i64 v))
              (first | (with_reducible exact KP.out _ b0) | (with_reducible exact KP.out _ b1))
              ((first
                | ((with_reducible refine (CWd.out _).mono ?_); rintro e w4 ⟨rfl, k4⟩; have b1 := b0.trans (k4.mono b0.size); clear k4)
                | ((with_reducible refine (CPr.out _).mono ?_); rintro e w5 ⟨⟨t, rfl, ht⟩, rfl⟩; have hts := TS.out t ht; have E2 := Lib.hid (E.out t ht); have hcat2 : ¬ (9223372036854775807 < o.size + wd.size + t.size) := (by omega); have hcat3 : ¬ (9223372036854775807 < o.size + wd.size + t.size + 1) := (by omega); have hcat4 : ¬ (9223372036854775806 < o.size + wd.size + t.size) := (by omega); clear ht)))
            go_wp2_with fail
            go_roundw
            case rel => first | exact ⟨k + 1, _, rfl, by go_num, hk4, E2, HBr.out.trans (b1.mono HBr.out.size)⟩ | exact ⟨_, _, _, _, _, _, _, _, _, _, _, _, _, _, _, _, _, ⟨k + 1, _, rfl, by go_num, hk4, E2, HBr.out.trans (b1.mono HBr.out.size)⟩, rfl⟩
            case measure => simp [intOf]; omega
          · obtain rfl : k = 4 := by omega
            have XR := Lib.hid ((HBr.out.block _ hx3).trans XO.out)
            have hxr := heap_lt XR.out
            have BR := Lib.hid (BL.out.trans (HBr.out.mono BL.out.size))
            have CLs := Lib.hid (CL.out wr)
            obtain ⟨y0, y1, y2, y3, y4, y5⟩ := box6 XR.out
            clear hbr CL
            go_wp2_with fail
            refine CLs.out.mono ?_
            rintro e w6 ⟨⟨v, ts, rfl, hown, htl, hts⟩, hb6⟩
            have B6 := Lib.hid (BR.out.trans (hb6.mono BR.out.size))
            have X6 := Lib.hid ((hb6.block _ hxr).trans XR.out)
            obtain ⟨A, cc, rfl, _, _, _, hx⟩ := own_open hown
            have HXX := Lib.hid hx
            have HTS := Lib.hid hts.out
            clear hb6 CLs hown hx hts y0 y1 y2 y3 y4 y5
            obtain ⟨y0, y1, y2, y3, y4, y5⟩ := box6 X6.out
            go_wp2_with fail
            go_loopw [5, 8] (fun ov iv wq => ∃ (i : Nat) (r : ByteArray), ov = .string r ∧ iv = .int .i64 (i : Int) ∧ i ≤ ts.length ∧ Hid (r.data.toList = preL (lim4F a b c d) 4 ++ joinL (((linesL p.data.toList).take i).map fun l => barW ++ l)) ∧ w6 = wq) (fun _ iv _ => ts.length - (intOf iv).toNat)
            case atStart => exact ⟨0, o, rfl, rfl, Nat.zero_le _, Lib.hid (by rw [HO.out, List.take_zero]; simp [joinL]), rfl⟩
            case round =>
              obtain ⟨i, r, rfl, rfl, hi, HRR, rfl⟩ := hrel
              have hrs : r.size ≤ 100000000 := by
                have h1 := preL_len ha hb hc hd 4 (by omega)
                have h2 := joinB_len 5000 ((linesL p.data.toList).take i) fun l hl => by
                  have h3 := lines_each _ _ l (List.mem_of_mem_take hl)
                  have h4 : p.data.toList.length = p.size := Array.length_toList
                  omega
                have h3 : ((linesL p.data.toList).take i).length ≤ 5000 := by
                  have h4 := lines_len p.data.toList
                  have h5 : p.data.toList.length = p.size := Array.length_toList
                  rw [List.length_take]
                  omega
                have h4 := Nat.le_trans h2 (Nat.mul_le_mul_left (5000 + 3) h3)
                have h5 : r.data.toList.length = r.size := Array.length_toList
                rw [HRR.out, List.length_append] at h5
                omega
              by_cases hil : i < ts.length
              · have hil' : (i : Int) < (ts.length : Int) := by omega
                obtain ⟨g, cur, rfl, _, hh, hcur⟩ := HXX.out (by omega)
                obtain ⟨x, hx⟩ : ∃ x, ts[i]? = some x := ⟨_, List.getElem?_eq_getElem hil⟩
                have hc0 : w6.cell? ⟨g, i, none⟩ = some (.string x) := by
                  rw [cell_of_row w6 g i _ _ _ hh, hcur i (by omega), List.getElem?_map, hx]
                  rfl
                have hxl : (linesL p.data.toList)[i]? = some x.data.toList := by rw [HTS.out, List.getElem?_map, hx]; rfl
                have hxs : x.size ≤ 5000 := by
                  have h3 := lines_each _ _ _ (List.mem_of_getElem? hxl)
                  have h4 : p.data.toList.length = p.size := Array.length_toList
                  have h5 : x.data.toList.length = x.size := Array.length_toList
                  omega
                have E := Lib.hid (show (r ++ ⟨#[124, 32]⟩ ++ x ++ ⟨#[10]⟩ : ByteArray).data.toList = preL (lim4F a b c d) 4 ++ joinL (((linesL p.data.toList).take (i + 1)).map fun l => barW ++ l) by
                  rw [List.take_add_one, hxl]
                  show _ = _ ++ joinL ((_ ++ [x.data.toList]).map _)
                  rw [joinB_snoc, cat2, cat2, cat2, HRR.out]
                  simp [barW])
                have hcat1 : ¬ (9223372036854775807 < r.size + 2) := by omega
                have hcat2 : ¬ (9223372036854775807 < r.size + 2 + x.size) := by omega
                have hcat3 : ¬ (9223372036854775807 < r.size + 2 + x.size + 1) := by omega
                clear hh hcur hx hxl
                go_wp2_with fail
                go_roundw
                case rel => exact ⟨i + 1, _, rfl, by go_num, hil, E, trivial⟩
                case measure => simp [intOf]; omega
              · obtain rfl : ts.length = i := by omega
                have E := Lib.hid (show printN p.data.toList q.data.toList (lim4F a b c d) = .ok (r ++ ⟨#[63, 32]⟩ ++ q ++ ⟨#[10]⟩ : ByteArray).data.toList by
                  unfold printN
                  rw [limOk4, HL.out, if_neg (by decide), if_neg (fun h => h.elim HQ.out (fun h => h HP.out)), print_text, cat2, cat2, cat2, HRR.out, List.take_of_length_le (by rw [HTS.out, List.length_map]; exact Nat.le_refl _)]
                  simp [askW])
                have hcat1 : ¬ (9223372036854775807 < r.size + 2) := by omega
                have hcat2 : ¬ (9223372036854775807 < r.size + 2 + q.size) := by omega
                have hcat3 : ¬ (9223372036854775807 < r.size + 2 + q.size + 1) := by omega
                go_wp2_with fail
                refine bodyPost_ret (v := .tuple #[.string _, .int .i64 0]) (by simp [results, go_sem]; rfl) rfl ?_
                exact ⟨⟨_, _, rfl, .inl ⟨E.out, rfl⟩⟩, B6.out⟩
    · have hpe : (p.toList == []) = false := by
        rw [ByteArray.toList_eq]
        cases h : p.data.toList with
        | nil => exact absurd (.inl h) hp10
        | cons => rfl
      have hp0 : 0 < p.size := by
        rcases Nat.eq_zero_or_pos p.size with h | h
        · exact absurd (.inl (List.eq_nil_of_length_eq_zero (show p.data.toList.length = 0 by rw [Array.length_toList]; exact h))) hp10
        · exact h
      obtain ⟨K, hK⟩ : ∃ K, p.size = K + 1 := ⟨p.size - 1, by omega⟩
      have hpb : ∀ (h : K < p.size), (p[K]'h).toNat = bn p K := fun h => bn_eq p K h
      have h10 : ((bn p K : Int) == 10) = false := by
        cases h : ((bn p K : Int) == 10) with
        | false => rfl
        | true => exact absurd (.inr ((hlast K hK).2 h)) hp10
      have HP := Lib.hid hp10
      clear hp10 hlast
      go_wp2_with fail
      refine bodyPost_ret (v := .tuple #[.string ⟨#[]⟩, .int .i64 220]) (by simp [results, go_sem]) rfl ?_
      exact ⟨⟨_, _, rfl, .inr ⟨by unfold printN; rw [limOk4, HL.out, if_neg (by decide), if_pos (.inr HP.out)], rfl⟩⟩, B2.out⟩
end Go.Proofs.YtipddolkikhojaaDoor
