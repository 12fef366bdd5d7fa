/- strings' byteStringReplacer: its table laid, its Replace. -/
import Derived.Test.YtlojlgcnhacleaaDoorHr0
import Derived.Test.YtlojlgcnhacleaaDoorLi
import Derived.Test.YtlojlgcnhacleaaDoorRow
import Derived.Test.YtlojlgcnhacleaaDoorShelf
import Derived.Laws.CopyOwn
import Derived.BigRegion
import Derived.OwnWalk
import Derived.Deep.CutBlock
import Derived.Deep.DeepCutAuto
import Derived.Deep.RegionHeld
import Derived.WalkSpells
namespace Go.Proofs.YtlojlgcnhacleaaDoor
open Go.RowKit Go.Shelf

def hitL (c : UInt8) : Bool := c == 92 || c == 10
def maskC (c : UInt8) : UInt8 := if c = 92 then 92 else 110
theorem mask_hit {c : UInt8} (h : hitL c = true) (l : List UInt8) : maskL (c :: l) = 92 :: maskC c :: maskL l := by
  rw [maskL]
  unfold maskC
  by_cases h1 : c = 92
  · rw [if_pos h1, if_pos h1]
  · have h2 : c = 10 := by simpa [hitL, h1] using h
    rw [if_neg h1, if_neg h1, if_pos h2]
theorem mask_miss {c : UInt8} (h : hitL c = false) (l : List UInt8) : maskL (c :: l) = c :: maskL l := by
  have h' : ¬c = 92 ∧ ¬c = 10 := by simpa [hitL] using h
  rw [maskL, if_neg h'.1, if_neg h'.2]
theorem mask_app : ∀ a b : List UInt8, maskL (a ++ b) = maskL a ++ maskL b
  | [], _ => rfl
  | c :: a, b => by
    rw [List.cons_append]
    cases h : hitL c with
    | true => rw [mask_hit h, mask_hit h, mask_app a b]; rfl
    | false => rw [mask_miss h, mask_miss h, mask_app a b]; rfl
def hitsL (l : List UInt8) : Nat := (l.filter hitL).length
theorem hits_mask : ∀ l : List UInt8, (maskL l).length = l.length + hitsL l
  | [] => rfl
  | c :: l => by
    have := hits_mask l
    cases h : hitL c with
    | true => rw [mask_hit h]; simp only [hitsL, List.filter_cons, h, if_true, List.length_cons] at this ⊢; omega
    | false => rw [mask_miss h]; simp only [hitsL, List.filter_cons, h, List.length_cons] at this ⊢; simp; omega
theorem hits_app (a b : List UInt8) : hitsL (a ++ b) = hitsL a + hitsL b := by simp [hitsL]
theorem hits_none : ∀ {l : List UInt8}, hitsL l = 0 → maskL l = l
  | [], _ => rfl
  | c :: l, h => by
    cases hc : hitL c with
    | true => simp [hitsL, hc] at h
    | false => rw [mask_miss hc, hits_none (l := l) (by simpa [hitsL, hc] using h)]
theorem hits_le (l : List UInt8) : hitsL l ≤ l.length := List.length_filter_le _ _
theorem hits_count : ∀ l : List UInt8, hitsL l = Lib.countByte l 10 + Lib.countByte l 92
  | [] => rfl
  | c :: l => by
    have := hits_count l
    simp only [hitsL, Lib.countByte, List.filter_cons, List.count_cons] at this ⊢
    by_cases h1 : c = 92
    · subst h1
      simp [hitL] at this ⊢
      omega
    · by_cases h2 : c = 10
      · subst h2
        simp [hitL] at this ⊢
        omega
      · simp [hitL, h1, h2] at this ⊢
        omega
theorem count_le (l : List UInt8) (c : UInt8) : Lib.countByte l c ≤ l.length := List.count_le_length
theorem lit10 : ((⟨#[10]⟩ : ByteArray)[0]'(by decide)).toNat = 10 := rfl
theorem lit92 : ((⟨#[92]⟩ : ByteArray)[0]'(by decide)).toNat = 92 := rfl
attribute [local go_sem] lit10 lit92
theorem bneq_nil (w : World) (a : Option Addr) (n c : Nat) : (binOp .neq 32 (.slice a n c) (.slice none 0 0)).run Tryd.prog w = .ok (.bool (!a.isNone)) w := run_neq_slice_nil_any w _ _ a n c 0 0 Tryd.underlying32
attribute [local go_sem] bneq_nil
theorem own_cur {w : World} {base : Nat} {e : TypeId} {g n c : Nat} {xs : List Value} (h : w.ownsRow base e 1 (.slice (some ⟨g, 0, none⟩) n c) n xs) : ∃ cur, w.heap[g]? = some (.cells cur e (0, 0)) ∧ cur.size = c := by
  rcases h.2 with ⟨h2, _⟩ | ⟨g', cap, cur, hv, _, hh, _, _, hs, _⟩
  · cases h2
  · injection hv with e1 e2 e3
    injection e1 with e1
    injection e1 with e1
    subst e1 e3
    exact ⟨cur, hh, by omega⟩
theorem take_splice {α : Type} (L : List α) (off : Nat) (cs : List α) (h : off ≤ L.length) : (splice L off cs).take (off + cs.length) = L.take off ++ cs := by
  have h1 : (L.take off).length = off := by simp; omega
  have h2 : splice L off cs = (L.take off ++ cs) ++ L.drop (off + cs.length) := by simp [splice]
  rw [h2, List.take_left' (by simp; omega)]
theorem take_set1 {α : Type} : ∀ (R : List α) (i : Nat) (v : α), i < R.length → (R.set i v).take (i + 1) = R.take i ++ [v]
  | [], i, v, h => absurd h (by simp)
  | x :: R, 0, v, h => rfl
  | x :: R, i + 1, v, h => by simp [List.set, take_set1 R i v (by simpa using h)]
theorem strOfNums_bytes (b : List UInt8) : strOfNums (b.map fun c => (c.toNat : Int)) = ba b := by
  unfold strOfNums ba
  simp [Function.comp_def]
def u8s (l : List UInt8) : List Value := l.map fun c => .int .u8 (c.toNat : Int)
theorem cell_lt {w : World} {p : Addr} {v : Value} (h : w.cell? p = some v) : p.block < w.heap.size := World.block_lt_of_cell? w p h
/-- A table that masks, laid. -/
structure RpX (w : World) (b : Nat) : Prop where
  hit : ∀ c : UInt8, hitL c = true → ∃ g cc, w.cell? ⟨b, c.toNat, none⟩ = some (.slice (some ⟨g, 0, none⟩) 2 cc) ∧ 2 ≤ cc ∧ w.cell? ⟨g, 0, none⟩ = some (.int .u8 92) ∧ w.cell? ⟨g, 1, none⟩ = some (.int .u8 (maskC c).toNat)
  miss : ∀ c : UInt8, hitL c = false → w.cell? ⟨b, c.toNat, none⟩ = some (.slice none 0 0)
  row : ∃ z cc, w.cell? ⟨b, 256, none⟩ = some (.slice (some ⟨z, 0, none⟩) 2 cc) ∧ 2 ≤ cc ∧ w.cell? ⟨z, 0, none⟩ = some (.string ⟨#[10]⟩) ∧ w.cell? ⟨z, 1, none⟩ = some (.string ⟨#[92]⟩)
set_option maxRecDepth 100000 in
set_option maxHeartbeats 4000000 in
theorem breplace_any (s : ByteArray) (hs : s.size ≤ 100000000) (b : Nat) (w : World) (h : RpX w b) : Calls Tryd.prog 99 #[.pointer (some ⟨b, 0, none⟩), .string s] w fun e w' =>
    e = .returned (.string (ba (maskL s.data.toList))) ∧ Below w.heap.size w w' := by
  obtain ⟨z, cz, hz, hcz, hz0, hz1⟩ := h.row
  have hH := Lib.hid h
  clear h
  have hsz : s.data.toList.length = s.size := Array.length_toList
  go_enter Tryd.func99, Tryd.ntmps99
  have hpb : b < w.heap.size := cell_lt hz
  go_upto_if 26 with fail
  go_cut [5, 6] (fun nv av wx => nv = .int .i64 ((s.size + hitsL s.data.toList : Nat) : Int) ∧ av = .bool (decide (0 < hitsL s.data.toList)) ∧ Below w.heap.size w wx)
  case first =>
    by_cases h16 : (16 : Int) ≤ (s.size : Int)
    · have h16d : decide ((16 : Int) ≤ (s.size : Int)) = true := decide_eq_true h16
      have hc1 := count_le s.data.toList 10
      have hc2 := count_le s.data.toList 92
      rw [hsz] at hc1 hc2
      have hcs := hits_count s.data.toList
      obtain ⟨c1, e1⟩ : ∃ c1, Lib.countByte s.data.toList 10 = c1 := ⟨_, rfl⟩
      obtain ⟨c2, e2⟩ : ∃ c2, Lib.countByte s.data.toList 92 = c2 := ⟨_, rfl⟩
      rw [e1, e2] at hcs
      rw [e1] at hc1
      rw [e2] at hc2
      have E1 := Lib.hid e1
      have E2 := Lib.hid e2
      clear e1 e2
      go_wp2
      simp only [h16d]
      go_loopw [5, 6, 32] (fun nv av iv wr => Below w.heap.size w wr ∧ ((nv = .int .i64 (s.size : Int) ∧ av = .bool false ∧ iv = .int .i64 0) ∨ (nv = .int .i64 ((s.size + c1 : Nat) : Int) ∧ av = .bool (decide (c1 ≠ 0)) ∧ iv = .int .i64 1) ∨ (nv = .int .i64 ((s.size + hitsL s.data.toList : Nat) : Int) ∧ av = .bool (decide (0 < hitsL s.data.toList)) ∧ iv = .int .i64 2))) (fun _ _ iv _ => 2 - (intOf iv).toNat)
      case atStart => exact ⟨.refl _ _, .inl ⟨rfl, rfl, rfl⟩⟩
      case round =>
        obtain ⟨hB, hh⟩ := hrel
        rcases hh with ⟨rfl, rfl, rfl⟩ | ⟨rfl, rfl, rfl⟩ | ⟨rfl, rfl, rfl⟩
        · have h0 := (hB.cell (p := ⟨z, 0, none⟩) (cell_lt hz0)).trans hz0
          obtain ⟨g, cc, hg, hcc, -, -⟩ := hH.out.hit 10 rfl
          have hg' := (hB.cell (p := ⟨b, 10, none⟩) hpb).trans hg
          clear hg
          have CC : Calls Tryd.prog 101 #[.string s, .string ⟨#[10]⟩] wr fun e w' => e = .returned (.int .i64 (c1 : Int)) ∧ w' = wr := by
            have := Tryd.strings_Count_one s 10 wr
            rw [E1.out] at this
            exact this
          by_cases hc0 : c1 = 0
          · subst hc0
            go_wp2_with (go_at_call 101; refine CC.mono ?_; rintro e w' ⟨rfl, rfl⟩)
            go_roundw
            case rel => exact ⟨hB, .inr (.inl ⟨by simp, by simp, rfl⟩)⟩
            case measure => decide
          · have hcn : ((c1 : Int) != 0) = true := by simp; omega
            go_wp2_with (go_at_call 101; refine CC.mono ?_; rintro e w' ⟨rfl, rfl⟩)
            go_region
            all_goals (go_wp2; go_roundw)
            all_goals first
              | exact ⟨hB.drew, .inr (.inl ⟨by go_num, by simp [hc0], rfl⟩)⟩
              | (simp [intOf]; done)
        · have h0 := (hB.cell (p := ⟨z, 1, none⟩) (cell_lt hz1)).trans hz1
          obtain ⟨g, cc, hg, hcc, -, -⟩ := hH.out.hit 92 rfl
          have hg' := (hB.cell (p := ⟨b, 92, none⟩) hpb).trans hg
          clear hg
          have CC : Calls Tryd.prog 101 #[.string s, .string ⟨#[92]⟩] wr fun e w' => e = .returned (.int .i64 (c2 : Int)) ∧ w' = wr := by
            have := Tryd.strings_Count_one s 92 wr
            rw [E2.out] at this
            exact this
          by_cases hc0 : c2 = 0
          · subst hc0
            go_wp2_with (go_at_call 101; refine CC.mono ?_; rintro e w' ⟨rfl, rfl⟩)
            go_roundw
            case rel => exact ⟨hB, .inr (.inr ⟨by rw [hcs]; go_num, by simp [show (0 < hitsL s.data.toList) ↔ ¬c1 = 0 from by omega], rfl⟩)⟩
            case measure => decide
          · have hcn : ((c2 : Int) != 0) = true := by simp; omega
            go_wp2_with (go_at_call 101; refine CC.mono ?_; rintro e w' ⟨rfl, rfl⟩)
            go_region
            all_goals (go_wp2; go_roundw)
            all_goals first
              | exact ⟨hB.drew, .inr (.inr ⟨by rw [hcs]; go_num, by simp [show 0 < hitsL s.data.toList from by omega], rfl⟩)⟩
              | (simp [intOf]; done)
        · go_wp2
          go_meet
          case rel => exact ⟨rfl, rfl, hB⟩
    · have h16d : decide ((16 : Int) ≤ (s.size : Int)) = false := decide_eq_false h16
      go_wp2
      go_loopw [5, 6, 10] (fun nv av iv wr => ∃ k h : Nat, k ≤ s.size ∧ h ≤ k ∧ iv = .int .i64 (k : Int) ∧ nv = .int .i64 ((s.size + h : Nat) : Int) ∧ av = .bool (decide (0 < h)) ∧ Hid (hitsL (s.data.toList.take k) = h) ∧ Below w.heap.size w wr) (fun _ _ iv _ => s.size - (intOf iv).toNat)
      case atStart => exact ⟨0, 0, by omega, by omega, rfl, by simp, rfl, rfl, .refl _ _⟩
      case round =>
        obtain ⟨k, h, hk, hh, rfl, rfl, rfl, hH1, hB⟩ := hrel
        rcases Nat.lt_or_ge k s.size with hkl | hkl
        · have hlt : (s[k]'hkl).toNat < 256 := UInt8.toNat_lt _
          have hT : s.data.toList.take (k + 1) = s.data.toList.take k ++ [s[k]'hkl] := by
            rw [List.take_add_one, List.getElem?_eq_getElem (by omega)]
            rfl
          have HT := Lib.hid hT
          clear hT
          cases hc : hitL (s[k]'hkl) with
          | true =>
            obtain ⟨g, cc, hg, hcc, -, -⟩ := hH.out.hit _ hc
            have hg' := (hB.cell (p := ⟨b, (s[k]'hkl).toNat, none⟩) hpb).trans hg
            clear hg
            have HC := Lib.hid hc
            clear hc
            go_wp2
            go_roundw
            case rel => exact ⟨k + 1, h + 1, by omega, by omega, by go_num, by go_num, by simp, (show _ = _ by rw [HT.out, hits_app, hH1.out]; simp [hitsL, HC.out]), hB⟩
            case measure => simp [intOf]; omega
          | false =>
            have hg := hH.out.miss _ hc
            have hg' := (hB.cell (p := ⟨b, (s[k]'hkl).toNat, none⟩) hpb).trans hg
            clear hg
            have HC := Lib.hid hc
            clear hc
            go_wp2
            go_roundw
            case rel => exact ⟨k + 1, h, by omega, by omega, by go_num, by go_num, rfl, (show _ = _ by rw [HT.out, hits_app, hH1.out]; simp [hitsL, HC.out]), hB⟩
            case measure => simp [intOf]; omega
        · go_wp2
          go_meet
          case rel =>
            obtain rfl : k = s.size := by omega
            have := hH1.out
            rw [List.take_of_length_le (by omega)] at this
            exact ⟨by rw [this], by rw [this], hB⟩
  case rest =>
    obtain ⟨rfl, rfl, hB⟩ := hcut
    by_cases h0 : hitsL s.data.toList = 0
    · have h0d : decide (0 < hitsL s.data.toList) = false := by simp [h0]
      go_wp2
      go_ret
      exact ⟨by rw [hits_none h0]; rfl, hB⟩
    have h0d : decide (0 < hitsL s.data.toList) = true := by simp; omega
    obtain ⟨i0, hi1, hi2, hi3, hi4⟩ := info_parts Tryd.info_u8
    have hle := hits_le s.data.toList
    obtain ⟨N, hN⟩ : ∃ N, N = s.size + hitsL s.data.toList := ⟨_, rfl⟩
    rw [← hN]
    have hNl : N ≤ 200000000 := by omega
    have HN := Lib.hid hN
    clear hN
    go_wp2_with (at_make; go_must (refine wpList_make_full _ rfl _ _ _ rfl wc.heap.size 5 _ (.int .u8 0) 1 Tryd.underlying32 hi1 hi2 hi3 _ _ _ _ N rfl rfl (by go_num) (by go_num) (by rw [hi4]; omega) (by unfold maxLen; omega) (Nat.le_refl _) ?_; intro w2 hown hgr))
    obtain ⟨cur, hw2, hcur⟩ := own_cur hown
    have hB2 : Below w.heap.size w w2 := hB.grown hgr hB.size (fun g e => by cases e)
    have hGs := hB.size
    obtain ⟨G, hG⟩ : ∃ G, G = wc.heap.size := ⟨_, rfl⟩
    rw [← hG] at hw2 hGs
    simp only [← hG]
    have HW2 := Lib.hid hw2
    clear hw2 hown hgr hG
    go_loopw [13, 14] (fun mv iv wr => ∃ (k h : Nat) (R : List Value), k ≤ s.size ∧ h ≤ k ∧ iv = .int .i64 (k : Int) ∧ mv = .int .i64 ((k + h : Nat) : Int) ∧ Hid (hitsL (s.data.toList.take k) = h) ∧ Hid (wr.heap[G]? = some (.cells R.toArray 5 (0, 0))) ∧ Hid (R.length = N) ∧ Hid (R.take (k + h) = u8s (maskL (s.data.toList.take k))) ∧ Below w.heap.size w wr) (fun _ iv _ => s.size - (intOf iv).toNat)
    case atStart => exact ⟨0, 0, cur.toList, by omega, by omega, rfl, rfl, rfl, Lib.hid (by simpa using HW2.out), Lib.hid (by simpa using hcur), rfl, hB2⟩
    case round =>
      obtain ⟨k, h, R, hk, hh, rfl, rfl, hH1, hRb, hRl, hRt, hB3⟩ := hrel
      rcases Nat.lt_or_ge k s.size with hkl | hkl
      · have hlt : (s[k]'hkl).toNat < 256 := UInt8.toNat_lt _
        have hT : s.data.toList.take (k + 1) = s.data.toList.take k ++ [s[k]'hkl] := by
          rw [List.take_add_one, List.getElem?_eq_getElem (by omega)]
          rfl
        have HT := Lib.hid hT
        have hsum : hitsL s.data.toList = hitsL (s.data.toList.take (k + 1)) + hitsL (s.data.toList.drop (k + 1)) := by rw [← hits_app, List.take_append_drop]
        rw [hT, hits_app, hH1.out] at hsum
        clear hT
        cases hc : hitL (s[k]'hkl) with
        | true =>
          obtain ⟨g, cc, hg, hcc, hg0, hg1⟩ := hH.out.hit _ hc
          have hg' := (hB3.cell (p := ⟨b, (s[k]'hkl).toNat, none⟩) hpb).trans hg
          have hg0' := (hB3.cell (p := ⟨g, 0, none⟩) (cell_lt hg0)).trans hg0
          have hg1' := (hB3.cell (p := ⟨g, 1, none⟩) (cell_lt hg1)).trans hg1
          clear hg hg0 hg1
          have h1 : hitsL [s[k]'hkl] = 1 := by simp [hitsL, hc]
          rw [h1] at hsum
          have hN := HN.out
          have hr0 : (k : Int) + (h : Int) < (N : Int) := by omega
          have hr1 : (k : Int) + (h : Int) ≤ (N : Int) := by omega
          have hr2 : 0 ≤ (k : Int) + (h : Int) := by omega
          have hr3 : k + h + 1 + 1 ≤ N := by omega
          clear hsum hN
          have HC := Lib.hid hc
          have h1' := Lib.hid h1
          clear hc h1
          have hltI : (((s[k]'hkl).toNat : Nat) : Int) < 256 := by omega
          go_wp2
          obtain ⟨cs, hcs⟩ : ∃ cs : List Value, cs = [.int .u8 92, .int .u8 (maskC (s[k]'hkl)).toNat] := ⟨_, rfl⟩
          have hlen : cs.length = 2 := by rw [hcs]; rfl
          have hkh : ((k : Int) + (h : Int)).toNat = k + h := by omega
          have hn28 := Lib.hid (show cs.length = Nat.min 2 (N - ((k : Int) + (h : Int)).toNat) by rw [hlen, hkh]; show 2 = min 2 (N - (k + h)); omega)
          have hpos28 := Lib.hid (show 0 < cs.length → (if N = ((k : Int) + (h : Int)).toNat then some ({ block := G, off := 0 } : Addr) else some { block := G, off := ((k : Int) + (h : Int)).toNat }) = some { block := G, off := k + h } ∧ ∃ ad, some ({ block := g, off := 0 } : Addr) = some ad ∧ ∀ (j : Nat) (v : Value), cs[j]? = some v → wr.drew.cell? (ad.add j) = some v from fun _ => by
            refine ⟨by rw [hkh, if_neg (by omega)], _, rfl, fun j v hv => ?_⟩
            rw [Addr.add_mid, Nat.zero_add]
            rw [hcs] at hv
            rcases j with _ | _ | j
            · injection hv with hv
              subst hv
              exact hg0'
            · injection hv with hv
              subst hv
              exact hg1'
            · simp at hv)
          have hfit28 := Lib.hid (show k + h + cs.length ≤ R.length by rw [hlen, hRl.out]; omega)
          have hone28 := Lib.hid (show ∀ v ∈ cs, v.oneCell' = true by
            intro v hv
            rw [hcs] at hv
            rcases List.mem_cons.1 hv with rfl | hv
            · rfl
            · obtain rfl := List.mem_singleton.1 hv
              rfl)
          have hwr : IntKind.i64.wrap ((k : Int) + (h : Int) + (cs.length : Int)) = (k : Int) + (h : Int) + 2 := by rw [hlen]; show IntKind.i64.wrap ((k : Int) + (h : Int) + 2) = _; rw [IntKind.wrap_i64]; omega
          have HL := Lib.hid hlen
          have HS := Lib.hid hcs
          clear hlen hkh hcs
          go_region_law (refine step_copy_splice rfl (.tmp 105) (.tmp 111) _ _ rfl 5 Tryd.underlying32 (by kernel_rfl) _ _ _ _ _ _ rfl rfl G (k + h) R _ hRb.out cs hn28.out hpos28.out hfit28.out hone28.out w.heap.size w hB3.drew hGs ?_; intro w4 hg4 hb4)
          go_wp2
          go_roundw
          case rel =>
            have hcs := HS.out
            have h2 := HL.out
            have hl := hRl.out
            have hlt : k + h ≤ R.length := by rw [hl]; omega
            refine ⟨k + 1, h + 1, splice R (k + h) cs, by omega, by omega, by go_num, by go_num, (show _ = _ by rw [HT.out, hits_app, hH1.out, h1'.out]), hg4, (show _ = _ by rw [length_splice _ _ _ hfit28.out, hl]), (show _ = _ from ?_), hb4⟩
            rw [show k + 1 + (h + 1) = k + h + cs.length by omega, take_splice _ _ _ hlt, hRt.out, HT.out, mask_app, mask_hit HC.out, hcs]
            simp [u8s, maskL]
          case measure => simp [intOf]; omega
        | false =>
          have hg := hH.out.miss _ hc
          have hg' := (hB3.cell (p := ⟨b, (s[k]'hkl).toNat, none⟩) hpb).trans hg
          clear hg
          have h1 : hitsL [s[k]'hkl] = 0 := by simp [hitsL, hc]
          rw [h1] at hsum
          have hN := HN.out
          have hr0 : (k : Int) + (h : Int) < (N : Int) := by omega
          have hr1 : (k : Int) + (h : Int) ≤ (N : Int) := by omega
          have hr2 : 0 ≤ (k : Int) + (h : Int) := by omega
          have hr3 : k + h + 1 + 0 ≤ N := by omega
          clear hsum hN
          have HC := Lib.hid hc
          have h1' := Lib.hid h1
          clear hc h1
          have hRl' : k + h < R.length := by rw [hRl.out]; omega
          have hcl := cell_of_row wr G (k + h) _ _ _ hRb.out
          rw [List.getElem?_toArray, List.getElem?_eq_getElem hRl'] at hcl
          have hfz : wr.frozen? ⟨G, k + h, none⟩ = false := by simp [World.frozen?, hRb.out]
          go_wp2
          go_roundw
          case rel =>
            have hl := hRl.out
            refine ⟨k + 1, h, R.set (k + h) (.int .u8 ((s[k]'hkl).toNat : Int)), by omega, by omega, by go_num, by go_num, (show _ = _ by rw [HT.out, hits_app, hH1.out, h1'.out, Nat.add_zero]), (show _ = _ by simpa using blk_set hRb.out (k + h) (.int .u8 ((s[k]'hkl).toNat : Int))), (show _ = _ by rw [List.length_set, hl]), (show _ = _ from ?_), hB3.setCell (p := ⟨G, k + h, none⟩) hGs _⟩
            rw [show k + 1 + h = k + h + 1 by omega, take_set1 R _ _ hRl', hRt.out, HT.out, mask_app, mask_miss HC.out]
            simp [u8s, maskL]
          case measure => simp [intOf]; omega
      · obtain rfl : k = s.size := by omega
        have h1 := hH1.out
        have h2 := hRt.out
        have h3 := hRl.out
        have hN := HN.out
        have hS : s.data.toList.take s.size = s.data.toList := List.take_of_length_le (by omega)
        rw [hS] at h1 h2
        subst h1
        rw [List.take_of_length_le (by omega)] at h2
        have hcv : (convert 32 9 (.slice (some ⟨G, 0, none⟩) N N)).run Tryd.prog wr = .ok (.string (ba (maskL s.data.toList))) wr := by
          have := run_convert_bytes_arg wr 32 5 Tryd.underlying32 Tryd.underlying5 G 0 N N ((maskL s.data.toList).map fun c => (c.toNat : Int)) (by rw [← h3, h2]; simp [u8s]) (fun i hi => ?_) 9 Tryd.underlying9
          · rw [this, strOfNums_bytes]
          · rw [cell_of_row wr G (0 + i) _ _ _ hRb.out, Nat.zero_add, h2]
            have hi' : i < (maskL s.data.toList).length := by rw [h2] at h3; simp [u8s] at h3; omega
            simp [u8s, List.getElem?_eq_getElem hi', List.getD_eq_getElem?_getD]
        clear h2 h3 hN
        go_wp2
        go_ret
        exact ⟨rfl, hB3⟩
end Go.Proofs.YtlojlgcnhacleaaDoor
