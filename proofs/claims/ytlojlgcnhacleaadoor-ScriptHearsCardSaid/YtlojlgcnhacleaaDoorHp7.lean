/- coneyref21: name, texts, masked. -/
import Derived.Test.YtlojlgcnhacleaaDoorHp1
import Derived.Deep.WholeRow
namespace Go.Proofs.YtlojlgcnhacleaaDoor
open Go.RowKit Go.Shelf
/-- A kind's word. -/
def nameI (k : Int) : ByteArray :=
  if k = 1 then ⟨#[97, 110, 115, 119, 101, 114]⟩ else if k = 2 then ⟨#[110, 111]⟩ else if k = 3 then ⟨#[101, 114, 114, 111, 114]⟩ else if k = 4 then ⟨#[98, 97, 100]⟩ else if k = 5 then ⟨#[102, 117, 101, 108]⟩
  else if k = 6 then ⟨#[114, 111, 111, 109]⟩ else if k = 7 then ⟨#[115, 116, 97, 99, 107]⟩ else if k = 8 then ⟨#[101, 110, 111, 117, 103, 104]⟩ else ⟨#[63]⟩
set_option maxHeartbeats 1600000 in
theorem rname_any (k : Int) (w : World) : Calls Tryd.prog 16 #[.int .i64 k] w fun e w' => e = .returned (.string (nameI k)) ∧ w' = w := by
  unfold nameI
  go_enter Tryd.func16, Tryd.ntmps16
  by_cases h1 : k = 1
  · subst h1; go_wp2; go_ret; exact ⟨rfl, rfl⟩
  have b1 : (k == 1) = false := by simp [h1]
  by_cases h2 : k = 2
  · subst h2; go_wp2; go_ret; exact ⟨rfl, rfl⟩
  have b2 : (k == 2) = false := by simp [h2]
  by_cases h3 : k = 3
  · subst h3; go_wp2; go_ret; exact ⟨rfl, rfl⟩
  have b3 : (k == 3) = false := by simp [h3]
  by_cases h4 : k = 4
  · subst h4; go_wp2; go_ret; exact ⟨rfl, rfl⟩
  have b4 : (k == 4) = false := by simp [h4]
  by_cases h5 : k = 5
  · subst h5; go_wp2; go_ret; exact ⟨rfl, rfl⟩
  have b5 : (k == 5) = false := by simp [h5]
  by_cases h6 : k = 6
  · subst h6; go_wp2; go_ret; exact ⟨rfl, rfl⟩
  have b6 : (k == 6) = false := by simp [h6]
  by_cases h7 : k = 7
  · subst h7; go_wp2; go_ret; exact ⟨rfl, rfl⟩
  have b7 : (k == 7) = false := by simp [h7]
  by_cases h8 : k = 8
  · subst h8; go_wp2; go_ret; exact ⟨rfl, rfl⟩
  have b8 : (k == 8) = false := by simp [h8]
  go_wp2
  go_ret
  exact ⟨rfl, rfl⟩
theorem rtexts_any (k : Int) (w : World) : Calls Tryd.prog 17 #[.int .i64 k] w fun e w' => e = .returned (.bool (k == 1 || k == 3 || k == 4)) ∧ w' = w := by
  go_enter Tryd.func17, Tryd.ntmps17
  by_cases h1 : k = 1
  · subst h1; go_wp2; go_ret; exact ⟨rfl, rfl⟩
  have b1 : (k == 1) = false := by simp [h1]
  by_cases h3 : k = 3
  · subst h3; go_wp2; go_ret; exact ⟨rfl, rfl⟩
  have b3 : (k == 3) = false := by simp [h3]
  go_wp2
  go_ret
  exact ⟨by simp [b1, b3], rfl⟩
theorem two_news {w : World} {g : Nat} {a b : Value} {t : TypeId} (h : w.heap[g]? = some (.cells #[a, b] t (0, 0))) : ∀ j u, ([a, b] : List Value)[j]? = some u → w.cell? ((⟨g, 0, none⟩ : Addr).add j) = some u := fun j u hj => by
  rw [Addr.add_mid, Nat.zero_add, cell_of_row w g j _ _ _ h]
  simpa using hj
set_option maxRecDepth 100000 in
theorem own_bytes {w : World} {B : Nat} {v : Value} {l : List UInt8} (h : w.ownsRow B 5 1 v l.length (u8s l)) : (convert 32 9 v).run Tryd.prog w = .ok (.string (ba l)) w := by
  obtain ⟨A, c, rfl, hc, hA, _, hx⟩ := own_open h
  rcases A with _ | ⟨b, off, sp⟩
  · have h0 := hA rfl
    obtain rfl : l = [] := List.eq_nil_of_length_eq_zero (by omega)
    exact run_convert_bytes_nil w 32 5 Tryd.underlying32 Tryd.underlying5 _ c 9 Tryd.underlying9
  · rcases h.2 with ⟨he, _⟩ | ⟨g, cap, cur, he, _, hh, _, _, _, ht⟩
    · cases he
    · injection he with he _ _
      injection he with he
      injection he with h1 h2 h3
      subst h1 h2 h3
      have := run_convert_bytes_arg w 32 5 Tryd.underlying32 Tryd.underlying5 b 0 l.length c (l.map fun c => (c.toNat : Int)) (by simp) (fun i hi => ?_) 9 Tryd.underlying9
      · rw [this, strOfNums_bytes]
      · have h1 : (cur.toList.take (l.length * 1))[i]? = (u8s l)[i]? := by rw [ht]
        rw [List.getElem?_take, if_pos (by omega), Array.getElem?_toList] at h1
        rw [cell_of_row w b (0 + i) _ _ _ hh, Nat.zero_add, h1]
        simp [u8s, List.getElem?_eq_getElem hi, List.getD_eq_getElem?_getD]
theorem u8s_app (a b : List UInt8) : u8s (a ++ b) = u8s a ++ u8s b := by simp [u8s]
theorem hits_pre (s : ByteArray) (k : Nat) : (maskL (s.data.toList.take k)).length ≤ 2 * s.size := by
  have h1 := mask_len (s.data.toList.take k)
  have h2 : (s.data.toList.take k).length ≤ s.size := by
    have : s.data.toList.length = s.size := Array.length_toList
    rw [List.length_take]; omega
  omega
theorem own_as {w : World} {B n n' : Nat} {e : TypeId} {v : Value} {xs ys : List Value} (h : w.ownsRow B e 1 v n xs) (hn : n = n') (hx : xs = ys) : w.ownsRow B e 1 v n' ys := by subst hn hx; exact h
set_option maxRecDepth 100000 in
set_option maxHeartbeats 4000000 in
theorem rmasked_any (s : ByteArray) (hs : s.size ≤ 100000000) (w : World) : Calls Tryd.prog 18 #[.string s] w fun e w' => e = .returned (.string (ba (maskL s.data.toList))) ∧ Below w.heap.size w w' := by
  obtain ⟨i0, hi, hz0, hz1, hz2⟩ := elU8.hi
  go_enter Tryd.func18, Tryd.ntmps18
  go_wp2
  go_loopw [3, 4] (fun bv iv wr => ∃ k : Nat, k ≤ s.size ∧ iv = .int .i64 (k : Int) ∧ Hid (wr.ownsRow w.heap.size 5 1 bv (maskL (s.data.toList.take k)).length (u8s (maskL (s.data.toList.take k)))) ∧ Below w.heap.size w wr) (fun _ iv _ => s.size - (intOf iv).toNat)
  case atStart => exact ⟨0, by omega, rfl, ownsRow_more (ownsRow_empty _ _ _ _ (heap_alloc_last w _)) (Nat.le_refl _), (Below.refl _ _).alloc (Nat.le_refl _) _⟩
  case round =>
    obtain ⟨k, hk, rfl, hO, hB⟩ := hrel
    rcases Nat.lt_or_ge k s.size with hkl | hkl
    · have hT : s.data.toList.take (k + 1) = s.data.toList.take k ++ [s[k]'hkl] := by
        rw [List.take_add_one, List.getElem?_eq_getElem (by simpa using hkl)]
        rfl
      have HT := Lib.hid hT
      have HPre := Lib.hid (hits_pre s k)
      have HSz := Lib.hid hB.size
      clear hT
      by_cases h1 : (s[k]'hkl) = 92
      · have e1 : (((s[k]'hkl).toNat : Int) == 92) = true := by rw [h1]; rfl
        have e2 : (((s[k]'hkl).toNat : Int) == 10) = false := by rw [h1]; rfl
        have hm : maskL [s[k]'hkl] = [92, 92] := by rw [h1]; rfl
        have HM := Lib.hid hm
        clear hm h1
        go_wp2_with (at_builtin; go_must (refine wpList_append_own _ rfl _ _ 32 rfl w.heap.size 5 i0 (.int .u8 0) 1 1 Tryd.underlying32 hi hz0 hz1 hz2 rfl (by decide) _ _ _ rfl (hO.out.alloc _) ⟨wr.heap.size, 0, none⟩ 2 2 [.int .u8 92, .int .u8 92] rfl rfl (two_news (heap_alloc_last _ _)) (by intro u hu; simp at hu; rcases hu with rfl | rfl <;> rfl) (by have := HPre.out; unfold maxLen; omega) (by have := HPre.out; omega) (by have := HSz.out; simp; omega) ?_; intro v1 w1 hown1 hgr1 _))
        go_roundw
        case rel => exact ⟨k + 1, by omega, by go_num, own_as hown1 (by rw [HT.out, mask_app, HM.out]; simp) (by rw [HT.out, mask_app, HM.out, u8s_app]; simp [u8s]), (hB.alloc HSz.out _).grown hgr1 (by have := HSz.out; simp; omega) (ownBlock_ge hO.out)⟩
        case measure => simp [intOf]; omega
      · by_cases h2 : (s[k]'hkl) = 10
        · have e1 : (((s[k]'hkl).toNat : Int) == 92) = false := by rw [h2]; rfl
          have e2 : (((s[k]'hkl).toNat : Int) == 10) = true := by rw [h2]; rfl
          have hm : maskL [s[k]'hkl] = [92, 110] := by rw [h2]; rfl
          have HM := Lib.hid hm
          clear hm h2
          go_wp2_with (at_builtin; go_must (refine wpList_append_own _ rfl _ _ 32 rfl w.heap.size 5 i0 (.int .u8 0) 1 1 Tryd.underlying32 hi hz0 hz1 hz2 rfl (by decide) _ _ _ rfl (hO.out.alloc _) ⟨wr.heap.size, 0, none⟩ 2 2 [.int .u8 92, .int .u8 110] rfl rfl (two_news (heap_alloc_last _ _)) (by intro u hu; simp at hu; rcases hu with rfl | rfl <;> rfl) (by have := HPre.out; unfold maxLen; omega) (by have := HPre.out; omega) (by have := HSz.out; simp; omega) ?_; intro v1 w1 hown1 hgr1 _))
          go_roundw
          case rel => exact ⟨k + 1, by omega, by go_num, own_as hown1 (by rw [HT.out, mask_app, HM.out]; simp) (by rw [HT.out, mask_app, HM.out, u8s_app]; simp [u8s]), (hB.alloc HSz.out _).grown hgr1 (by have := HSz.out; simp; omega) (ownBlock_ge hO.out)⟩
          case measure => simp [intOf]; omega
        · have e1 : (((s[k]'hkl).toNat : Int) == 92) = false := by
            rw [beq_eq_false_iff_ne]
            exact fun e => h1 (UInt8.toNat_inj.1 (by simpa using (Int.ofNat.inj e)))
          have e2 : (((s[k]'hkl).toNat : Int) == 10) = false := by
            rw [beq_eq_false_iff_ne]
            exact fun e => h2 (UInt8.toNat_inj.1 (by simpa using (Int.ofNat.inj e)))
          have hm : hitL (s[k]'hkl) = false := by simp [hitL, h1, h2]
          have HM := Lib.hid hm
          clear hm h1 h2
          go_wp2_with (at_builtin; go_must (refine wpList_push _ rfl _ _ _ rfl elU8 w.heap.size _ _ _ rfl (hO.out.alloc _) _ _ (.int .u8 ((s[k]'hkl).toNat : Int)) rfl (by simp [go_sem]) rfl (by have := HPre.out; omega) (by have := HPre.out; unfold maxLen; omega) (by have := HSz.out; simp; omega) ?_; intro v1 w1 hown1 hb1))
          go_roundw
          case rel => exact ⟨k + 1, by omega, by go_num, own_as hown1 (by rw [HT.out, mask_app, mask_miss HM.out]; simp [maskL]) (by rw [HT.out, mask_app, mask_miss HM.out, u8s_app]; simp [maskL, u8s]), (hB.alloc HSz.out _).trans hb1⟩
          case measure => simp [intOf]; omega
    · obtain rfl : k = s.size := by omega
      have hS : s.data.toList.take s.size = s.data.toList := List.take_of_length_le (by have : s.data.toList.length = s.size := Array.length_toList
                                                                                        omega)
      have hcv := own_bytes hO.out
      rw [hS] at hcv
      go_wp2
      go_ret
      exact ⟨rfl, hB⟩
end Go.Proofs.YtlojlgcnhacleaaDoor
