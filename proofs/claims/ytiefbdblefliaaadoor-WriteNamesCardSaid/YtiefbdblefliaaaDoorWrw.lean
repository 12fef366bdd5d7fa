/- The walk through write.row: terms behind one another, with commas between. -/
import Derived.Test.YtiefbdblefliaaaDoorWrv
namespace Go.Proofs.YtiefbdblefliaaaDoor
open Go.RowKit

/-- A row of terms in memory: given, or one's own. -/
def RwT (w : World) (S m : Nat) (f : Nat → T) (v : Value) : Prop :=
  ∃ A c, v = .slice A m c ∧ m ≤ c ∧ (A = none → c = 0) ∧ (0 < m → ∃ g o, A = some ⟨g, o, none⟩ ∧ g < w.heap.size ∧ (g < S ∨ ∃ cs, w.heap[g]? = some (.cells cs 24 (0, 0))) ∧
    ∀ i, i < m → ∃ (k0 k1 : Int) (k2 : ByteArray) (A0 : Option Addr) (m0 c0 : Nat), w.cell? ⟨g, o + i * 4, none⟩ = some (.int .i64 k0) ∧ w.cell? ⟨g, o + i * 4 + 1, none⟩ = some (.int .i64 k1) ∧ w.cell? ⟨g, o + i * 4 + 2, none⟩ = some (.string k2) ∧ w.cell? ⟨g, o + i * 4 + 3, none⟩ = some (.slice A0 m0 c0) ∧ GT w S (f i) (.agg #[.int .i64 k0, .int .i64 k1, .string k2, .slice A0 m0 c0]))
theorem RwT.kw {B S m : Nat} {f : Nat → T} {v : Value} {w w' : World} (h : RwT w S m f v) (hS : S ≤ B) (k : Kw B w w') : RwT w' S m f v := by
  obtain ⟨A, c, e, h1, h2, hx⟩ := h
  refine ⟨A, c, e, h1, h2, fun h0 => ?_⟩
  obtain ⟨g, o, rfl, hg, hor, hc⟩ := hx h0
  have key : ∀ j, w'.cell? ⟨g, j, none⟩ = w.cell? ⟨g, j, none⟩ := fun j => by
    rcases hor with h | ⟨cs, h⟩
    · exact k.low.cell (p := ⟨g, j, none⟩) (by show g < B; omega)
    · have h' := k.keep g cs _ _ h (by decide) (by decide)
      simp [World.cell?, h, h']
  refine ⟨g, o, rfl, Nat.lt_of_lt_of_le hg k.size, hor.imp id fun ⟨cs, h⟩ => ⟨cs, k.keep g cs _ _ h (by decide) (by decide)⟩, fun i hi => ?_⟩
  obtain ⟨k0, k1, k2, A0, m0, c0, d0, d1, d2, d3, ht⟩ := hc i hi
  exact ⟨k0, k1, k2, A0, m0, c0, (key _).trans d0, (key _).trans d1, (key _).trans d2, (key _).trans d3, ht.low hS k.low⟩
theorem GT.row {w : World} {S : Nat} {k n : Int} {s : ByteArray} {m : Nat} {a : Nat → T} {v0 v1 v2 : Value} {A : Option Addr} {m' c : Nat} (h : GT w S (.mk k n s m a) (.agg #[v0, v1, v2, .slice A m' c])) : RwT w S m a (.slice A m' c) := by
  have hsz := h.sz
  obtain ⟨_, _, _, rfl, hmc, hA, hx⟩ := h.args
  refine ⟨A, c, rfl, hmc, hA, fun h0 => ?_⟩
  obtain ⟨g, o, _, _, _, _, _, _, rfl, hg, hgl, _⟩ := hx 0 h0
  refine ⟨g, o, rfl, hgl, .inl hg, fun i hi => ?_⟩
  obtain ⟨g', o', k0, k1, k2, A0, m0, c0, e, _, _, d0, d1, d2, d3, ht⟩ := hx i hi
  injection e with e
  injection e with e1 e2
  subst e1; subst e2
  exact ⟨k0, k1, k2, A0, m0, c0, d0, d1, d2, d3, ht⟩
/-- What writer.term does with a term. -/
def WtC (nm : List ByteArray) (B b : Nat) (nv : Value) (S : Nat) (t : T) : Prop := ∀ (l : List UInt8) (v : Value) (W : World), GT W S t v → IsW B b nv (Lib.byteCells l) W → We B S nm nv W → l.length + (txB (nmV nm) t).1.length ≤ 1000000000000 →
  Calls Tryd.prog 19 #[.pointer (some ⟨b, 0, none⟩), v] W fun e w' => WrP B b nv (l ++ (txB (nmV nm) t).1) W e w'
set_option maxRecDepth 100000 in
set_option maxHeartbeats 8000000 in
theorem wrow_any {nm : List ByteArray} {B b S m : Nat} {nv : Value} {f : Nat → T} (hf : ∀ i, i < m → WtC nm B b nv S (f i)) (hm : m ≤ 100000) (v : Value) (l : List UInt8) (w : World) (h : IsW B b nv (Lib.byteCells l) w) (hE : We B S nm nv w) (hT : RwT w S m f v)
    (hl : l.length + (partB (fun i => (txB (nmV nm) (f i)).1) m).length ≤ 1000000000000) :
    Calls Tryd.prog 42 #[.pointer (some ⟨b, 0, none⟩), v] w fun e w' => WrP B b nv (l ++ partB (fun i => (txB (nmV nm) (f i)).1) m) w e w' := by
  have HW := Lib.hid h
  have HE := Lib.hid hE
  have HT := Lib.hid hT
  have HF := Lib.hid hf
  have hBl := h.le
  have hSB := hE.hS
  obtain ⟨F, hF⟩ : ∃ F : Nat → List UInt8, (fun i => (txB (nmV nm) (f i)).1) = F := ⟨_, rfl⟩
  have HFF := Lib.hid (fun i => congrFun hF i)
  rw [hF] at hl ⊢
  have HPB := Lib.hid (show ∀ i, i ≤ m → l.length + (partB F i).length ≤ 1000000000000 from fun i hi => by
    have := partB_mono F hi
    omega)
  obtain ⟨A, c, rfl, hmc, hA, _⟩ := hT
  clear h hE hl hF hf
  go_enter Tryd.func42, Tryd.ntmps42
  go_wp2_with fail
  go_loopw [8] (fun iv wr => ∃ (i : Nat), iv = .int .i64 (i : Int) ∧ i ≤ m ∧ Hid (IsW B b nv (Lib.byteCells (l ++ partB F i)) wr) ∧ Kw B w wr) (fun iv _ => m - (intOf iv).toNat)
  case atStart => exact ⟨0, rfl, Nat.zero_le _, Lib.hid (by simpa [partB] using HW.out), Kw.refl _ _⟩
  case round =>
    obtain ⟨i, rfl, hi, hw, hk⟩ := hrel
    have WR := Lib.hid hw.out
    have KR := Lib.hid hk
    have hbl := WR.out.lt
    clear hw hk
    by_cases him : i < m
    · have him' : (i : Int) < (m : Int) := by omega
      obtain ⟨_, _, e, _, _, hx⟩ := HT.out.kw hSB KR.out
      injection e with e1 _ e3
      subst e1; subst e3
      obtain ⟨g, o, rfl, hgl, _, hc⟩ := hx (by omega)
      obtain ⟨k0, k1, k2, A0, m0, c0, d0, d1, d2, d3, ht⟩ := hc i him
      have BA := Lib.hid (belA (Below.refl wr.heap.size wr) (Obj.cells #[.int .i64 k0, .int .i64 k1, .string k2, .slice A0 m0 c0] 24))
      have XB := Lib.hid (heap_alloc_new wr (Obj.cells #[.int .i64 k0, .int .i64 k1, .string k2, .slice A0 m0 c0] 24))
      have KA := Lib.hid (KR.out.on BA.out hBl)
      have WA := Lib.hid (WR.out.below BA.out)
      have EA := Lib.hid (HE.out.kw KA.out)
      have TA := Lib.hid (ht.below BA.out)
      have HL1 := Lib.hid (HPB.out (i + 1) him)
      clear hx hc ht
      cases i with
      | zero =>
        rw [Nat.zero_mul, Nat.add_zero] at d0 d1 d2 d3
        have C1 := Lib.hid (HF.out 0 him _ _ _ TA.out WA.out EA.out (by rw [HFF.out]; have := HL1.out; simp [partB, restB] at this ⊢; omega))
        go_wp2_with fail
        refine C1.out.mono ?_
        rintro e w5 ⟨rfl, h5, k5⟩
        have W5 := Lib.hid h5
        have K5 := Lib.hid k5
        clear h5 k5
        go_wp2_with fail
        go_roundw
        case rel => exact ⟨1, by go_num, him, Lib.hid (by have := W5.out; rw [HFF.out] at this; simpa [partB, restB] using this), KA.out.trans K5.out⟩
        case measure => simp [intOf]; omega
      | succ i =>
        have hpos : (0 : Int) < ((i : Int) + 1) := by omega
        have e44 : l ++ partB F (i + 1) ++ [44] ++ F (i + 1) = l ++ partB F (i + 2) := by rw [partB_succ]; simp
        have E44 := Lib.hid e44
        have hlen : (l ++ partB F (i + 1) ++ [44]).length + (F (i + 1)).length ≤ 1000000000000 := by rw [← List.length_append, e44, List.length_append]; exact HL1.out
        have HLE := Lib.hid hlen
        have C0 := Lib.hid (wrb_any B b nv _ [44] ⟨#[44]⟩ _ WA.out rfl (by have := hlen; simp only [List.length_append, List.length_cons, List.length_nil] at this ⊢; omega))
        clear e44 hlen
        go_wp2_with fail
        refine C0.out.mono ?_
        rintro e w4 ⟨rfl, h4, k4⟩
        have W4 := Lib.hid h4
        have K4 := Lib.hid k4
        have X4 := Lib.hid (k4.keep _ _ _ _ XB.out (by decide) (by decide))
        obtain ⟨y0, y1, y2, y3⟩ := box4t X4.out
        have hx4 := heap_lt X4.out
        have C1 := Lib.hid (HF.out (i + 1) him _ _ _ (TA.out.low hSB k4.low) h4 (EA.out.kw k4) (by rw [HFF.out]; exact HLE.out))
        clear h4 k4 C0
        go_wp2_with fail
        refine C1.out.mono ?_
        rintro e w5 ⟨rfl, h5, k5⟩
        have W5 := Lib.hid h5
        have K5 := Lib.hid k5
        clear h5 k5 C1 y0 y1 y2 y3
        go_wp2_with fail
        go_roundw
        case rel => exact ⟨i + 2, by go_num, him, Lib.hid (by have := W5.out; rw [HFF.out, E44.out] at this; exact this), (KA.out.trans K4.out).trans K5.out⟩
        case measure => simp [intOf]; omega
    · obtain rfl : i = m := by omega
      go_wp2_with fail
      go_end0
      exact ⟨rfl, WR.out, KR.out⟩
end Go.Proofs.YtiefbdblefliaaaDoor
