/- The program's lexer: the deferred closure of Tokens, which recovers. The program's lexer: the tokens of a text. -/
import Derived.Test.YtibcpdmeigdgpaaGreatDoorKHq
import Derived.Tactics2
import Derived.Defers
import Derived.Recover
import Derived.Laws.Pointers
import Derived.Test.YtibcpdmeigdgpaaGreatDoorKLp5
import Derived.Lib.OwnKind
import Derived.Deep.LoopGhost
namespace Go.Proofs.YtibcpdmeigdgpaaGreatDoor
open Go.RowKit
theorem tcatch_idle (p q r : Addr) (w : World) :
 CallsD Tryz.prog 33 #[.pointer (some p), .pointer (some q), .pointer (some r)] .returning w fun e u' w' => e = .returned (.tuple #[]) ∧ u' = .returning ∧ w' = w := by
 refine callsD_of_wpS Tryz.func33 rfl fun c₀ cs hu => ?_
 apply wpS_seq
 apply wpS_region
 simp [wpOpsS, go_sem, recoverD, hu, Tryz.ntmps33, Exit.thenS]
 apply wpS_seq
 apply wpS_region
 simp [wpOpsS, go_sem, recoverD, hu, Exit.thenS]
 refine wpS_cond (t := false) (by simp [Act.eval, Array.replicate]) ?_
 simp only [Bool.false_eq_true, if_false]
 refine wpS_of_wp (wp_skip ?_)
 cases c₀
 simp_all [bodyPostS, results, Tryz.results33]
theorem ta_wrong (v : Value) (W : World) : Sem.run Tryz.prog (Instr.typeAssert (.iface 87 v) 20 87 false) W = .ok v W := by kernel_rfl
theorem tcatch_panicking (B : Nat) (x y z : Value) (p : Nat) (er : Int) (older : List PanicEntry) (w : World)
 (hp : w.cell? ⟨B, 0, none⟩ = some x) (fp : w.frozen? ⟨B, 0, none⟩ = false) (hq : w.cell? ⟨B + 1, 0, none⟩ = some y) (fq : w.frozen? ⟨B + 1, 0, none⟩ = false) (hr : w.cell? ⟨B + 2, 0, none⟩ = some z) (fr : w.frozen? ⟨B + 2, 0, none⟩ = false) (hB : B + 2 < w.heap.size) :
 CallsD Tryz.prog 33 #[.pointer (some ⟨B, 0, none⟩), .pointer (some ⟨B + 1, 0, none⟩), .pointer (some ⟨B + 2, 0, none⟩)] (.panicking (wrongE p er :: older)) w fun e u' w' =>
  e = .returned (.tuple #[]) ∧ u' = .panicking ({ v := .iface 87 (.agg #[.int .i64 (p : Int), .int .i64 er]), recovered := true } :: older) ∧
  Below B w w' ∧ w'.cell? ⟨B, 0, none⟩ = some (.slice none 0 0) ∧ w'.cell? ⟨B + 1, 0, none⟩ = some (.int .i64 (p : Int)) ∧ w'.cell? ⟨B + 2, 0, none⟩ = some (.int .i64 er) := by
 unfold wrongE
 refine callsD_of_wpS Tryz.func33 rfl fun c₀ cs hu => ?_
 apply wpS_seq
 apply wpS_region
 simp [wpOpsS, go_sem, recoverD, hu, Tryz.ntmps33, Exit.thenS]
 apply wpS_seq
 apply wpS_region
 simp [wpOpsS, go_sem, recoverD, Exit.thenS]
 refine wpS_cond (t := true) (by simp [Act.eval, Array.replicate]) ?_
 simp only [if_true]
 refine wpS_of_wp ?_
 change Code.wp _ _ _ { tmps := #[.pointer (some ⟨B, 0, none⟩), .pointer (some ⟨B + 1, 0, none⟩), .pointer (some ⟨B + 2, 0, none⟩), (.iface 87 (.agg #[.int .i64 (p : Int), .int .i64 er])), undef, (.iface 87 (.agg #[.int .i64 (p : Int), .int .i64 er])), (.iface 87 (.agg #[.int .i64 (p : Int), .int .i64 er])), .bool true, undef, undef, undef, undef, undef, undef], defers := [] } w
 have hta := ta_wrong (.agg #[.int .i64 (p : Int), .int .i64 er])
 have hB0 : B < w.heap.size := by omega
 have hB1 : B + 1 < w.heap.size := by omega
 have h01 : B ≠ B + 1 := by omega
 have h02 : B ≠ B + 2 := by omega
 have h12 : B + 1 ≠ B + 2 := by omega
 have hn0 : w.heap.size ≠ B := by omega
 have hn1 : w.heap.size ≠ B + 1 := by omega
 have hn2 : w.heap.size ≠ B + 2 := by omega
 go_wp2_with fail
 go_region
 all_goals
  simp (config := { zetaDelta := true }) [bodyPostS, results, Tryz.results33]
  refine ⟨(((((Below.refl B w).setCell (by simp) _).setCell (by simp) _).setCell (by simp) _).alloc (by simp; omega) _).drew, ?_, ?_, ?_⟩
  all_goals go_simp
end Go.Proofs.YtibcpdmeigdgpaaGreatDoor
namespace Go.Proofs.YtibcpdmeigdgpaaGreatDoor
open Go.RowKit
theorem skip_end {s : ByteArray} {k f : Nat} {l : List Tk} (hk : k ≤ s.size) (h : betN s k = (f, true)) : toksN s k l = (if f = s.size then .ok l else match oneN s f l with
 | .ok x => toksN s x.b (l ++ [x])
 | .bad p e => .bad p e) := by
 by_cases hks : k < s.size
 ·rw [toksN_one hks, h]; rfl
 ·rw [toksN_end (by omega)]
  rw [betN_end (by omega)] at h
  injection h with h _
  rw [if_pos (by omega)]
theorem skip_bad {s : ByteArray} {k f : Nat} {l : List Tk} (h : betN s k = (f, false)) : toksN s k l = .bad f 31 := by
 by_cases hks : k < s.size
 ·rw [toksN_one hks, h]
 ·rw [betN_end (by omega)] at h
  injection h with _ h
  cases h
structure Bx (w : World) (B : Nat) (wr : World) : Prop where
 b0 : wr.heap[B]? = some (.cells #[.slice none 0 0] 63 (0, 0))
 b1 : wr.heap[B + 1]? = some (.cells #[.int .i64 0] 3 (0, 0))
 b2 : wr.heap[B + 2]? = some (.cells #[.int .i64 0] 23 (0, 0))
 low : Below B w wr
 lt : B + 3 < wr.heap.size
theorem Bx.on {w wr w' : World} {B : Nat} (h : Bx w B wr) (hb : Below (B + 3) wr w') : Bx w B w' :=
 ⟨(hb.block B (by omega)).trans h.b0, (hb.block (B + 1) (by omega)).trans h.b1, (hb.block (B + 2) (by omega)).trans h.b2, h.low.trans (hb.mono (by omega)), Nat.lt_of_lt_of_le h.lt hb.size⟩
theorem Bx.cells {w wr : World} {B : Nat} (h : Bx w B wr) : wr.cell? ⟨B, 0, none⟩ = some (.slice none 0 0) ∧ wr.frozen? ⟨B, 0, none⟩ = false ∧ wr.cell? ⟨B + 1, 0, none⟩ = some (.int .i64 0) ∧ wr.frozen? ⟨B + 1, 0, none⟩ = false ∧ wr.cell? ⟨B + 2, 0, none⟩ = some (.int .i64 0) ∧ wr.frozen? ⟨B + 2, 0, none⟩ = false :=
 ⟨cell_of_row _ _ 0 _ _ _ h.b0, by simp [World.frozen?, h.b0], cell_of_row _ _ 0 _ _ _ h.b1, by simp [World.frozen?, h.b1], cell_of_row _ _ 0 _ _ _ h.b2, by simp [World.frozen?, h.b2]⟩
theorem bx_new (w : World) (s : ByteArray) : Bx w w.heap.size ((((w.alloc (Obj.cells #[.slice none 0 0] 63)).alloc (Obj.cells #[.int .i64 0] 3)).alloc (Obj.cells #[.int .i64 0] 23)).alloc (Obj.cells #[.string s, .int .i64 0, .slice none 0 0] 90)) ∧
 Sc ((((w.alloc (Obj.cells #[.slice none 0 0] 63)).alloc (Obj.cells #[.int .i64 0] 3)).alloc (Obj.cells #[.int .i64 0] 23)).alloc (Obj.cells #[.string s, .int .i64 0, .slice none 0 0] 90)) (w.heap.size + 3) s 0 (.slice none 0 0) := by
 have step : ∀ (u : World) (o o' : Obj) (g : Nat), u.heap[g]? = some o' → (u.alloc o).heap[g]? = some o' := fun u o o' g h => (Below.heap_alloc _ _ _ (heap_lt h)).trans h
 have nw : ∀ (u : World) (o : Obj) (g : Nat), g = u.heap.size → (u.alloc o).heap[g]? = some o := fun u o g h => heap_at u o h
 refine ⟨⟨step _ _ _ _ (step _ _ _ _ (step _ _ _ _ (nw _ _ _ rfl))), step _ _ _ _ (step _ _ _ _ (nw _ _ _ (by simp))), step _ _ _ _ (nw _ _ _ (by simp)), ((((Below.refl _ _).alloc (Nat.le_refl _) _).alloc (by simp) _).alloc (by simp; omega) _).alloc (by simp; omega) _, by simp⟩, nw _ _ _ (by simp)⟩
theorem oneN_bad {s : ByteArray} {f : Nat} {l : List Tk} {p : Nat} {e : Int} (h : oneN s f l = .bad p e) : e ≠ 0 := by
 unfold oneN at h
 cases hh : headN s f l.getLast? with
 | none => rw [hh] at h; injection h with _ h; omega
 | some q =>
  obtain ⟨K, j⟩ := q
  rw [hh] at h
  dsimp only at h
  split at h
  ·injection h with _ h; omega
  ·split at h
   ·cases hq : quoN s f (f + 1) [] with
    | ok t p => rw [hq] at h; cases h
    | bad p e =>
     rw [hq] at h
     injection h with _ h
     subst h
     exact quo_bad _ _ _ _ _ _ _ hq
   ·cases h
theorem own_onx {w1 w2 : World} {X k n : Nat} {s : ByteArray} {v v' : Value} {xs : List Value} (h : w1.ownsRow X 83 4 v n xs) (hs : Sc w1 X s k v') (ho : OnX X w1 w2) : w2.ownsRow X 83 4 v n xs :=
 own_keep h fun g hg => ho.far g (h.lt g hg).2 (by
  rintro rfl
  obtain ⟨cs, f', hh⟩ := Go.Lib.ownsRow_kind h _ hg
  unfold Sc at hs
  rw [hs] at hh
  injection hh with hh
  injection hh with _ hh
  exact absurd hh (by decide))
structure LR (w : World) (s : ByteArray) (wr : World) (f : Nat) (v : Value) (l : List Tk) : Prop where
 bx : Bx w w.heap.size wr
 sc : Sc wr (w.heap.size + 3) s f v
 own : wr.ownsRow (w.heap.size + 3) 83 4 v l.length (tkCells l)
 few : l.length ≤ 1000
 up : f ≤ s.size
 nb : f < s.size → blankB (bn s f) = false
 res : lexN s = (if f = s.size then .ok l else match oneN s f l with
  | .ok x => toksN s x.b (l ++ [x])
  | .bad p e => .bad p e)
set_option maxHeartbeats 8000000 in
set_option maxRecDepth 100000 in
theorem ptokens_any (s : ByteArray) (w : World) {mx : Int} (hmx : w.cell? ⟨2, 0, none⟩ = some (.int .i64 mx)) : Calls Tryz.prog 18 #[.string s] w fun e w' =>
 (∃ (v : Value) (p er : Int), e = .returned (.tuple #[v, .int .i64 p, .int .i64 er]) ∧ TokQ s w.heap.size w' v p er) ∧ Below w.heap.size w w' := by
 have hmf : ∀ (fn : Fn) (first cap : Array Value) (w : World), (Instr.makeFunc fn first cap).run Tryz.prog w = .ok (.func fn first cap) w := fun _ _ _ _ => rfl
 have HMX := Lib.hid hmx
 have hw0 := World.block_lt_of_cell? w _ hmx
 dsimp only at hw0
 clear hmx
 by_cases hlong : 4096 < s.size
 ·have hlong' : (4096 : Int) < (s.size : Int) := by omega
  have HQ := Lib.hid (show lexN s = .bad 0 33 by unfold lexN; rw [if_pos hlong])
  go_enter_defers Tryz.func18, Tryz.ntmps18
  go_wp2_with fail
  simp (config := { zetaDelta := true }) [bodyPostD, Leaves, results, Tryz.results18, go_sem]
  exact ⟨⟨_, _, _, ⟨rfl, rfl, rfl⟩, tokQ_bad (q := 0) HQ.out (by decide)⟩, (((Below.refl _ _).alloc (Nat.le_refl _) _).alloc (by simp) _).alloc (by simp; omega) _⟩
 ·have hlong' : ¬ (4096 : Int) < (s.size : Int) := by omega
  have hs : s.size ≤ 4096 := by omega
  have HL := Lib.hid (show lexN s = toksN s 0 [] by unfold lexN; rw [if_neg hlong])
  go_enter_defers Tryz.func18, Tryz.ntmps18
  go_wp2_with fail
  obtain ⟨W0, hW0⟩ : ∃ W0, W0 = ((((w.alloc (Obj.cells #[.slice none 0 0] 63)).alloc (Obj.cells #[.int .i64 0] 3)).alloc (Obj.cells #[.int .i64 0] 23)).alloc (Obj.cells #[.string s, .int .i64 0, .slice none 0 0] 90)) := ⟨_, rfl⟩
  have hBX := Lib.hid (show Bx w w.heap.size W0 ∧ Sc W0 (w.heap.size + 3) s 0 (.slice none 0 0) from by
   rw [hW0]
   exact bx_new w s)
  rw [← hW0]
  have MX0 := Lib.hid ((hBX.out.1.low.cell (p := ⟨2, 0, none⟩) hw0).trans HMX.out)
  clear hW0
  have CK := Lib.hid (skip_any s hs hBX.out.2 (Nat.zero_le _) (by omega) MX0.out)
  obtain ⟨r, hr⟩ : ∃ r, betN s 0 = r := ⟨_, rfl⟩
  have HR := Lib.hid hr
  rw [hr] at CK
  clear hr
  obtain ⟨f, ok⟩ := r
  refine CK.out.mono ?_
  rintro e w1 ⟨hq, hon⟩
  cases ok
  ·have hq : e = .panicked [wrongE f 31] := by simpa using hq
   subst hq
   have B1 := Lib.hid (hBX.out.1.on hon.low)
   have HQ := Lib.hid (HL.out.trans (skip_bad HR.out))
   have HNZ : (31 : Int) ≠ 0 := by decide
   clear CK hon
   obtain ⟨c0, g0, c1, g1, c2, g2⟩ := B1.out.cells
   go_wp2_with fail
   show Leaves _ _ _ _ _ _ _
   refine leaves_cons (f := 33) (args := #[.pointer (some ⟨w.heap.size, 0, none⟩), .pointer (some ⟨w.heap.size + 1, 0, none⟩), .pointer (some ⟨w.heap.size + 1 + 1, 0, none⟩)]) (by simp) (by simp [go_sem]) ?_
   refine (tcatch_panicking w.heap.size _ _ _ f 31 [] _ c0 g0 c1 g1 c2 g2 (by have := B1.out.lt; omega)).mono ?_
   rintro e u' w'' ⟨rfl, rfl, h4, p0, p1, p2⟩
   have HE := Lib.hid (B1.out.low.trans h4)
   have HTQ := Lib.hid (tokQ_bad (B := w.heap.size) (w' := w'') HQ.out HNZ)
   simp [Leaves, settle, results, Tryz.results18, go_sem, p0, p1, p2]
   exact ⟨⟨_, _, _, ⟨rfl, rfl, rfl⟩, HTQ.out⟩, HE.out⟩
  ·obtain ⟨rfl, hsc⟩ : e = .returned (.tuple #[]) ∧ Sc w1 (w.heap.size + 3) s f (.slice none 0 0) := by simpa using hq
   have hfs := (betN_ge (s := s) (j := 0) (Nat.zero_le _)).2
   rw [HR.out] at hfs
   dsimp only at hfs
   have LR0 := Lib.hid (show LR w s w1 f (.slice none 0 0) [] from ⟨hBX.out.1.on hon.low, hsc, World.ownsRow_nil _ _ _ _, by simp, hfs, fun h => betN_blank HR.out h, HL.out.trans (skip_end (Nat.zero_le _) HR.out)⟩)
   clear CK hon hsc hq hfs
   go_wp2_with fail
   go_loopg [] (s.size - f) (fun g wr => ∃ (f : Nat) (v : Value) (l : List Tk), f + g = s.size ∧ LR w s wr f v l)
   case atStart => exact ⟨f, _, _, by have := LR0.out.up; omega, LR0.out⟩
   case round =>
    clear LR0 HR HL
    obtain ⟨f, v, l, hfg, hlr⟩ := hrel
    have R := Lib.hid hlr
    obtain ⟨y0, y1, y2, yf⟩ := hlr.sc.cells
    have hX := hlr.sc.lt
    clear hlr
    by_cases hf : f < s.size
    ·have hf' : (f : Int) < (s.size : Int) := by omega
     have CO := Lib.hid (one_any' s hs R.out.sc R.out.own hf (R.out.nb hf) R.out.few)
     have hres := R.out.res
     rw [if_neg (by omega)] at hres
     obtain ⟨r, hr⟩ : ∃ r, oneN s f l = r := ⟨_, rfl⟩
     have HR := Lib.hid hr
     rw [hr] at CO hres
     have HRES := Lib.hid hres
     clear hr hres
     go_wp2_with fail
     refine CO.out.mono ?_
     rintro e w1 ⟨hq, hbel⟩
     clear CO
     cases r with
     | bad p er =>
      have hq : e = .panicked [wrongE p er] := hq
      subst hq
      have B1 := Lib.hid (R.out.bx.on hbel)
      have HQ := Lib.hid (show lexN s = .bad p er from HRES.out)
      have HNZ : er ≠ 0 := oneN_bad HR.out
      clear hbel
      obtain ⟨c0, g0, c1, g1, c2, g2⟩ := B1.out.cells
      go_wp2_with fail
      show Leaves _ _ _ _ _ _ _
      refine leaves_cons (f := 33) (args := #[.pointer (some ⟨w.heap.size, 0, none⟩), .pointer (some ⟨w.heap.size + 1, 0, none⟩), .pointer (some ⟨w.heap.size + 1 + 1, 0, none⟩)]) (by simp) (by simp [go_sem]) ?_
      refine (tcatch_panicking w.heap.size _ _ _ p er [] _ c0 g0 c1 g1 c2 g2 (by have := B1.out.lt; omega)).mono ?_
      rintro e u' w'' ⟨rfl, rfl, h4, p0, p1, p2⟩
      have HE := Lib.hid (B1.out.low.trans h4)
      have HTQ := Lib.hid (tokQ_bad (B := w.heap.size) (w' := w'') HQ.out HNZ)
      simp [Leaves, settle, results, Tryz.results18, go_sem, p0, p1, p2]
      exact ⟨⟨_, _, _, ⟨rfl, rfl, rfl⟩, HTQ.out⟩, HE.out⟩
     | ok x =>
      obtain ⟨rfl, v', hsc, hown⟩ : e = .returned (.tuple #[]) ∧ ∃ v', Sc w1 (w.heap.size + 3) s x.b v' ∧ w1.ownsRow (w.heap.size + 3) 83 4 v' (l.length + 1) (tkCells (l ++ [x])) := hq
      have hx := oneN_ok HR.out hf
      have BX1 := Lib.hid (R.out.bx.on hbel)
      have MX1 := Lib.hid ((BX1.out.low.cell (p := ⟨2, 0, none⟩) hw0).trans HMX.out)
      have CK := Lib.hid (skip_any s hs hsc hx.2.2.2.1 (by omega) MX1.out)
      obtain ⟨r, hr⟩ : ∃ r, betN s x.b = r := ⟨_, rfl⟩
      have HR2 := Lib.hid hr
      rw [hr] at CK
      clear hr
      obtain ⟨f2, ok⟩ := r
      have HOW := Lib.hid hown
      have HX := Lib.hid hx
      have HSC := Lib.hid hsc
      clear hown hx hsc hbel
      go_wp2_with fail
      refine CK.out.mono ?_
      rintro e w2 ⟨hq, hon⟩
      clear CK
      cases ok
      ·have hq : e = .panicked [wrongE f2 31] := by simpa using hq
       subst hq
       have B1 := Lib.hid (BX1.out.on hon.low)
       have HQ := Lib.hid (show lexN s = .bad f2 31 from HRES.out.trans (skip_bad HR2.out))
       have HNZ : (31 : Int) ≠ 0 := by decide
       clear hon
       obtain ⟨c0, g0, c1, g1, c2, g2⟩ := B1.out.cells
       go_wp2_with fail
       show Leaves _ _ _ _ _ _ _
       refine leaves_cons (f := 33) (args := #[.pointer (some ⟨w.heap.size, 0, none⟩), .pointer (some ⟨w.heap.size + 1, 0, none⟩), .pointer (some ⟨w.heap.size + 1 + 1, 0, none⟩)]) (by simp) (by simp [go_sem]) ?_
       refine (tcatch_panicking w.heap.size _ _ _ f2 31 [] _ c0 g0 c1 g1 c2 g2 (by have := B1.out.lt; omega)).mono ?_
       rintro e u' w'' ⟨rfl, rfl, h4, p0, p1, p2⟩
       have HE := Lib.hid (B1.out.low.trans h4)
       have HTQ := Lib.hid (tokQ_bad (B := w.heap.size) (w' := w'') HQ.out HNZ)
       simp [Leaves, settle, results, Tryz.results18, go_sem, p0, p1, p2]
       exact ⟨⟨_, _, _, ⟨rfl, rfl, rfl⟩, HTQ.out⟩, HE.out⟩
      ·obtain ⟨rfl, hsc⟩ : e = .returned (.tuple #[]) ∧ Sc w2 (w.heap.size + 3) s f2 v' := by simpa using hq
       have hb2 := betN_ge (s := s) (j := x.b) HX.out.2.2.2.1
       rw [HR2.out] at hb2
       dsimp only at hb2
       have LR1 := Lib.hid (show LR w s w2 f2 v' (l ++ [x]) from ⟨BX1.out.on hon.low, hsc, by rw [List.length_append]; exact own_onx HOW.out HSC.out hon, by have := R.out.few; have := HX.out.2.2.2.2; simp; omega, hb2.2, fun h => betN_blank HR2.out h, HRES.out.trans (skip_end HX.out.2.2.2.1 HR2.out)⟩)
       have hgf : s.size - f2 < gk := by have := HX.out.2.2.1; omega
       clear hon hsc hq hb2
       go_wp2_with fail
       go_roundg (s.size - f2)
       case measure => exact hgf
       case rel => exact ⟨f2, _, _, by have := LR1.out.up; omega, LR1.out⟩
    ·obtain rfl : f = s.size := by have := R.out.up; omega
     have HQ := Lib.hid (show lexN s = .ok l from by have := R.out.res; rw [if_pos rfl] at this; exact this)
     obtain ⟨c0, f0, c1, f1, c2, f2⟩ := R.out.bx.cells
     obtain ⟨A, cp, rfl, _, _, _, _⟩ := own_open R.out.own
     have hB2 := R.out.bx.lt
     have hB0 : w.heap.size < wr.heap.size := by omega
     have hB1 : w.heap.size + 1 < wr.heap.size := by omega
     have hB3 : w.heap.size + 1 + 1 < wr.heap.size := by omega
     go_wp2_with fail
     show Leaves _ _ _ _ _ _ _
     refine leaves_cons (f := 33) (args := #[.pointer (some ⟨w.heap.size, 0, none⟩), .pointer (some ⟨w.heap.size + 1, 0, none⟩), .pointer (some ⟨w.heap.size + 1 + 1, 0, none⟩)]) (by simp) (by simp [go_sem]) ?_
     refine (tcatch_idle _ _ _ _).mono ?_
     rintro e u' w'' ⟨rfl, rfl, rfl⟩
     have HE := Lib.hid (((R.out.bx.low.setCell (p := ⟨w.heap.size, 0, none⟩) (Nat.le_refl _) (.slice A l.length cp)).setCell (p := ⟨w.heap.size + 1, 0, none⟩) (by simp) (.int .i64 0)).setCell (p := ⟨w.heap.size + 1 + 1, 0, none⟩) (by simp; omega) (.int .i64 0))
     have hk : ∀ g, w.heap.size + 3 ≤ g → (((wr.setCell ⟨w.heap.size, 0, none⟩ (.slice A l.length cp)).setCell ⟨w.heap.size + 1, 0, none⟩ (.int .i64 0)).setCell ⟨w.heap.size + 1 + 1, 0, none⟩ (.int .i64 0)).heap[g]? = wr.heap[g]? := fun g hg =>
      (Below.heap_setCell _ _ _ _ (by show g ≠ w.heap.size + 1 + 1; omega)).trans ((Below.heap_setCell _ _ _ _ (by show g ≠ w.heap.size + 1; omega)).trans (Below.heap_setCell _ _ _ _ (by show g ≠ w.heap.size; omega)))
     have HT := Lib.hid (tokQ_ok (B := w.heap.size) HQ.out rfl (ownsRow_more (own_keep R.out.own fun g hg => hk g (R.out.own.lt g hg).1) (by omega)) R.out.few hs (lexN_ok HQ.out).2.2)
     clear hk
     simp [Leaves, settle, results, Tryz.results18, go_sem, World.cell?_setCell_other, World.cell?_setCell_same, c0, c1, c2]
     exact ⟨⟨_, _, _, ⟨rfl, rfl, rfl⟩, HT.out⟩, HE.out⟩
end Go.Proofs.YtibcpdmeigdgpaaGreatDoor
