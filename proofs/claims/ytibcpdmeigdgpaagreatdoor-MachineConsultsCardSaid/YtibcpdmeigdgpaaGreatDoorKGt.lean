/- The program's parser: a term at any depth; a sentence. The program's parser: the deferred closure of Read, which recovers. The reader, plainly: its errors are none that is OK. The program's parser: Read, plainly; what its loop has gathered. -/
import Derived.Test.YtibcpdmeigdgpaaGreatDoorKRqh
import Derived.Tactics2
import Derived.Defers
import Derived.Recover
import Derived.Laws.Pointers
import Derived.Test.YtibcpdmeigdgpaaGreatDoorKRd13
namespace Go.Proofs.YtibcpdmeigdgpaaGreatDoor
open Go.RowKit
theorem pterm_any (c : Rdc) : ∀ (d D : Nat), D + d = 65 → PTermC c (D : Int) (termP c.tk c.s.size d) := by
 intro d
 induction d using Nat.strongRecOn with
 | ind d ih =>
  intro D hD
  exact pterm_step c D d hD fun d' hd' => ih d' hd' (65 - d') (by omega)
def sentP (tk : List Tk) (sz j : Nat) : PR (T × List ByteArray) := (termP tk sz 65 1200 j []).andThen fun t j' ns => if (nxT tk sz j').k = 6 then .ok ((t, ns), j' + 1, ns) else .error (errA tk sz j' 50)
def Rdc.on (c : Rdc) (n : Nat) : Rdc := { c with N := n - c.B }
theorem TokW.on {w : World} {c : Rdc} (h : TokW w c) (n : Nat) : TokW w (c.on n) := ⟨h.len, h.few, h.long, h.ok, h.cap, h.nil, h.BR, h.nm, h.blk⟩
theorem Pd.clear {w : World} {c : Rdc} {j : Nat} {ns : List ByteArray} (h : Pd w c j ns) (n : Nat) : Pd (w.setCell ⟨c.R, 2, none⟩ (.slice none 0 0)) (c.on n) j [] := by
 obtain ⟨ht, hf, lv, nv, nn, hr⟩ := h
 exact ⟨(ht.setRp hr _ _).on n, hf, lv, .slice none 0 0, 0, (show (w.setCell ⟨c.R, 2, none⟩ (.slice none 0 0)).heap[c.R]? = some (.cells #[.string c.s, lv, .slice none 0 0] 70 (0, 0)) from by simpa using blk_set hr.blk 2 (.slice none 0 0)), hr.lok, World.ownsRow_nil _ _ _ _, hr.up, Nat.zero_le _⟩
def RelS (c : Rdc) (w : World) (i : Nat) : T × List ByteArray → Nat → Value → World → Prop := fun x j v w' => ∃ k0 k1 k2 A m cc NA nc, v = .agg #[.int .i64 k0, .int .i64 k1, .string k2, .slice A m cc, .slice NA x.2.length nc] ∧
 TP w' (fun b => w.heap.size ≤ b) x.1 (.agg #[.int .i64 k0, .int .i64 k1, .string k2, .slice A m cc]) ∧ x.1.good ∧ i + x.1.nodes + 1 ≤ j ∧ w'.ownsRow (c.B + c.N) 9 1 (.slice NA x.2.length nc) x.2.length (x.2.map Value.string)
theorem box5p {w : World} {g : Nat} {t : TypeId} {f : Nat × Nat} {a b c d e : Value} (h : w.heap[g]? = some (.cells #[a, b, c, d, e] t f)) :
 w.cell? ⟨g, 0, none⟩ = some a ∧ w.cell? ⟨g, 1, none⟩ = some b ∧ w.cell? ⟨g, 2, none⟩ = some c ∧ w.cell? ⟨g, 3, none⟩ = some d ∧ w.cell? ⟨g, 4, none⟩ = some e :=
 ⟨cell_of_row w g 0 _ _ _ h, cell_of_row w g 1 _ _ _ h, cell_of_row w g 2 _ _ _ h, cell_of_row w g 3 _ _ _ h, cell_of_row w g 4 _ _ _ h⟩
theorem box_put5p {w : World} {g : Nat} {t : TypeId} {m : Nat × Nat} {u0 u1 u2 u3 u4 : Value} (h : w.heap[g]? = some (.cells #[u0, u1, u2, u3, u4] t m)) (a b c d e : Value) {W : World}
 (hW : ((((w.setCell ⟨g, 0, none⟩ a).setCell ⟨g, 1, none⟩ b).setCell ⟨g, 2, none⟩ c).setCell ⟨g, 3, none⟩ d).setCell ⟨g, 4, none⟩ e = W) :
 W.heap[g]? = some (.cells #[a, b, c, d, e] t m) ∧ (∀ k, k ≠ g → W.heap[k]? = w.heap[k]?) ∧ ∀ B w0, B ≤ g → Below B w0 w → Below B w0 W := by
 subst hW
 refine ⟨by simpa using blk_set (blk_set (blk_set (blk_set (blk_set h 0 a) 1 b) 2 c) 3 d) 4 e, fun k hk => ?_, fun B w0 hB hw => ((((hw.setCell hB a).setCell hB b).setCell hB c).setCell hB d).setCell hB e⟩
 rw [Below.heap_setCell _ _ _ k hk, Below.heap_setCell _ _ _ k hk, Below.heap_setCell _ _ _ k hk, Below.heap_setCell _ _ _ k hk, Below.heap_setCell _ _ _ k hk]
theorem Pd.put5 {c : Rdc} {w : World} {i : Nat} {ns : List ByteArray} (h : Pd w c i ns) {g : Nat} {t : TypeId} {m : Nat × Nat} {u0 u1 u2 u3 u4 : Value} (hb : w.heap[g]? = some (.cells #[u0, u1, u2, u3, u4] t m)) (x0 x1 x2 x3 x4 : Value) (h1 : t ≠ 9) (h2 : t ≠ 70) (h3 : t ≠ 83) :
 Pd (((((w.setCell ⟨g, 0, none⟩ x0).setCell ⟨g, 1, none⟩ x1).setCell ⟨g, 2, none⟩ x2).setCell ⟨g, 3, none⟩ x3).setCell ⟨g, 4, none⟩ x4) c i ns :=
 have b1 := blk_set hb 0 x0
 have b2 := blk_set b1 1 x1
 have b3 := blk_set b2 2 x2
 have b4 := blk_set b3 3 x3
 ((((h.set_far hb 0 x0 h1 h2 h3).set_far b1 1 x1 h1 h2 h3).set_far b2 2 x2 h1 h2 h3).set_far b3 3 x3 h1 h2 h3).set_far b4 4 x4 h1 h2 h3
set_option maxRecDepth 100000 in
set_option maxHeartbeats 8000000 in
theorem psent_go {c c0 : Rdc} (w : World) (j : Nat) (ns0 : List ByteArray) (hc : c = c0.on w.heap.size) (h : Pd w c0 j ns0) (hev : Ev c0 w) :
 Calls Tryz.prog 20 #[.pointer (some ⟨c.R, 0, none⟩)] w fun e w' => PQ c w j (sentP c.tk c.s.size j) (RelS c w j) e w' := by
 have hR : c0.R = c.R := by rw [hc]; rfl
 have HC0 : Pd (w.setCell ⟨c.R, 2, none⟩ (.slice none 0 0)) c j [] := by subst hc; exact h.clear w.heap.size
 have hev' : Ev c w := by
  subst hc
  exact ⟨by have := h.base; show c0.B + (w.heap.size - c0.B) ≤ w.heap.size; omega, hev.2⟩
 have hB : c.B ≤ w.heap.size := by rw [hc]; exact h.base
 have hBR : c.B ≤ c.R := by rw [hc]; exact h.1.BR
 have hRw : c.R < w.heap.size := by rw [← hR]; exact h.lt
 have hn2 : c.R ≠ w.heap.size := by omega
 have X0 := heap_alloc_new w (Obj.cells #[.int .i64 0, .int .i64 0, .string ⟨#[]⟩, .slice none 0 0, .slice none 0 0] 42)
 have H0 := HC0.alloc (Obj.cells #[.int .i64 0, .int .i64 0, .string ⟨#[]⟩, .slice none 0 0, .slice none 0 0] 42)
 have F0 := (Frp.setR (w := w) hBR 2 (.slice none 0 0)).newalloc hB (Obj.cells #[.int .i64 0, .int .i64 0, .string ⟨#[]⟩, .slice none 0 0, .slice none 0 0] 42)
 have H1 := Lib.hid H0
 have F1 := Lib.hid F0
 have X1 := Lib.hid (show ((w.setCell ⟨c.R, 2, none⟩ (.slice none 0 0)).alloc (Obj.cells #[.int .i64 0, .int .i64 0, .string ⟨#[]⟩, .slice none 0 0, .slice none 0 0] 42)).heap[w.heap.size]? = some (Obj.cells #[.int .i64 0, .int .i64 0, .string ⟨#[]⟩, .slice none 0 0, .slice none 0 0] 42) from heap_at _ _ (by simp))
 have E1 := Lib.hid (hev'.fr F0)
 obtain ⟨ht, hf, lv, nv, nn, hr⟩ := h
 obtain ⟨r0, r1, r2⟩ := hr.cells
 have rf := hr.thaw
 rw [hR] at r0 r1 r2 rf
 clear hr ht hf hev hev' H0 F0 X0 HC0 hc hR
 obtain ⟨RS, hRS⟩ : ∃ RS, sentP c.tk c.s.size j = RS := ⟨_, rfl⟩
 rw [hRS]
 have HRS := Lib.hid hRS
 clear hRS
 have fl : ∀ (a b d : Value) (n : Int) (W : World), (Instr.field 83 (.agg #[.int .i64 n, a, b, d]) 0).run Tryz.prog W = .ok (.int .i64 n) W := fun _ _ _ _ _ => by kernel_rfl
 go_enter Tryz.func20, Tryz.ntmps20
 go_wp2_with fail
 refine ((pterm_any c 65 0 rfl) 1200 _ _ _ H1.out E1.out).mono ?_
 rintro e w2 hq
 cases hres : termP c.tk c.s.size 65 1200 j [] with
 | error pk =>
  obtain ⟨p, k⟩ := pk
  obtain ⟨f2, rfl⟩ := hq.err hres
  have HR := Lib.hid (show RS = .error (p, k) by rw [← HRS.out]; unfold sentP; rw [hres]; rfl)
  have F2 := Lib.hid (F1.out.trans f2)
  clear hq hres f2
  go_wp2_with fail
  refine ⟨rfl, ?_⟩
  rw [HR.out]
  exact ⟨F2.out, rfl⟩
 | ok yy =>
  obtain ⟨t, j2, ns⟩ := yy
  obtain ⟨f2, v, rfl, h2, hj2, ht, hgood, hnod⟩ := hq.ok hres
  obtain ⟨k0, k1, k2, A0, m0, c0, rfl⟩ := ht.agg
  have HR0 := Lib.hid (show RS = if (nxT c.tk c.s.size j2).k = 6 then .ok ((t, ns), j2 + 1, ns) else .error (errA c.tk c.s.size j2 50) by rw [← HRS.out]; unfold sentP; rw [hres]; rfl)
  have bA := (Below.refl w2.heap.size w2).alloc (Nat.le_refl _) (Obj.cells #[.int .i64 k0, .int .i64 k1, .string k2, .slice A0 m0 c0] 39)
  have H2 := Lib.hid (h2.below bA)
  have F2 := Lib.hid ((F1.out.trans f2).trans (Frp.of_below bA h2.base))
  have X2 := Lib.hid ((bA.block _ (heap_lt (f2.boxp H1.out X1.out (by decide) (by decide)))).trans (f2.boxp H1.out X1.out (by decide) (by decide)))
  have Y2 := Lib.hid (heap_alloc_new w2 (Obj.cells #[.int .i64 k0, .int .i64 k1, .string k2, .slice A0 m0 c0] 39))
  have hsz2 := f2.size
  have TP2 := Lib.hid ((ht.below bA).more (S' := fun b => w.heap.size ≤ b ∧ b ≠ w.heap.size) fun b hb => by
   simp at hb
   exact ⟨by omega, by omega⟩)
  have HJ := Lib.hid (And.intro hj2 (And.intro hgood hnod))
  obtain ⟨x, hx⟩ : ∃ x, nx c j2 = x := ⟨_, rfl⟩
  have HX := Lib.hid hx
  have PK := Lib.hid (ppeek_any _ H2.out)
  rw [hx] at PK
  clear hq hres f2 h2 ht hj2 hgood hnod bA hx r0 r1 r2 rf
  go_wp2_with fail
  refine PK.out.mono ?_
  rintro e w3 ⟨rfl, hb3⟩
  have H3 := Lib.hid (H2.out.below hb3)
  have F3 := Lib.hid (F2.out.trans (Frp.of_below hb3 H2.out.base))
  have X3 := Lib.hid ((hb3.block _ (heap_lt X2.out)).trans X2.out)
  have Y3 := Lib.hid ((hb3.block _ (heap_lt Y2.out)).trans Y2.out)
  have TP3 := Lib.hid (TP2.out.below hb3)
  clear hb3 PK
  cases k6 : (x.k != 6) with
  | true =>
   have HR := Lib.hid (show RS = .error (((nx c j2).a : Int), 50) by
    rw [HR0.out, if_neg (by rw [show nxT c.tk c.s.size j2 = x from HX.out]; simpa using k6)]; rfl)
   go_wp2_with fail
   refine (pfail_any _ H3.out).mono ?_
   rintro e w4 ⟨rfl, f4⟩
   have F4 := Lib.hid (F3.out.trans f4)
   clear f4
   go_wp2_with fail
   refine ⟨rfl, ?_⟩
   rw [HR.out]
   exact ⟨F4.out, rfl⟩
  | false =>
   have hk6 : x.k = 6 := by simpa using k6
   have HR := Lib.hid (show RS = .ok ((t, ns), j2 + 1, ns) by
    rw [HR0.out, if_pos (by rw [show nxT c.tk c.s.size j2 = x from HX.out]; exact hk6)])
   have CT := Lib.hid (ptake_any _ H3.out (by rw [HX.out, hk6]; decide))
   clear hk6
   go_wp2_with fail
   refine CT.out.mono ?_
   rintro e w4 ⟨rfl, h4, f4⟩
   have H4 := Lib.hid h4
   have F4 := Lib.hid (F3.out.trans f4)
   have X4 := Lib.hid (f4.boxp H3.out X3.out (by decide) (by decide))
   have Y4 := Lib.hid (f4.boxp H3.out Y3.out (by decide) (by decide))
   have TP4 := Lib.hid (TP3.out.frp f4 H3.out)
   obtain ⟨ht4, hf4, lv4, nv4, nn4, hr4⟩ := h4
   have hnn : nn4 = ns.length := by have := own_len hr4.own; simpa using this.symm
   subst hnn
   obtain ⟨NA, nc, rfl, _, _, _, _⟩ := own_open hr4.own
   obtain ⟨r0, r1, r2⟩ := hr4.cells
   obtain ⟨y0, y1, y2, y3⟩ := box4t Y4.out
   obtain ⟨x0, x1, x2, x3, x4⟩ := box5p X4.out
   have xf : ∀ j, w4.frozen? ⟨w.heap.size, j, none⟩ = false := fun j => by simp [World.frozen?, X4.out]
   have HOWN := Lib.hid hr4.own
   have hlt4 := heap_lt X4.out
   clear f4 ht4 hf4 hr4 CT
   go_wp2_with fail
   go_region
   go_wp2_with fail
   have P := box_put5p X4.out (.int .i64 k0) (.int .i64 k1) (.string k2) (.slice A0 m0 c0) (.slice NA ns.length nc) rfl
   obtain ⟨p0, p1, p2, p3, p4⟩ := box5p P.1
   refine bodyPost_ret (v := .agg #[.int .i64 k0, .int .i64 k1, .string k2, .slice A0 m0 c0, .slice NA ns.length nc]) (by simp [results, go_sem, p0, p1, p2, p3, p4]) rfl ?_
   rw [HR.out]
   have FF := ((((F4.out.newset (Nat.le_refl _) hB 0 (.int .i64 k0)).newset (Nat.le_refl _) hB 1 (.int .i64 k1)).newset (Nat.le_refl _) hB 2 (.string k2)).newset (Nat.le_refl _) hB 3 (.slice A0 m0 c0)).newset (Nat.le_refl _) hB 4 (.slice NA ns.length nc)
   refine ⟨FF.trans (Frp.of_below (Below.refl _ _).drew (Nat.le_trans hB FF.size)), _, rfl, (H4.out.put5 X4.out _ _ _ _ _ (by decide) (by decide) (by decide)).below (Below.refl _ _).drew, Nat.le_succ_of_le HJ.out.1, k0, k1, k2, A0, m0, c0, NA, nc, rfl, ?_, HJ.out.2.1, by have := HJ.out.2.2; show j + t.nodes + 1 ≤ j2 + 1; omega, ?_⟩
   ·refine TP4.out.keep fun b cs f hS hb => ⟨?_, hS.1⟩
    exact (P.2.1 b hS.2).trans hb
   ·refine own_keep HOWN.out fun g hg => P.2.1 g ?_
    rintro rfl
    exact own_ne HOWN.out X4.out (by decide) hg.symm
theorem psent_any {c : Rdc} (w : World) (j : Nat) (ns0 : List ByteArray) (h : Pd w c j ns0) (hev : Ev c w) :
 Calls Tryz.prog 20 #[.pointer (some ⟨c.R, 0, none⟩)] w fun e w' => PQ (c.on w.heap.size) w j (sentP c.tk c.s.size j) (RelS (c.on w.heap.size) w j) e w' :=
 psent_go (c := c.on w.heap.size) w j ns0 rfl h hev
end Go.Proofs.YtibcpdmeigdgpaaGreatDoor
namespace Go.Proofs.YtibcpdmeigdgpaaGreatDoor
open Go.RowKit
theorem rcatch_idle (p q r : Addr) (w : World) :
 CallsD Tryz.prog 19 #[.pointer (some p), .pointer (some q), .pointer (some r)] .returning w fun e u' w' => e = .returned (.tuple #[]) ∧ u' = .returning ∧ w' = w := by
 refine callsD_of_wpS Tryz.func19 rfl fun c₀ cs hu => ?_
 apply wpS_seq
 apply wpS_region
 simp [wpOpsS, go_sem, recoverD, hu, Tryz.ntmps19, Exit.thenS]
 apply wpS_seq
 apply wpS_region
 simp [wpOpsS, go_sem, recoverD, hu, Exit.thenS]
 refine wpS_cond (t := false) (by simp [Act.eval, Array.replicate]) ?_
 simp only [Bool.false_eq_true, if_false]
 refine wpS_of_wp (wp_skip ?_)
 cases c₀
 simp_all [bodyPostS, results, Tryz.results19]
theorem ra_wrong (v : Value) (W : World) : Sem.run Tryz.prog (Instr.typeAssert (.iface 67 v) 20 67 false) W = .ok v W := by kernel_rfl
theorem rcatch_panicking (B : Nat) (x y z : Value) (p er : Int) (older : List PanicEntry) (w : World)
 (hp : w.cell? ⟨B, 0, none⟩ = some x) (fp : w.frozen? ⟨B, 0, none⟩ = false) (hq : w.cell? ⟨B + 1, 0, none⟩ = some y) (fq : w.frozen? ⟨B + 1, 0, none⟩ = false) (hr : w.cell? ⟨B + 2, 0, none⟩ = some z) (fr : w.frozen? ⟨B + 2, 0, none⟩ = false) (hB : B + 2 < w.heap.size) :
 CallsD Tryz.prog 19 #[.pointer (some ⟨B, 0, none⟩), .pointer (some ⟨B + 1, 0, none⟩), .pointer (some ⟨B + 2, 0, none⟩)] (.panicking (wrongP p er :: older)) w fun e u' w' =>
  e = .returned (.tuple #[]) ∧ u' = .panicking ({ v := .iface 67 (.agg #[.int .i64 (p : Int), .int .i64 er]), recovered := true } :: older) ∧
  Below B w w' ∧ w'.cell? ⟨B, 0, none⟩ = some (.slice none 0 0) ∧ w'.cell? ⟨B + 1, 0, none⟩ = some (.int .i64 (p : Int)) ∧ w'.cell? ⟨B + 2, 0, none⟩ = some (.int .i64 er) := by
 unfold wrongP
 refine callsD_of_wpS Tryz.func19 rfl fun c₀ cs hu => ?_
 apply wpS_seq
 apply wpS_region
 simp [wpOpsS, go_sem, recoverD, hu, Tryz.ntmps19, Exit.thenS]
 apply wpS_seq
 apply wpS_region
 simp [wpOpsS, go_sem, recoverD, Exit.thenS]
 refine wpS_cond (t := true) (by simp [Act.eval, Array.replicate]) ?_
 simp only [if_true]
 refine wpS_of_wp ?_
 change Code.wp _ _ _ { tmps := #[.pointer (some ⟨B, 0, none⟩), .pointer (some ⟨B + 1, 0, none⟩), .pointer (some ⟨B + 2, 0, none⟩), (.iface 67 (.agg #[.int .i64 (p : Int), .int .i64 er])), undef, (.iface 67 (.agg #[.int .i64 (p : Int), .int .i64 er])), (.iface 67 (.agg #[.int .i64 (p : Int), .int .i64 er])), .bool true, undef, undef, undef, undef, undef, undef], defers := [] } w
 have hta := ra_wrong (.agg #[.int .i64 (p : Int), .int .i64 er])
 have hB0 : B < w.heap.size := by omega
 have hB1 : B + 1 < w.heap.size := by omega
 have h01 : B ≠ B + 1 := by omega
 have h02 : B ≠ B + 2 := by omega
 have h12 : B + 1 ≠ B + 2 := by omega
 have hn0 : w.heap.size ≠ B := by omega
 have hn1 : w.heap.size ≠ B + 1 := by omega
 have hn2 : w.heap.size ≠ B + 2 := by omega
 go_wp2_with fail
 go_region
 all_goals
  simp (config := { zetaDelta := true }) [bodyPostS, results, Tryz.results19]
  refine ⟨(((((Below.refl B w).setCell (by simp) _).setCell (by simp) _).setCell (by simp) _).alloc (by simp; omega) _).drew, ?_, ?_, ?_⟩
  all_goals go_simp
end Go.Proofs.YtibcpdmeigdgpaaGreatDoor
namespace Go.Proofs.YtibcpdmeigdgpaaGreatDoor
def NZ {α : Type} (r : PR α) : Prop := ∀ e, r = .error e → e.2 ≠ 0
theorem NZ.ok {α : Type} (x : α × Nat × List ByteArray) : NZ (.ok x : PR α) := fun _ h => by cases h
theorem NZ.er {α : Type} {p k : Int} (h : k ≠ 0) : NZ (.error (p, k) : PR α) := fun e he => by injection he with he; subst he; exact h
theorem NZ.and {α β : Type} {r : PR α} {f : α → Nat → List ByteArray → PR β} (h : NZ r) (h2 : ∀ a j ns, NZ (f a j ns)) : NZ (r.andThen f) := by
 cases r with
 | error e => intro e' he; injection he with he; subst he; exact h e rfl
 | ok x => exact h2 x.1 x.2.1 x.2.2
section
variable {tk : List Tk} {sz : Nat} {tm : Int → Nat → List ByteArray → PR T}
theorem nz_must {α : Type} (m : ByteArray) (a : α) (i : Nat) (ns : List ByteArray) : NZ (mustN tk sz m a i ns) := by
 unfold mustN
 split
 ·exact .ok _
 ·exact .er (by decide)
theorem nz_int (x : Tk) (b : Bool) (j : Nat) (ns : List ByteArray) : NZ (intP x b j ns) := by
 unfold intP
 split
 ·exact .ok _
 ·exact .er (by decide)
def TmZ (tm : Int → Nat → List ByteArray → PR T) : Prop := ∀ m i ns, NZ (tm m i ns)
theorem nz_rowC (h : TmZ tm) : ∀ (f : Nat) (l : List T) (j : Nat) (ns : List ByteArray), NZ (rowC tk sz tm f l j ns)
 | 0, _, _, _ => .ok _
 | f + 1, l, j, ns => by
  unfold rowC
  split
  ·exact (h _ _ _).and fun _ _ _ => nz_rowC h f _ _ _
  ·exact .ok _
theorem nz_row (h : TmZ tm) (j : Nat) (ns : List ByteArray) : NZ (rowP tk sz tm j ns) := (h _ _ _).and fun _ _ _ => nz_rowC h _ _ _ _
theorem nz_list (h : TmZ tm) (j : Nat) (ns : List ByteArray) : NZ (listP tk sz tm j ns) := by
 unfold listP
 split
 ·exact .ok _
 ·refine (nz_row h _ _).and fun _ _ _ => ?_
  split
  ·exact (h _ _ _).and fun _ _ _ => nz_must _ _ _ _
  ·exact nz_must _ _ _ _
theorem nz_named (h : TmZ tm) (t : Tk) (most : Int) (i : Nat) (ns : List ByteArray) : NZ (namedP tk sz tm t most i ns) := by
 unfold namedP
 dsimp only
 split
 ·exact (nz_row h _ _).and fun _ _ _ => nz_must _ _ _ _
 ·split
  ·exact (nz_int _ _ _ _).and fun _ _ _ => .ok _
  ·split
   ·exact .ok _
   ·split
    ·exact (h _ _ _).and fun _ _ _ => .ok _
    ·exact .ok _
theorem nz_operand (h : TmZ tm) (most : Int) (i : Nat) (ns : List ByteArray) : NZ (operandP tk sz tm most i ns) := by
 unfold operandP
 dsimp only
 split
 ·exact (nz_int _ _ _ _).and fun _ _ _ => .ok _
 ·split
  ·exact .ok _
  ·split
   ·exact (h _ _ _).and fun _ _ _ => nz_must _ _ _ _
   ·split
    ·exact (nz_list h _ _).and fun _ _ _ => .ok _
    ·split
     ·split
      ·exact .ok _
      ·exact (h _ _ _).and fun _ _ _ => nz_must _ _ _ _
     ·split
      ·exact nz_named h _ _ _ _
      ·exact .er (by decide)
theorem nz_infix (h : TmZ tm) (most : Int) : ∀ (f : Nat) (t : T) (pr : Int) (j : Nat) (ns : List ByteArray), NZ (infixC tk sz tm most f t pr j ns)
 | 0, _, _, _, _ => .ok _
 | f + 1, t, pr, j, ns => by
  unfold infixC
  dsimp only
  split
  ·exact .ok _
  ·split
   ·exact .ok _
   ·split
    ·exact .ok _
    ·exact (h _ _ _).and fun _ _ _ => nz_infix h most f _ _ _ _
theorem nz_term : ∀ (d : Nat), TmZ (termP tk sz d)
 | 0 => fun _ _ _ => .er (by decide)
 | d + 1 => fun _ _ _ => (nz_operand (nz_term d) _ _ _).and fun _ _ _ => nz_infix (nz_term d) _ _ _ _ _ _
end
end Go.Proofs.YtibcpdmeigdgpaaGreatDoor
namespace Go.Proofs.YtibcpdmeigdgpaaGreatDoor
open Go.RowKit
theorem sent_ok {tk : List Tk} {sz f j j' : Nat} {x : T × List ByteArray} {ns : List ByteArray} {l : Sens} (hj : j < tk.length) (h : sentP tk sz j = .ok (x, j', ns)) : readC tk sz (f + 1) j l = readC tk sz f j' (l ++ [x]) := by
 unfold sentP at h
 cases ht : termP tk sz 65 1200 j [] with
 | error e => rw [ht] at h; cases h
 | ok y =>
  obtain ⟨t, j1, ns1⟩ := y
  rw [ht] at h
  simp only [PR.andThen] at h
  split at h
  ·rename_i hk
   injection h with h
   injection h with h1 h2
   injection h2 with h2 h3
   subst h1 h2
   exact readC_go hj ht hk
  ·cases h
theorem sent_er {tk : List Tk} {sz f j : Nat} {e : Int × Int} {l : Sens} (hj : j < tk.length) (h : sentP tk sz j = .error e) : readC tk sz (f + 1) j l = .error e := by
 unfold sentP at h
 cases ht : termP tk sz 65 1200 j [] with
 | error e1 =>
  rw [ht] at h
  simp only [PR.andThen] at h
  injection h with h
  subst h
  obtain ⟨p, k⟩ := e1
  exact readC_err hj ht
 | ok y =>
  obtain ⟨t, j1, ns1⟩ := y
  rw [ht] at h
  simp only [PR.andThen] at h
  split at h
  ·cases h
  ·rename_i hk
   injection h with h
   subst h
   exact readC_no hj ht hk
theorem sent_ns {tk : List Tk} {sz j j' : Nat} {x : T × List ByteArray} {ns : List ByteArray} (h : sentP tk sz j = .ok (x, j', ns)) : ns = x.2 := by
 unfold sentP at h
 cases ht : termP tk sz 65 1200 j [] with
 | error e => rw [ht] at h; cases h
 | ok y =>
  obtain ⟨t, j1, ns1⟩ := y
  rw [ht] at h
  simp only [PR.andThen] at h
  split at h
  ·injection h with h
   injection h with h1 h2
   injection h2 with h2 h3
   subst h1 h3
   rfl
  ·cases h
theorem sentP_ne {tk : List Tk} {sz j : Nat} {p e : Int} (h : sentP tk sz j = .error (p, e)) : e ≠ 0 := by
 have hz : NZ (sentP tk sz j) := by
  unfold sentP
  refine (nz_term 65 _ _ _).and fun t j' ns => ?_
  split
  ·exact .ok _
  ·exact .er (by decide)
 exact hz _ h
def SenR (w : World) (lo : Nat) (xs : List Value) (ss : List (T × List ByteArray)) : Prop := ∀ (k : Nat) (x : T × List ByteArray), ss[k]? = some x →
 ∃ k0 k1 k2 A m cc NA nc, xs[5 * k]? = some (.int .i64 k0) ∧ xs[5 * k + 1]? = some (.int .i64 k1) ∧ xs[5 * k + 2]? = some (.string k2) ∧ xs[5 * k + 3]? = some (.slice A m cc) ∧ xs[5 * k + 4]? = some (.slice NA x.2.length nc) ∧
  TP w (fun b => lo ≤ b) x.1 (.agg #[.int .i64 k0, .int .i64 k1, .string k2, .slice A m cc]) ∧ x.1.good ∧ x.1.nodes ≤ 1000 ∧ x.2.length ≤ 1000 ∧ w.ownsRow lo 9 1 (.slice NA x.2.length nc) x.2.length (x.2.map Value.string)
theorem SenR.keep {w w' : World} {lo : Nat} {xs : List Value} {ss : List (T × List ByteArray)} (h : SenR w lo xs ss) (hk : ∀ (b : Nat) (cs : Array Value) (t : TypeId) (f : Nat × Nat), w.heap[b]? = some (.cells cs t f) → t = 39 ∨ t = 9 → w'.heap[b]? = some (.cells cs t f)) : SenR w' lo xs ss := by
 intro k x hx
 obtain ⟨k0, k1, k2, A, m, cc, NA, nc, h0, h1, h2, h3, h4, ht, hg, hn, hl, ho⟩ := h k x hx
 exact ⟨k0, k1, k2, A, m, cc, NA, nc, h0, h1, h2, h3, h4, ht.keep fun b cs f hS hb => ⟨hk b cs _ f hb (.inl rfl), hS⟩, hg, hn, hl, own_keep ho fun g hg => by
  obtain ⟨cs, f, hh⟩ := Go.Lib.ownsRow_kind ho g hg
  exact (hk g cs _ f hh (.inr rfl)).trans hh.symm⟩
theorem SenR.push {w : World} {lo : Nat} {xs : List Value} {ss : List (T × List ByteArray)} (h : SenR w lo xs ss) (hl : xs.length = 5 * ss.length) {x : T × List ByteArray} {k0 k1 : Int} {k2 : ByteArray} {A : Option Addr} {m cc : Nat} {NA : Option Addr} {nc : Nat}
 (ht : TP w (fun b => lo ≤ b) x.1 (.agg #[.int .i64 k0, .int .i64 k1, .string k2, .slice A m cc])) (hg : x.1.good) (hn : x.1.nodes ≤ 1000) (hn2 : x.2.length ≤ 1000) (ho : w.ownsRow lo 9 1 (.slice NA x.2.length nc) x.2.length (x.2.map Value.string)) :
 SenR w lo (xs ++ [.int .i64 k0, .int .i64 k1, .string k2, .slice A m cc, .slice NA x.2.length nc]) (ss ++ [x]) := by
 intro k y hy
 by_cases hk : k < ss.length
 ·rw [List.getElem?_append_left hk] at hy
  obtain ⟨k0, k1, k2, A, m, cc, NA, nc, h0, h1, h2, h3, h4, hr⟩ := h k y hy
  exact ⟨k0, k1, k2, A, m, cc, NA, nc, (List.getElem?_append_left (by omega)).trans h0, (List.getElem?_append_left (by omega)).trans h1, (List.getElem?_append_left (by omega)).trans h2, (List.getElem?_append_left (by omega)).trans h3, (List.getElem?_append_left (by omega)).trans h4, hr⟩
 ·rw [List.getElem?_append_right (by omega)] at hy
  obtain ⟨rfl, rfl⟩ : k = ss.length ∧ x = y := by
   rcases Nat.eq_or_lt_of_le (Nat.le_of_not_lt hk) with e | e
   ·subst e; simp at hy; exact ⟨rfl, hy⟩
   ·rw [List.getElem?_eq_none (by simp; omega)] at hy; cases hy
  have key : ∀ q, (xs ++ [Value.int .i64 k0, .int .i64 k1, .string k2, .slice A m cc, .slice NA x.2.length nc])[5 * ss.length + q]? = [Value.int .i64 k0, .int .i64 k1, .string k2, .slice A m cc, .slice NA x.2.length nc][q]? := fun q => by
   rw [List.getElem?_append_right (by omega), hl]
   congr 1
   omega
  exact ⟨k0, k1, k2, A, m, cc, NA, nc, by simpa using key 0, by simpa using key 1, by simpa using key 2, by simpa using key 3, by simpa using key 4, ht, hg, hn, hn2, ho⟩
structure RdI (c : Rdc) (w wr : World) (j : Nat) (o : Value) (xs : List Value) (ss : List (T × List ByteArray)) : Prop where
 rd : ∃ ns, Pd wr c j ns
 low : Below w.heap.size w wr
 own : wr.ownsRow w.heap.size 42 5 o ss.length xs
 sr : SenR wr w.heap.size xs ss
 few : ss.length ≤ j
theorem Frp.keepS {c : Rdc} {w w1 : World} {j : Nat} {ns : List ByteArray} (h : Frp (c.on w.heap.size) w w1) (hp : Pd w c j ns) {b : Nat} {cs : Array Value} {t : TypeId} {m : Nat × Nat} (hb : w.heap[b]? = some (.cells cs t m)) (ht : t ≠ 70) : w1.heap[b]? = some (.cells cs t m) := by
 refine h.keep b cs t m hb (fun e => ?_) fun _ => ?_
 ·subst e
  obtain ⟨_, _, _, _, _, hr⟩ := hp
  rw [show w.heap[(c.on w.heap.size).R]? = _ from hr.blk] at hb
  injection hb with hb
  injection hb with _ hb
  exact ht hb.symm
 ·have h1 := heap_lt hb
  have h2 := hp.base
  show b < c.B + (w.heap.size - c.B)
  omega
theorem RdI.row {c : Rdc} {w wr w1 : World} {j : Nat} {o : Value} {xs : List Value} {ss : List (T × List ByteArray)} (h : RdI c w wr j o xs ss) (f : Frp (c.on wr.heap.size) wr w1) :
 w1.ownsRow w.heap.size 42 5 o ss.length xs ∧ SenR w1 w.heap.size xs ss := by
 obtain ⟨ns, hp⟩ := h.rd
 refine ⟨own_keep h.own fun g hg => ?_, h.sr.keep fun b cs t m hb ht => f.keepS hp hb (by rcases ht with rfl | rfl <;> decide)⟩
 obtain ⟨cs, m, hh⟩ := Go.Lib.ownsRow_kind h.own g hg
 exact (f.keepS hp hh (by decide)).trans hh.symm
theorem Pd.lower {w : World} {c : Rdc} {j n : Nat} {ns : List ByteArray} (h : Pd w (c.on n) j ns) (hN : c.N = 0) : Pd w c j ns := by
 obtain ⟨ht, hf, lv, nv, nn, hr⟩ := h
 exact ⟨⟨ht.len, ht.few, ht.long, ht.ok, ht.cap, ht.nil, ht.BR, ht.nm, ht.blk⟩, hf, lv, nv, nn, hr.blk, hr.lok, ownsRow_more hr.own (by show c.B + c.N ≤ c.B + (n - c.B); omega), hr.up, hr.few⟩
theorem Pd.stands {w w' : World} {c : Rdc} {j : Nat} {ns : List ByteArray} (h : Pd w c j ns) (hk : ∀ (b : Nat) (cs : Array Value) (t : TypeId) (f : Nat × Nat), w.heap[b]? = some (.cells cs t f) → t = 83 ∨ t = 9 ∨ t = 70 → w'.heap[b]? = some (.cells cs t f)) : Pd w' c j ns := by
 obtain ⟨ht, hf, lv, nv, nn, hr⟩ := h
 refine ⟨ht.keep fun b cs hh => (hk b cs _ _ hh (.inl rfl)).trans hh.symm, hf, lv, nv, nn, hk _ _ _ _ hr.blk (.inr (.inr rfl)), hr.lok, own_keep hr.own fun g hg => ?_, hr.up, hr.few⟩
 obtain ⟨cs, m, hh⟩ := Go.Lib.ownsRow_kind hr.own g hg
 exact (hk g cs _ m hh (.inr (.inl rfl))).trans hh.symm
theorem RdI.push {c : Rdc} {w wr w1 w8 w9 : World} {j j1 : Nat} {o o' : Value} {xs : List Value} {ss : List (T × List ByteArray)} {x : T × List ByteArray} {ns1 : List ByteArray} {k0 k1 : Int} {k2 : ByteArray} {A : Option Addr} {m cc : Nat} {NA : Option Addr} {nc : Nat}
 (h : RdI c w wr j o xs ss) (f : Frp (c.on wr.heap.size) wr w1) (hN : c.N = 0) (hlo : w.heap.size ≤ c.B) (hp : Pd w1 (c.on wr.heap.size) j1 ns1)
 (ht : TP w1 (fun b => wr.heap.size ≤ b) x.1 (.agg #[.int .i64 k0, .int .i64 k1, .string k2, .slice A m cc])) (hgd : x.1.good) (hnd : j + x.1.nodes + 1 ≤ j1) (hnx : ns1 = x.2)
 (ho : w1.ownsRow ((c.on wr.heap.size).B + (c.on wr.heap.size).N) 9 1 (.slice NA x.2.length nc) x.2.length (x.2.map Value.string)) (hb : Below w1.heap.size w1 w8)
 (hown : w9.ownsRow w.heap.size 42 5 o' (ss.length + 1) (xs ++ [.int .i64 k0, .int .i64 k1, .string k2, .slice A m cc, .slice NA x.2.length nc])) (hg : w8.grownBy w9 o.ownBlock) :
 RdI c w w9 j1 o' (xs ++ [.int .i64 k0, .int .i64 k1, .string k2, .slice A m cc, .slice NA x.2.length nc]) (ss ++ [x]) := by
 obtain ⟨o1, s1⟩ := h.row f
 have o8 := own_below o1 hb
 have keep : ∀ (b : Nat) (cs : Array Value) (t : TypeId) (f : Nat × Nat), w1.heap[b]? = some (.cells cs t f) → t ≠ 42 → w9.heap[b]? = some (.cells cs t f) := fun b cs t f hh hne => by
  have h8 := (hb.block b (heap_lt hh)).trans hh
  exact (hg.block b (heap_lt h8) (own_ne5 o8 h8 hne)).trans h8
 have hl : xs.length = 5 * ss.length := by have := own_len h.own; omega
 have hup := hp.up
 have hfew : c.tn ≤ 1000 := hp.1.few
 have hup' : j1 ≤ c.tn := hup
 have hls := h.low.size
 have hff := h.few
 refine ⟨⟨ns1, (hp.lower hN).stands fun b cs t f hh ht => keep b cs t f hh (by rcases ht with rfl | rfl | rfl <;> decide)⟩, ?_, by rw [List.length_append]; exact hown, ?_, by rw [List.length_append, List.length_singleton]; omega⟩
 ·refine (((h.low.trans (f.low.mono hlo)).trans (hb.mono (Nat.le_trans hls f.size)))).grown hg (Nat.le_trans (Nat.le_trans hls f.size) hb.size) fun k hk => (h.own.lt k hk).1
 ·refine SenR.push (s1.keep fun b cs t f hh ht => keep b cs t f hh (by rcases ht with rfl | rfl <;> decide)) hl (ht.keep fun b cs f hS hh => ⟨keep b cs _ f hh (by decide), Nat.le_trans hls hS⟩) hgd (by omega) (by have h9 := hp.names; rw [hnx] at h9; omega) ?_
  refine ownsRow_more (own_keep ho fun g hg' => ?_) (by show w.heap.size ≤ c.B + (wr.heap.size - c.B); omega)
  obtain ⟨cs, m, hh⟩ := Go.Lib.ownsRow_kind ho g hg'
  exact (keep g cs _ m hh (by decide)).trans hh.symm
theorem RdI.set {c : Rdc} {w wr : World} {j : Nat} {o : Value} {xs : List Value} {ss : List (T × List ByteArray)} (h : RdI c w wr j o xs ss) {b : Nat} {cs : Array Value} {t : TypeId} {m : Nat × Nat} (hb : wr.heap[b]? = some (.cells cs t m)) (ht : t ≠ 42 ∧ t ≠ 83 ∧ t ≠ 9 ∧ t ≠ 70 ∧ t ≠ 39) (hlo : w.heap.size ≤ b) (i : Nat) (u : Value) : RdI c w (wr.setCell ⟨b, i, none⟩ u) j o xs ss := by
 have keep : ∀ (g : Nat) (cs' : Array Value) (t' : TypeId) (f : Nat × Nat), wr.heap[g]? = some (.cells cs' t' f) → t' ≠ t → (wr.setCell ⟨b, i, none⟩ u).heap[g]? = some (.cells cs' t' f) := fun g cs' t' f hh hne => (Below.heap_setCell _ _ _ _ (by
  rintro rfl
  rw [show wr.heap[_]? = _ from hb] at hh
  injection hh with hh
  injection hh with _ hh
  exact hne hh.symm)).trans hh
 obtain ⟨⟨ns, hp⟩, hlow, ho, hs, hf⟩ := h
 refine ⟨⟨ns, hp.stands fun g cs' t' f hh htt => keep g cs' t' f hh ?_⟩, hlow.setCell (p := ⟨b, i, none⟩) hlo u, own_keep ho fun g hg => ?_, hs.keep fun g cs' t' f hh htt => keep g cs' t' f hh ?_, hf⟩
 ·rcases htt with rfl | rfl | rfl
  ·exact ht.2.1.symm
  ·exact ht.2.2.1.symm
  ·exact ht.2.2.2.1.symm
 ·obtain ⟨cs', m', hh⟩ := Go.Lib.ownsRow_kind ho g hg
  exact (keep g cs' _ m' hh ht.1.symm).trans hh.symm
 ·rcases htt with rfl | rfl
  ·exact ht.2.2.2.2.symm
  ·exact ht.2.2.1.symm
end Go.Proofs.YtibcpdmeigdgpaaGreatDoor
