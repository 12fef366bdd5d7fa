/- An integer's text. An answer:one part is added. -/
import Derived.Test.YtdgpmpccfjmmcaaGreatDoorKY0
import Derived.Test.YtdgpmpccfjmmcaaGreatDoorKJBe
import Derived.Test.YtdgpmpccfjmmcaaGreatDoorKJAv
import Derived.Test.YtdgpmpccfjmmcaaGreatDoorKJAr
import Derived.Lib.ItoaLen
import Derived.Deep.DeepCutAuto
import Derived.Test.YtdgpmpccfjmmcaaGreatDoorKJAt
import Derived.Test.YtdgpmpccfjmmcaaGreatDoorKJAc
set_option linter.unusedVariables false
set_option linter.unusedSimpArgs false
namespace Go.Proofs.YtdgpmpccfjmmcaaGreatDoor
open Go.RowKit
theorem printI_any (a:Int) (w:World) (ha:I64 a) (ht:TabX w):Calls Tryz.prog 19 #[.int .i64 a] w fun e w' => e=.returned (.string ⟨(Lib.itoa a).toArray⟩)∧Below w.heap.size w w':=by
 have CI:=Lib.hid (itoa_any a w ha ht)
 clear ht
 go_enter Tryz.func19,Tryz.ntmps19
 go_wp2_with fail
 refine CI.out.mono ?_
 rintro e w1 ⟨rfl,hb⟩
 have HB:=Lib.hid hb
 clear hb
 go_wp2_with fail
 go_ret
 exact ⟨rfl,HB.out⟩
theorem itoa_few {x:Int} (h:I64 x):(Lib.itoa x).length≤21:=by
 have h2:=Lib.itoa_length_le x h.1 h.2
 have:(⟨(Lib.itoa x).toArray⟩:ByteArray).size=(Lib.itoa x).length:=by show (Lib.itoa x).toArray.size=_;simp
 omega
theorem goodf_int (n:Int) (A:Option Addr) (c lb fb:Nat) (w:World) (x0:w.cell? ⟨lb,0,none⟩=some (.int .i64 1000)) (f0:w.frozen? ⟨lb,0,none⟩=false) (hlb:lb < w.heap.size) {B:Nat} (hB:B≤lb) :
 Calls Tryz.prog 147 #[intV n A c,.pointer (some ⟨lb,0,none⟩),.pointer (some ⟨fb,0,none⟩)] w fun e w' => e=.returned (.bool true)∧Below B w w':=by
 unfold intV
 go_enter Tryz.func147,Tryz.ntmps147
 go_wp2_with fail
 go_ret
 exact ⟨rfl,((Below.refl _ _).setCell (p:=⟨lb,0,none⟩) hB _).alloc (by simp;omega) _⟩
theorem good_int (n:Int) (A:Option Addr) (c:Nat) (w:World):Calls Tryz.prog 100 #[intV n A c] w fun e w' => e=.returned (.bool true)∧Below w.heap.size w w':=by
 have hmf:∀ (fn:Fn) (first cap:Array Value) (w:World),(Instr.makeFunc fn first cap).run Tryz.prog w=.ok (.func fn first cap) w:=fun _ _ _ _ => rfl
 have SF:∀ (a:Addr) (cs:Array Value) (m:Mode) (W:World),(store a (.func (.func 147) #[] cs) m).run Tryz.prog W=stored Tryz.prog W a (.func (.func 147) #[] cs) m:=fun a cs m W => run_store _ W a _ m rfl
 have GI:=goodf_int n A c
 unfold intV at GI ⊢
 go_enter Tryz.func100,Tryz.ntmps100
 go_wp2_with fail
 have B3:=Lib.hid (show Below w.heap.size w (((w.alloc (Obj.cells #[.int .i64 2,.int .i64 n,.string ⟨#[]⟩,.slice A 0 c] 51)).alloc (Obj.cells #[.int .i64 1000] 3)).alloc (Obj.cells #[.func (.func 147) #[] #[.pointer (some ⟨w.heap.size+1,0,none⟩),.pointer (some ⟨w.heap.size+1+1,0,none⟩)]] 106)) from belA (belA (belA (Below.refl _ _) _) _) _)
 have X1:(((w.alloc (Obj.cells #[.int .i64 2,.int .i64 n,.string ⟨#[]⟩,.slice A 0 c] 51)).alloc (Obj.cells #[.int .i64 1000] 3)).alloc (Obj.cells #[.func (.func 147) #[] #[.pointer (some ⟨w.heap.size+1,0,none⟩),.pointer (some ⟨w.heap.size+1+1,0,none⟩)]] 106)).heap[w.heap.size+1]? =some (.cells #[.int .i64 1000] 3 (0,0)):=(Below.heap_alloc _ _ _ (by simp)).trans (heap_at _ _ (by simp))
 generalize ((w.alloc (Obj.cells #[.int .i64 2,.int .i64 n,.string ⟨#[]⟩,.slice A 0 c] 51)).alloc (Obj.cells #[.int .i64 1000] 3)).alloc (Obj.cells #[.func (.func 147) #[] #[.pointer (some ⟨w.heap.size+1,0,none⟩),.pointer (some ⟨w.heap.size+1+1,0,none⟩)]] 106)=W3 at B3 X1 ⊢
 refine (GI _ _ _ (cell_of_row _ _ 0 _ _ _ X1) (by simp [World.frozen?,X1]) (heap_lt X1) (B:=w.heap.size) (by omega)).mono ?_
 rintro e w4 ⟨rfl,h4⟩
 have B4:=Lib.hid (B3.out.trans h4)
 clear h4 X1
 go_wp2_with fail
 go_ret
 exact ⟨rfl,B4.out⟩
set_option maxRecDepth 100000 in
theorem term_int {B b:Nat} {nv:Value} {n:Int} {A:Option Addr} {c:Nat} {w:World} (hn:I64 n) (ht:TabX w) (h:IsW B b nv (Lib.byteCells []) w) :
 Calls Tryz.prog 101 #[.pointer (some ⟨b,0,none⟩),intV n A c] w fun e w' => e=.returned (.tuple #[])∧IsW B b nv (Lib.byteCells (Lib.itoa n)) w'∧Below B w w':=by
 have H:=Lib.hid h
 have hle:=h.le
 have B0:=Lib.hid (show Below w.heap.size w (w.alloc (Obj.cells #[.int .i64 2,.int .i64 n,.string ⟨#[]⟩,.slice A 0 c] 51)).drew from (belA (Below.refl _ _) _).drew)
 have X0:=Lib.hid (show (w.alloc (Obj.cells #[.int .i64 2,.int .i64 n,.string ⟨#[]⟩,.slice A 0 c] 51)).drew.heap[w.heap.size]? =some (Obj.cells #[.int .i64 2,.int .i64 n,.string ⟨#[]⟩,.slice A 0 c] 51 (0,0)) from heap_alloc_new _ _)
 have HT:=Lib.hid ht
 unfold intV
 clear h ht
 go_enter Tryz.func101,Tryz.ntmps101
 go_upto_region 7 with fail
 refine rg [(4,fun u => AC u w.heap.size 1 [.int .i64 n])] (hS:=⟨⟨cell_of_row _ _ 1 _ _ _ X0.out,trivial⟩,trivial⟩) (h:=fun hH => ?_)
 generalize (w.alloc (Obj.cells #[.int .i64 2,.int .i64 n,.string ⟨#[]⟩,.slice A 0 c] 51)).drew=W1 at B0 X0 hH ⊢
 refine tp 0 (h:=tp 1 (h:=tp 2 (h:=tp 3 (h:=tl 4 (h:=r1 5 [] (h:=fun K hK => ?_))))))
 go_simp
 refine (printI_any n W1 hn (HT.out.below B0.out)).mono ?_
 rintro e w2 ⟨rfl,b2⟩
 have B2:=Lib.hid (B0.out.trans (b2.mono B0.out.size))
 refine hK.out _ _ trivial (fun _ => ?_)
 clear hK K b2
 refine r1 6 [] (h:=fun K hK => ?_)
 go_simp
 refine (wrb_any B b nv [] (Lib.itoa n) _ w2 (H.out.below B2.out) (by simp) (by have:=itoa_few hn;simp;omega)).mono ?_
 rintro e w3 ⟨rfl,h3,k3⟩
 refine hK.out _ _ trivial (fun _ => ?_)
 clear hK K
 refine dn (h:=?_)
 have H3:=Lib.hid h3
 have K3:=Lib.hid ((B2.out.mono hle).trans k3.low)
 clear h3 k3
 go_wp2_with fail
 go_end0
 exact ⟨rfl,H3.out,K3.out⟩
theorem wnamed_int {n:Int} {A:Option Addr} {c:Nat} {w:World} (hn:I64 n) (ht:TabX w) (h0:Lib.itoa n≠[]) :
 Calls Tryz.prog 63 #[intV n A c,.slice none 0 0] w fun e w' => e=.returned (.string ⟨(Lib.itoa n).toArray⟩)∧Below w.heap.size w w':=by
 have B0:=Lib.hid (show Below w.heap.size w (w.alloc (Obj.cells #[.int .i64 2,.int .i64 n,.string ⟨#[]⟩,.slice A 0 c] 51)) from belA (Below.refl _ _) _)
 have X0:=Lib.hid (show (w.alloc (Obj.cells #[.int .i64 2,.int .i64 n,.string ⟨#[]⟩,.slice A 0 c] 51)).heap[w.heap.size]? =some (Obj.cells #[.int .i64 2,.int .i64 n,.string ⟨#[]⟩,.slice A 0 c] 51 (0,0)) from heap_alloc_new _ _)
 have GD:=fun w => good_int n A c w
 have HT:=Lib.hid ht
 unfold intV at GD ⊢
 clear ht
 go_enter Tryz.func63,Tryz.ntmps63
 go_wp2_with fail
 refine (GD _).mono ?_
 rintro e w1 ⟨rfl,b1⟩
 have B1:=Lib.hid (B0.out.trans (b1.mono B0.out.size))
 have X1:=Lib.hid ((b1.block _ (heap_lt X0.out)).trans X0.out)
 have hl1:=heap_lt X1.out
 have hB1:=B1.out.size
 have B2:=Lib.hid (B1.out.trans (belA (Below.refl w1.heap.size w1) (Obj.cells #[.pointer none,.slice none 0 0,.slice none 0 0] TW) |>.mono B1.out.size))
 have IW:=Lib.hid (wr_new w1 (.slice none 0 0))
 have y:=(Below.heap_alloc w1 (Obj.cells #[.pointer none,.slice none 0 0,.slice none 0 0] TW) _ hl1).trans X1.out
 obtain ⟨z0,z1,z2,z3⟩:=box4 y
 clear b1 y
 go_wp2_with fail
 generalize w1.alloc (Obj.cells #[.pointer none,.slice none 0 0,.slice none 0 0] TW)=W2 at*
 have TI:=term_int (A:=A) (c:=c) hn (HT.out.below B2.out) IW.out
 unfold intV at TI
 refine TI.mono ?_
 rintro e w3 ⟨rfl,h3,b3⟩
 have H3:=Lib.hid h3
 have B3:=Lib.hid (B2.out.trans (b3.mono hB1))
 clear h3 b3 TI
 go_wp2_with fail
 refine (wrtext_any w1.heap.size w1.heap.size _ (Lib.itoa n) _ H3.out h0).mono ?_
 rintro e w4 ⟨rfl,b4⟩
 have B4:=Lib.hid (B3.out.trans (b4.mono hB1))
 clear b4
 go_wp2_with fail
 go_ret
 exact ⟨rfl,B4.out⟩
theorem write_int {n:Int} {A:Option Addr} {c:Nat} {w:World} (hn:I64 n) (ht:TabX w) (h0:Lib.itoa n≠[]) :
 Calls Tryz.prog 29 #[intV n A c] w fun e w' => e=.returned (.string ⟨(Lib.itoa n).toArray⟩)∧Below w.heap.size w w':=by
 have B0:=Lib.hid (show Below w.heap.size w (w.alloc (Obj.cells #[.int .i64 2,.int .i64 n,.string ⟨#[]⟩,.slice A 0 c] 51)) from belA (Below.refl _ _) _)
 have NI:=Lib.hid (wnamed_int (A:=A) (c:=c) hn (ht.below B0.out) h0)
 unfold intV at NI ⊢
 clear ht
 go_enter Tryz.func29,Tryz.ntmps29
 go_wp2_with fail
 refine NI.out.mono ?_
 rintro e w1 ⟨rfl,b1⟩
 have B1:=Lib.hid (B0.out.trans (b1.mono B0.out.size))
 clear b1
 go_wp2_with fail
 go_ret
 exact ⟨rfl,B1.out⟩
end Go.Proofs.YtdgpmpccfjmmcaaGreatDoor
namespace Go.Proofs.YtdgpmpccfjmmcaaGreatDoor
open Go.RowKit
structure PartM (B:Nat) (w:World) (pb hb:Nat) (k n:Int) (s:ByteArray) (A:Option Addr) (m c:Nat) (hd:ByteArray):Prop where
 ex:∃ g1 c1 g2 c2,w.heap[pb]? =some (.cells #[.slice (some ⟨g1,0,none⟩) 1 c1] 47 (0,0))∧w.heap[hb]? =some (.cells #[.slice (some ⟨g2,0,none⟩) 1 c2] 52 (0,0))∧
  w.ownsRow B 51 4 (.slice (some ⟨g1,0,none⟩) 1 c1) 1 [.int .i64 k,.int .i64 n,.string s,.slice A m c]∧w.ownsRow B 9 1 (.slice (some ⟨g2,0,none⟩) 1 c2) 1 [.string hd]
theorem grown_none {w w':World} (h:w.grownBy w' none):Below w.heap.size w w':=⟨h.os,h.tape,h.output,h.size,fun k hk => h.block k hk nofun⟩
theorem add_fin {B pb hb:Nat} {k n:Int} {s:ByteArray} {A:Option Addr} {m c:Nat} {hd:ByteArray} {w w9:World} {g1 c1 g2 c2:Nat} (hB:B≤pb∧B≤hb) (hpl:pb < w.heap.size) (hhl:hb < w.heap.size) (hne:pb≠hb) (h:Below w.heap.size w w9) (q0:w9.heap[pb]? =some (.cells #[.slice none 0 0] 47 (0,0))) (q1:w9.heap[hb]? =some (.cells #[.slice none 0 0] 52 (0,0)))
 (o1:w9.ownsRow w.heap.size 51 4 (.slice (some ⟨g1,0,none⟩) 1 c1) 1 [.int .i64 k,.int .i64 n,.string s,.slice A m c]) (o2:w9.ownsRow w.heap.size 9 1 (.slice (some ⟨g2,0,none⟩) 1 c2) 1 [.string hd]) :
 PartM w.heap.size ((w9.setCell ⟨pb,0,none⟩ (.slice (some ⟨g1,0,none⟩) 1 c1)).setCell ⟨hb,0,none⟩ (.slice (some ⟨g2,0,none⟩) 1 c2)) pb hb k n s A m c hd∧Below B w ((w9.setCell ⟨pb,0,none⟩ (.slice (some ⟨g1,0,none⟩) 1 c1)).setCell ⟨hb,0,none⟩ (.slice (some ⟨g2,0,none⟩) 1 c2))∧
 ∀ b,b < w.heap.size→b≠pb→b≠hb→((w9.setCell ⟨pb,0,none⟩ (.slice (some ⟨g1,0,none⟩) 1 c1)).setCell ⟨hb,0,none⟩ (.slice (some ⟨g2,0,none⟩) 1 c2)).heap[b]? =w.heap[b]?:=by
 have far:∀ b,b≠pb→b≠hb→((w9.setCell ⟨pb,0,none⟩ (.slice (some ⟨g1,0,none⟩) 1 c1)).setCell ⟨hb,0,none⟩ (.slice (some ⟨g2,0,none⟩) 1 c2)).heap[b]? =w9.heap[b]?:=fun b h1 h2 => (Below.heap_setCell _ _ _ b h2).trans (Below.heap_setCell _ _ _ b h1)
 have r1:=(Below.heap_setCell (w9.setCell ⟨pb,0,none⟩ (.slice (some ⟨g1,0,none⟩) 1 c1)) ⟨hb,0,none⟩ (.slice (some ⟨g2,0,none⟩) 1 c2) pb hne).trans (blk_set q0 0 (.slice (some ⟨g1,0,none⟩) 1 c1))
 have r2:=blk_set ((Below.heap_setCell w9 ⟨pb,0,none⟩ (.slice (some ⟨g1,0,none⟩) 1 c1) hb (Ne.symm hne)).trans q1) 0 (.slice (some ⟨g2,0,none⟩) 1 c2)
 refine ⟨⟨g1,c1,g2,c2,by simpa using r1,by simpa using r2,own_keep o1 fun g hg => ?_,own_keep o2 fun g hg => ?_⟩,((h.mono (by omega)).setCell (p:=⟨pb,0,none⟩) hB.1 _).setCell (p:=⟨hb,0,none⟩) hB.2 _,fun b hb1 h1 h2 => (far b h1 h2).trans (h.block b hb1)⟩
 ·have:=ownBlock_ge o1 g hg
  exact far g (by omega) (by omega)
 ·have:=ownBlock_ge o2 g hg
  exact far g (by omega) (by omega)
set_option maxRecDepth 100000 in
set_option maxHeartbeats 8000000 in
theorem add_any {B pb hb:Nat} {k n:Int} {s:ByteArray} {A:Option Addr} {m c:Nat} {hd:ByteArray} {w:World} (hp:w.heap[pb]? =some (.cells #[.slice none 0 0] 47 (0,0))) (hh:w.heap[hb]? =some (.cells #[.slice none 0 0] 52 (0,0))) (hB:B≤pb∧B≤hb) :
 Calls Tryz.prog 51 #[.string hd,.agg #[.int .i64 k,.int .i64 n,.string s,.slice A m c],.pointer (some ⟨pb,0,none⟩),.pointer (some ⟨hb,0,none⟩)] w fun e w' => e=.returned (.tuple #[])∧PartM w.heap.size w' pb hb k n s A m c hd∧Below B w w'∧∀ b,b < w.heap.size→b≠pb→b≠hb→w'.heap[b]? =w.heap[b]?:=by
 have hpl:=heap_lt hp
 have hhl:=heap_lt hh
 obtain ⟨ti,ti1,ti2,ti3,ti4⟩:=elTerm.hi
 obtain ⟨si,si1,si2,si3,si4⟩:=elStr.hi
 have B0:=Lib.hid (show Below w.heap.size w (w.alloc (Obj.cells #[.int .i64 k,.int .i64 n,.string s,.slice A m c] 51)).drew from (belA (Below.refl _ _) _).drew)
 have X0:=Lib.hid (show (w.alloc (Obj.cells #[.int .i64 k,.int .i64 n,.string s,.slice A m c] 51)).drew.heap[w.heap.size]? =some (Obj.cells #[.int .i64 k,.int .i64 n,.string s,.slice A m c] 51 (0,0)) from heap_alloc_new _ _)
 have hne:pb≠hb:=fun e => by
  subst e
  rw [hp] at hh
  injection hh with hh
  injection hh with _ hh
  exact absurd hh (by decide)
 have HP:=Lib.hid hp
 have HH:=Lib.hid hh
 clear hp hh
 go_enter Tryz.func51,Tryz.ntmps51
 go_upto_region 1 with fail
 refine rg [(0,fun u => AC u pb 0 [.slice none 0 0]),(1,fun u => AC u w.heap.size 0 [.int .i64 k,.int .i64 n,.string s,.slice A m c]),(4,fun u => AC u hb 0 [.slice none 0 0])]
  (hS:=⟨⟨cell_of_row _ _ 0 _ _ _ ((B0.out.block _ hpl).trans HP.out),trivial⟩,ac_of X0.out,⟨cell_of_row _ _ 0 _ _ _ ((B0.out.block _ hhl).trans HH.out),trivial⟩,trivial⟩) (h:=fun hH => ?_)
 generalize (w.alloc (Obj.cells #[.int .i64 k,.int .i64 n,.string s,.slice A m c] 51)).drew=W1 at B0 X0 hH ⊢
 have hs1:=B0.out.size
 refine tl 0 (h:=tl 1 (h:=tl 4 (h:=tp 5 (h:=r2 2 6 [0,4] [0,1,4] (h:=fun K hK => ?_) (h2:=fun K hK => ?_)))))
 ·go_simp
  have B1:=belA B0.out (Obj.cells #[.int .i64 k,.int .i64 n,.string s,.slice A m c] 51)
  have y1:(W1.alloc (Obj.cells #[.int .i64 k,.int .i64 n,.string s,.slice A m c] 51)).heap[W1.heap.size]? =some (Obj.cells #[.int .i64 k,.int .i64 n,.string s,.slice A m c] 51):=heap_at _ _ (by simp)
  refine hK.out _ _ ⟨⟨cell_of_row _ _ 0 _ _ _ ((B1.block _ hpl).trans HP.out),trivial⟩,⟨cell_of_row _ _ 0 _ _ _ ((B1.block _ hhl).trans HH.out),trivial⟩,trivial⟩ (fun _ => ?_)
  clear hK K
  have B1:=Lib.hid B1
  refine r2 3 6 [4] [0,4] (h:=fun K hK => ?_) (h2:=fun K hK => ?_)
  ·refine step_append_lies _ rfl _ _ _ rfl w.heap.size 51 ti (.agg #[.int .i64 0,.int .i64 0,.string ⟨#[]⟩,.slice none 0 0]) 4 56 Tryz.underlying47 ti1 ti2 ti3 ti4 rfl (by omega) _ 0 [] rfl (World.ownsRow_nil _ _ _ _) ⟨W1.heap.size,0,none⟩ 1 1 [.int .i64 k,.int .i64 n,.string s,.slice A m c] rfl rfl (World.news_of_block y1) (by intro u hu;simp at hu;rcases hu with rfl | rfl | rfl | rfl <;> rfl) (by omega) (by unfold maxLen;omega) (by omega) B1.out.size _ rfl ?_
   intro g2 c2 w2 o2 hg2 _ _
   have E2:=grown_none hg2
   have B2:=Lib.hid (B1.out.trans (E2.mono B1.out.size))
   refine hK.out _ _ ⟨⟨cell_of_row _ _ 0 _ _ _ ((B2.out.block _ hhl).trans HH.out),trivial⟩,trivial⟩ (fun _ => ?_)
   clear hK K hg2
   refine r1 6 [4] (h:=fun K hK => ?_)
   go_simp
   have B3:=belA B2.out (Obj.cells #[.string hd] 9)
   have y3:(w2.alloc (Obj.cells #[.string hd] 9)).heap[w2.heap.size]? =some (Obj.cells #[.string hd] 9):=heap_at _ _ (by simp)
   have o3:=own_below o2 (belA (Below.refl w2.heap.size w2) (Obj.cells #[.string hd] 9))
   refine hK.out _ _ ⟨⟨cell_of_row _ _ 0 _ _ _ ((B3.block _ hhl).trans HH.out),trivial⟩,trivial⟩ (fun _ => ?_)
   clear hK K
   have B3:=Lib.hid B3
   refine r1 7 [] (h:=fun K hK => ?_)
   refine step_append_lies _ rfl _ _ _ rfl w.heap.size 9 si (.string ⟨#[]⟩) 1 16 Tryz.underlying52 si1 si2 si3 si4 rfl (by omega) _ 0 [] rfl (World.ownsRow_nil _ _ _ _) ⟨w2.heap.size,0,none⟩ 1 1 [.string hd] rfl rfl (World.news_of_block y3) (by intro u hu;simp at hu;rcases hu with rfl <;> rfl) (by omega) (by unfold maxLen;omega) (by omega) B3.out.size _ rfl ?_
   intro g4 c4 w4 o4 hg4 _ _
   have E4:=grown_none hg4
   have B4:=Lib.hid (B3.out.trans (E4.mono B3.out.size))
   have p4:=own_below o3 E4
   refine hK.out _ _ trivial (fun _ => ?_)
   clear hK K hg4
   have q0:=(B4.out.block _ hpl).trans HP.out
   have q1:=(B4.out.block _ hhl).trans HH.out
   have z0:w4.cell? ⟨pb,0,none⟩=some (.slice none 0 0):=cell_of_row _ _ 0 _ _ _ q0
   have z1:w4.cell? ⟨hb,0,none⟩=some (.slice none 0 0):=cell_of_row _ _ 0 _ _ _ q1
   have f0:w4.frozen? ⟨pb,0,none⟩=false:=by simp [World.frozen?,q0]
   have f1:w4.frozen? ⟨hb,0,none⟩=false:=by simp [World.frozen?,q1]
   have FIN:=Lib.hid (add_fin hB hpl hhl hne B4.out q0 q1 p4 o4)
   clear q0 q1 p4 o4
   refine r1 8 [] (h:=fun K hK => ?_)
   go_simp
   refine hK.out _ _ trivial (fun _ => ?_)
   clear hK K
   refine r1 9 [] (h:=fun K hK => ?_)
   go_simp
   refine hK.out _ _ trivial (fun _ => ?_)
   clear hK K
   refine dn (h:=?_)
   go_wp2_with fail
   go_end0
   exact ⟨rfl,FIN.out⟩
  ·go_simp
   have B5:=belA B1.out (Obj.cells #[.string hd] 9)
   have y5:((W1.alloc (Obj.cells #[.int .i64 k,.int .i64 n,.string s,.slice A m c] 51)).alloc (Obj.cells #[.string hd] 9)).heap[(W1.heap.size+1)]? =some (Obj.cells #[.string hd] 9):=heap_at _ _ (by simp)
   have x5T:=(Below.heap_alloc (W1.alloc (Obj.cells #[.int .i64 k,.int .i64 n,.string s,.slice A m c] 51)) (Obj.cells #[.string hd] 9) _ (heap_lt y1)).trans y1
   refine hK.out _ _ ⟨⟨cell_of_row _ _ 0 _ _ _ ((B5.block _ hpl).trans HP.out),trivial⟩,⟨cell_of_row _ _ 0 _ _ _ ((B5.block _ hhl).trans HH.out),trivial⟩,trivial⟩ (fun _ => ?_)
   clear hK K
   have B5:=Lib.hid B5
   refine r1 3 [4] (h:=fun K hK => ?_)
   refine step_append_lies _ rfl _ _ _ rfl w.heap.size 51 ti (.agg #[.int .i64 0,.int .i64 0,.string ⟨#[]⟩,.slice none 0 0]) 4 56 Tryz.underlying47 ti1 ti2 ti3 ti4 rfl (by omega) _ 0 [] rfl (World.ownsRow_nil _ _ _ _) ⟨W1.heap.size,0,none⟩ 1 1 [.int .i64 k,.int .i64 n,.string s,.slice A m c] rfl rfl (World.news_of_block x5T) (by intro u hu;simp at hu;rcases hu with rfl | rfl | rfl | rfl <;> rfl) (by omega) (by unfold maxLen;omega) (by omega) B5.out.size _ rfl ?_
   intro g6 c6 w6 o6 hg6 _ _
   have E6:=grown_none hg6
   have B6:=Lib.hid (B5.out.trans (E6.mono B5.out.size))
   have x6S:=(E6.block _ (heap_lt y5)).trans y5
   refine hK.out _ _ ⟨⟨cell_of_row _ _ 0 _ _ _ ((B6.out.block _ hhl).trans HH.out),trivial⟩,trivial⟩ (fun _ => ?_)
   clear hK K hg6
   refine r1 7 [] (h:=fun K hK => ?_)
   refine step_append_lies _ rfl _ _ _ rfl w.heap.size 9 si (.string ⟨#[]⟩) 1 16 Tryz.underlying52 si1 si2 si3 si4 rfl (by omega) _ 0 [] rfl (World.ownsRow_nil _ _ _ _) ⟨(W1.heap.size+1),0,none⟩ 1 1 [.string hd] rfl rfl (World.news_of_block x6S) (by intro u hu;simp at hu;rcases hu with rfl <;> rfl) (by omega) (by unfold maxLen;omega) (by omega) B6.out.size _ rfl ?_
   intro g7 c7 w7 o7 hg7 _ _
   have E7:=grown_none hg7
   have B7:=Lib.hid (B6.out.trans (E7.mono B6.out.size))
   have p7:=own_below o6 E7
   refine hK.out _ _ trivial (fun _ => ?_)
   clear hK K hg7
   have q0:=(B7.out.block _ hpl).trans HP.out
   have q1:=(B7.out.block _ hhl).trans HH.out
   have z0:w7.cell? ⟨pb,0,none⟩=some (.slice none 0 0):=cell_of_row _ _ 0 _ _ _ q0
   have z1:w7.cell? ⟨hb,0,none⟩=some (.slice none 0 0):=cell_of_row _ _ 0 _ _ _ q1
   have f0:w7.frozen? ⟨pb,0,none⟩=false:=by simp [World.frozen?,q0]
   have f1:w7.frozen? ⟨hb,0,none⟩=false:=by simp [World.frozen?,q1]
   have FIN:=Lib.hid (add_fin hB hpl hhl hne B7.out q0 q1 p7 o7)
   clear q0 q1 p7 o7
   refine r1 8 [] (h:=fun K hK => ?_)
   go_simp
   refine hK.out _ _ trivial (fun _ => ?_)
   clear hK K
   refine r1 9 [] (h:=fun K hK => ?_)
   go_simp
   refine hK.out _ _ trivial (fun _ => ?_)
   clear hK K
   refine dn (h:=?_)
   go_wp2_with fail
   go_end0
   exact ⟨rfl,FIN.out⟩
 ·go_simp
  have B8:=belA B0.out (Obj.cells #[.string hd] 9)
  have y8:(W1.alloc (Obj.cells #[.string hd] 9)).heap[W1.heap.size]? =some (Obj.cells #[.string hd] 9):=heap_at _ _ (by simp)
  refine hK.out _ _ ⟨⟨cell_of_row _ _ 0 _ _ _ ((B8.block _ hpl).trans HP.out),trivial⟩,ac_of ((Below.heap_alloc W1 (Obj.cells #[.string hd] 9) _ (heap_lt X0.out)).trans X0.out),⟨cell_of_row _ _ 0 _ _ _ ((B8.block _ hhl).trans HH.out),trivial⟩,trivial⟩ (fun _ => ?_)
  clear hK K
  have B8:=Lib.hid B8
  refine r1 2 [0,4] (h:=fun K hK => ?_)
  go_simp
  have B9:=belA B8.out (Obj.cells #[.int .i64 k,.int .i64 n,.string s,.slice A m c] 51)
  have y9:((W1.alloc (Obj.cells #[.string hd] 9)).alloc (Obj.cells #[.int .i64 k,.int .i64 n,.string s,.slice A m c] 51)).heap[(W1.heap.size+1)]? =some (Obj.cells #[.int .i64 k,.int .i64 n,.string s,.slice A m c] 51):=heap_at _ _ (by simp)
  have x9S:=(Below.heap_alloc (W1.alloc (Obj.cells #[.string hd] 9)) (Obj.cells #[.int .i64 k,.int .i64 n,.string s,.slice A m c] 51) _ (heap_lt y8)).trans y8
  refine hK.out _ _ ⟨⟨cell_of_row _ _ 0 _ _ _ ((B9.block _ hpl).trans HP.out),trivial⟩,⟨cell_of_row _ _ 0 _ _ _ ((B9.block _ hhl).trans HH.out),trivial⟩,trivial⟩ (fun _ => ?_)
  clear hK K
  have B9:=Lib.hid B9
  refine r1 3 [4] (h:=fun K hK => ?_)
  refine step_append_lies _ rfl _ _ _ rfl w.heap.size 51 ti (.agg #[.int .i64 0,.int .i64 0,.string ⟨#[]⟩,.slice none 0 0]) 4 56 Tryz.underlying47 ti1 ti2 ti3 ti4 rfl (by omega) _ 0 [] rfl (World.ownsRow_nil _ _ _ _) ⟨(W1.heap.size+1),0,none⟩ 1 1 [.int .i64 k,.int .i64 n,.string s,.slice A m c] rfl rfl (World.news_of_block y9) (by intro u hu;simp at hu;rcases hu with rfl | rfl | rfl | rfl <;> rfl) (by omega) (by unfold maxLen;omega) (by omega) B9.out.size _ rfl ?_
  intro g10 c10 w10 o10 hg10 _ _
  have E10:=grown_none hg10
  have B10:=Lib.hid (B9.out.trans (E10.mono B9.out.size))
  have x10S:=(E10.block _ (heap_lt x9S)).trans x9S
  refine hK.out _ _ ⟨⟨cell_of_row _ _ 0 _ _ _ ((B10.out.block _ hhl).trans HH.out),trivial⟩,trivial⟩ (fun _ => ?_)
  clear hK K hg10
  refine r1 7 [] (h:=fun K hK => ?_)
  refine step_append_lies _ rfl _ _ _ rfl w.heap.size 9 si (.string ⟨#[]⟩) 1 16 Tryz.underlying52 si1 si2 si3 si4 rfl (by omega) _ 0 [] rfl (World.ownsRow_nil _ _ _ _) ⟨W1.heap.size,0,none⟩ 1 1 [.string hd] rfl rfl (World.news_of_block x10S) (by intro u hu;simp at hu;rcases hu with rfl <;> rfl) (by omega) (by unfold maxLen;omega) (by omega) B10.out.size _ rfl ?_
  intro g11 c11 w11 o11 hg11 _ _
  have E11:=grown_none hg11
  have B11:=Lib.hid (B10.out.trans (E11.mono B10.out.size))
  have p11:=own_below o10 E11
  refine hK.out _ _ trivial (fun _ => ?_)
  clear hK K hg11
  have q0:=(B11.out.block _ hpl).trans HP.out
  have q1:=(B11.out.block _ hhl).trans HH.out
  have z0:w11.cell? ⟨pb,0,none⟩=some (.slice none 0 0):=cell_of_row _ _ 0 _ _ _ q0
  have z1:w11.cell? ⟨hb,0,none⟩=some (.slice none 0 0):=cell_of_row _ _ 0 _ _ _ q1
  have f0:w11.frozen? ⟨pb,0,none⟩=false:=by simp [World.frozen?,q0]
  have f1:w11.frozen? ⟨hb,0,none⟩=false:=by simp [World.frozen?,q1]
  have FIN:=Lib.hid (add_fin hB hpl hhl hne B11.out q0 q1 p11 o11)
  clear q0 q1 p11 o11
  refine r1 8 [] (h:=fun K hK => ?_)
  go_simp
  refine hK.out _ _ trivial (fun _ => ?_)
  clear hK K
  refine r1 9 [] (h:=fun K hK => ?_)
  go_simp
  refine hK.out _ _ trivial (fun _ => ?_)
  clear hK K
  refine dn (h:=?_)
  go_wp2_with fail
  go_end0
  exact ⟨rfl,FIN.out⟩
end Go.Proofs.YtdgpmpccfjmmcaaGreatDoor
