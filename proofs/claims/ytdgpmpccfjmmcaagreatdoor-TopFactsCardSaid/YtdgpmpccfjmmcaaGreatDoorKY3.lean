/- An answer's text,where its one variable stands for an integer. -/
import Derived.Test.YtdgpmpccfjmmcaaGreatDoorKJBf
import Derived.Test.YtdgpmpccfjmmcaaGreatDoorKJAl
import Derived.Test.YtdgpmpccfjmmcaaGreatDoorKJBa
import Derived.Test.YtdgpmpccfjmmcaaGreatDoorKJAq
import Derived.Test.YtdgpmpccfjmmcaaGreatDoorKJAt
set_option linter.unusedVariables false
set_option linter.unusedSimpArgs false
namespace Go.Proofs.YtdgpmpccfjmmcaaGreatDoor
open Go.RowKit
theorem st_resolve2 {B:Nat} {w0 w:World} {sb n:Nat} {L:Bp} {M:List (Nat × Nat)} (h:ST B w0 sb n L M) (hw:Below w0.heap.size w0 w) {a q:P} {va:Value} (ha:TP w0 (fun _ => True) a.t va) (qa:a.lq) (ka:kn n a=true) (sa:a.size≤1000) (hr:resP L deepF a=some q) :
 Calls Tryz.prog 59 #[.pointer (some ⟨sb,0,none⟩),va] w fun e w' => (∃ v',e=.returned v'∧TP w' (fun b => b < w0.heap.size∨w.heap.size≤b) q.t v')∧Below w.heap.size w w':=by
 obtain ⟨C,R,Hs,h1,h2,-⟩:=h.ex
 obtain ⟨ga,na,la⟩:=good_t n h.hn _ a (Nat.le_refl _) qa ka
 obtain ⟨e1,e2⟩:=res_t L deepF a q hr
 rw [← e1]
 exact sres_any h2.ok deepF a.t ⟨ga,by omega⟩ e2 w0 w B sb C R M va h1 h2 ha hw
theorem slice_some (a:Addr) (n c:Nat) (W:World):Sem.run Tryz.prog (binOp BinOp.eql 52 (.slice (some a) n c) (.slice none 0 0)) W=.ok (.bool false) W:=by kernel_rfl
theorem cat_ba (s l:List UInt8):ba s++(⟨l.toArray⟩:ByteArray)=ba (s++l):=by
 apply ByteArray.ext
 simp [ba]
theorem itoa_ne (k:Int):Lib.itoa k≠[]:=fun e => by
 have h:(Lib.itoa k).length=0:=by rw [e];rfl
 by_cases hneg:k < 0
 ·obtain ⟨u,rfl⟩:∃ u:Nat,k= -(u:Int):=⟨k.natAbs,by omega⟩
  rw [Lib.itoa_neg u (by omega)] at h
  simp at h
 ·obtain ⟨u,rfl⟩:∃ u:Nat,k=u:=⟨k.toNat,by omega⟩
  rw [Lib.itoa_nonneg,Lib.decDigits_length] at h
  have:=Lib.nDigits_pos u
  omega
theorem term_put {w:World} {b:Nat} {z0 z1 z2 z3:Value} (hb:w.heap[b]? =some (.cells #[z0,z1,z2,z3] 51 (0,0))) (v0 v1 v2 v3:Value) :
 ((((w.setCell ⟨b,0,none⟩ v0).setCell ⟨b,1,none⟩ v1).setCell ⟨b,2,none⟩ v2).setCell ⟨b,3,none⟩ v3).heap[b]? =some (.cells #[v0,v1,v2,v3] 51 (0,0))∧(∀ B,B≤b→Below B w ((((w.setCell ⟨b,0,none⟩ v0).setCell ⟨b,1,none⟩ v1).setCell ⟨b,2,none⟩ v2).setCell ⟨b,3,none⟩ v3))∧∀ k,k≠b→((((w.setCell ⟨b,0,none⟩ v0).setCell ⟨b,1,none⟩ v1).setCell ⟨b,2,none⟩ v2).setCell ⟨b,3,none⟩ v3).heap[k]? =w.heap[k]?:=
 ⟨by simpa using blk_set (blk_set (blk_set (blk_set hb 0 v0) 1 v1) 2 v2) 3 v3,fun B hB => ((((Below.refl _ _).setCell (p:=⟨b,0,none⟩) hB _).setCell (p:=⟨b,1,none⟩) hB _).setCell (p:=⟨b,2,none⟩) hB _).setCell (p:=⟨b,3,none⟩) hB _,fun k hk => (((Below.heap_setCell _ _ _ k hk).trans (Below.heap_setCell _ _ _ k hk)).trans (Below.heap_setCell _ _ _ k hk)).trans (Below.heap_setCell _ _ _ k hk)⟩
structure AnP (X:MX) (w wr:World) (hd:ByteArray):Prop where
 part:∃ B,w.heap.size≤B∧PartM B wr (w.heap.size+1) (w.heap.size+1+1) 1 0 ⟨#[]⟩ none 0 0 hd
 low:Below w.heap.size w wr
 tb:wr.heap[w.heap.size]? =some (.cells #[mP X] 71 (0,0))
set_option maxRecDepth 100000 in
set_option maxHeartbeats 16000000 in
theorem answer_any {X:MX} {S:Ms} {w:World} (h:MSt X S w) (ht:TabX w) (hroom:X.lim.room≤1000) {k:Int} (hk:ansI X.lim.room S=some k) {ng nc:Nat} (hn:w.cell? ⟨ng,0,none⟩=some (.string (ba [65]))) (hng:ng < w.heap.size) :
 Calls Tryz.prog 28 #[mP X,.slice (some ⟨ng,0,none⟩) 1 nc] w fun e w' => e=.returned (.string (ba ([65,32,61,32]++Lib.itoa k)))∧Below w.heap.size w w':=by
 obtain ⟨hwk,hn0,z,hz,hzr⟩:=ansI_open hk
 have hlt:=h.lt
 have hlt1:=hlt.2.1
 have hmf:∀ (fn:Fn) (first cap:Array Value) (w:World),(Instr.makeFunc fn first cap).run Tryz.prog w=.ok (.func fn first cap) w:=fun _ _ _ _ => rfl
 obtain ⟨W3,hW3⟩:∃ W3,W3=((w.alloc (Obj.cells #[mP X] 71)).alloc (Obj.cells #[.slice none 0 0] 47)).alloc (Obj.cells #[.slice none 0 0] 52):=⟨_,rfl⟩
 have B3:=Lib.hid (show Below w.heap.size w W3 by rw [hW3];exact belA (belA (belA (Below.refl _ _) _) _) _)
 have XT:=Lib.hid (show W3.heap[w.heap.size]? =some (Obj.cells #[mP X] 71 (0,0)) by rw [hW3];exact (Below.heap_alloc _ _ _ (by simp;omega)).trans ((Below.heap_alloc _ _ _ (by simp)).trans (heap_alloc_new _ _)))
 have XP:=Lib.hid (show W3.heap[w.heap.size+1]? =some (Obj.cells #[.slice none 0 0] 47 (0,0)) by rw [hW3];exact (Below.heap_alloc _ _ _ (by simp)).trans (heap_at _ _ (by simp)))
 have XH:=Lib.hid (show W3.heap[w.heap.size+1+1]? =some (Obj.cells #[.slice none 0 0] 52 (0,0)) by rw [hW3];exact heap_at _ _ (by simp))
 have n3:W3.cell? ⟨ng,0,none⟩=some (.string (ba [65])):=(World.cell?_of_block (a:=⟨ng,0,none⟩) (B3.out.block _ hng)).trans hn
 have hne:((ba [65]).toList == [95])=false:=by decide+kernel
 have H:=Lib.hid h
 have HT:=Lib.hid ht
 have hsz:(ba [65]).size=1:=rfl
 unfold mP at hW3 ⊢
 clear h ht hn
 go_enter Tryz.func28,Tryz.ntmps28
 go_wp2_with fail
 rw [← hW3]
 clear hW3
 go_loopw [26] (fun iv wr => ∃ i:Nat,iv=.int .i64 (i:Int)∧Hid ((i=0∧wr=W3)∨(i=1∧AnP X w wr (ba [65,32,61,32])))) (fun iv _ => (1 - intOf iv).toNat)
 case atStart => exact ⟨0,rfl,Lib.hid (.inl ⟨rfl,rfl⟩)⟩
 case round =>
  obtain ⟨i,rfl,hi⟩:=hrel
  rcases hi.out with ⟨rfl,rfl⟩ | ⟨rfl,ha⟩
  ·have hs0:=B3.out.size
   go_wp2_with fail
   refine (mvariable_any 0 wr).mono ?_
   rintro e w4 ⟨rfl,b4⟩
   have XP4:=(b4.block _ (heap_lt XP.out)).trans XP.out
   have XH4:=(b4.block _ (heap_lt XH.out)).trans XH.out
   have hl4:=heap_lt XH4
   have AD:=Lib.hid (fun hd => add_any (B:=w.heap.size) (k:=1) (n:=0) (s:=⟨#[]⟩) (A:=none) (m:=0) (c:=0) (hd:=hd) XP4 XH4 ⟨by omega,by omega⟩)
   have B4:=Lib.hid (B3.out.trans (b4.mono hs0))
   have XT4:=Lib.hid ((b4.block _ (heap_lt XT.out)).trans XT.out)
   clear b4 XP4 XH4
   go_wp2_with fail
   refine (AD.out _).mono ?_
   rintro e w5 ⟨rfl,p5,b5,far5⟩
   have A5:=Lib.hid (show AnP X w w5 (ba [65,32,61,32]) from ⟨⟨_,B4.out.size,p5⟩,B4.out.trans b5,(far5 _ (heap_lt XT4.out) (by omega) (by omega)).trans XT4.out⟩)
   clear p5 b5 far5
   go_wp2_with fail
   go_roundw
   case rel => exact ⟨1,by first | rfl | go_num,Lib.hid (.inr ⟨rfl,A5.out⟩)⟩
   case measure => simp [intOf]
  ·obtain ⟨⟨B,hBB,⟨g1,c1,g2,c2,p1,p2,o1,o2⟩⟩,blow,btb⟩:=ha
   have hsw:=blow.size
   have M:=Lib.hid (H.out.below blow)
   obtain ⟨fv,cv,hbx,-,-⟩:=M.out.box
   have BW:=Lib.hid blow
   have T0:=Lib.hid btb
   have P1:=Lib.hid p1
   have P2:=Lib.hid p2
   have O1:=Lib.hid o1
   have O2:=Lib.hid o2
   have HB:=Lib.hid hbx
   have t0:wr.cell? ⟨w.heap.size,0,none⟩=some (.pointer (some ⟨X.mb,0,none⟩)):=cell_of_row _ _ 0 _ _ _ btb
   have m1:wr.cell? ⟨X.mb,1,none⟩=some (.slice none 0 0):=cell_of_row _ _ 1 _ _ _ hbx
   have m2:wr.cell? ⟨X.mb,2,none⟩=some (.slice none 0 0):=cell_of_row _ _ 2 _ _ _ hbx
   have hmw:=heap_lt hbx
   have htw:=heap_lt btb
   have hpw:=heap_lt p1
   have TQ:=Lib.hid (show ∀ (W:World),Below wr.heap.size wr W→TP W (fun _ => True) (P.c ansB [.v 0]).t (.agg #[.int .i64 4,.int .i64 0,.string ⟨#[97,110,115,119,101,114]⟩,.slice (some ⟨g1,0,none⟩) 1 c1]) from fun W hW => by
    obtain ⟨A',c',e,q1,q2,_,q3⟩:=own_open (own_below o1 hW)
    cases e
    obtain ⟨g,cur,e,_,q4,q5⟩:=q3 (by omega)
    cases e
    refine ⟨_,_,rfl,q1,nofun,fun _ => ⟨_,cur,_,rfl,trivial,q4,fun i hi => ?_⟩⟩
    have hi:i < 1:=hi
    obtain rfl:i=0:=by omega
    exact ⟨_,_,_,_,(q5 0 (by omega)).trans rfl,(q5 1 (by omega)).trans rfl,(q5 2 (by omega)).trans rfl,(q5 3 (by omega)).trans rfl,none,0,rfl,Nat.le_refl _,fun _ => rfl,fun h => absurd h (by decide)⟩)
   have qq:(P.c ansB [.v 0]).lq:=⟨by decide+kernel,by simp,trivial,trivial⟩
   have kq:kn S.n (.c ansB [.v 0])=true:=by simp [kn,kns,hn0]
   have sq:(P.c ansB [.v 0]).size≤1000:=by simp [P.size,sizesP]
   have hzz:¬ ((X.lim.room:Int)+1 < (z:Int)):=by omega
   have hres:resP S.L deepF (.c ansB [.v 0])=some (.c ansB [.i k]):=res_one hwk 99998 ansB
   have RSQ:=Lib.hid (show ∀ (W:World),Below wr.heap.size wr W→_ from fun W hW => st_resolve2 M.out.st hW (TQ.out wr (Below.refl _ _)) qq kq sq hres)
   have hn1:=M.out.st.hn
   have qA:(P.c ansB [.i k]).lq:=res_lq M.out.st.lq _ _ _ hres qq
   have hI:I64 k:=qA.2.2.1
   have okA:(P.c ansB [.i k]).t.ok:=by
    obtain ⟨e1,e2,_⟩:=good_t S.n hn1 _ (.c ansB [.i k]) (Nat.le_refl _) qA (by simp [kn,kns])
    exact ⟨e1,by rw [e2];simp [P.size,sizesP]⟩
   have hv0:(varsT (P.c ansB [.i k]).t).length=0:=rfl
   obtain ⟨q0,q1,q2,q3,hg1⟩:wr.cell? ⟨g1,0,none⟩=some (.int .i64 1)∧wr.cell? ⟨g1,1,none⟩=some (.int .i64 0)∧wr.cell? ⟨g1,2,none⟩=some (.string ⟨#[]⟩)∧wr.cell? ⟨g1,3,none⟩=some (.slice none 0 0)∧g1 < wr.heap.size:=by
    obtain ⟨A',c',e,_,_,_,q3⟩:=own_open o1
    cases e
    obtain ⟨g,cur,e,_,q4,q5⟩:=q3 (by omega)
    cases e
    exact ⟨(cell_of_row _ _ 0 _ _ _ q4).trans (q5 0 (by omega)),(cell_of_row _ _ 1 _ _ _ q4).trans (q5 1 (by omega)),(cell_of_row _ _ 2 _ _ _ q4).trans (q5 2 (by omega)),(cell_of_row _ _ 3 _ _ _ q4).trans (q5 3 (by omega)),heap_lt q4⟩
   obtain ⟨hd0,hg2⟩:wr.cell? ⟨g2,0,none⟩=some (.string (ba [65,32,61,32]))∧g2 < wr.heap.size:=by
    obtain ⟨A',c',e,_,_,_,q3⟩:=own_open o2
    cases e
    obtain ⟨g,cur,e,_,q4,q5⟩:=q3 (by omega)
    cases e
    exact ⟨(cell_of_row _ _ 0 _ _ _ q4).trans (q5 0 (by omega)),heap_lt q4⟩
   have HD:=Lib.hid hd0
   have Q0:=Lib.hid q0
   have Q1:=Lib.hid q1
   have Q2:=Lib.hid q2
   have Q3:=Lib.hid q3
   have hhw:=heap_lt p2
   have RS0:=Lib.hid (show ∀ (W:World),Below wr.heap.size wr W→_ from fun W hW => st_resolve (M.out.below hW).st (a:=.v 0) (q:=.i k) (va:=.agg #[.int .i64 1,.int .i64 0,.string ⟨#[]⟩,.slice none 0 0]) ⟨none,0,rfl,Nat.le_refl _,fun _ => rfl,fun h => absurd h (by decide)⟩ trivial (by simpa [kn] using hn0) (by simp [P.size]) (res_int hwk 99999))
   have hcat:¬ 9223372036854775807 < (ba [65,32,61,32]).size+(Lib.itoa k).length:=by
    have h1:=itoa_few hI
    have h2:(ba [65,32,61,32]).size=4:=rfl
    omega
   clear p1 p2 o1 o2 blow btb hbx hres hd0 q0 q1 q2 q3
   go_wp2_with fail
   go_loopw [46] (fun iv w2 => iv=.int .i64 0∧w2=wr) (fun _ _ => 0)
   case atStart => exact ⟨rfl,rfl⟩
   case round =>
    obtain ⟨rfl,rfl⟩:=hrel
    go_wp2_with fail
    go_loopw [61] (fun iv w2 => iv=.int .i64 0∧w2=wr) (fun _ _ => 0)
    case atStart => exact ⟨rfl,rfl⟩
    case round =>
     obtain ⟨rfl,rfl⟩:=hrel
     clear m1 m2
     have hw1:IntKind.i64.wrap ((X.lim.room:Int)+1)=(X.lim.room:Int)+1:=Go.IntWalk.i64_in _ ⟨by omega,by omega⟩
     go_upto_region 21 with fail
     have Bd:=Lib.hid (show Below wr.heap.size wr wr.drew from (Below.refl _ _).drew)
     refine rg [(0,fun u => AC u (w.heap.size+1) 0 [.slice (some ⟨g1,0,none⟩) 1 c1]),(4,fun u => AC u w.heap.size 0 [.pointer (some ⟨X.mb,0,none⟩)]),(7,fun u => AC u X.mb 10 [.pointer (some ⟨X.sb,0,none⟩)]),(8,fun u => AC u (w.heap.size+1) 0 [.slice (some ⟨g1,0,none⟩) 1 c1]),(10,fun u => AC u w.heap.size 0 [.pointer (some ⟨X.mb,0,none⟩)]),(14,fun u => AC u X.mb 5 [.int .i64 (X.lim.room:Int)]),(17,fun u => AC u w.heap.size 0 [.pointer (some ⟨X.mb,0,none⟩)]),(21,fun u => AC u X.mb 5 [.int .i64 (X.lim.room:Int)])]
      (hS:=⟨⟨cell_of_row _ _ 0 _ _ _ ((Bd.out.block _ hpw).trans P1.out),trivial⟩,⟨cell_of_row _ _ 0 _ _ _ ((Bd.out.block _ htw).trans T0.out),trivial⟩,⟨cell_of_row _ _ 10 _ _ _ ((Bd.out.block _ hmw).trans HB.out),trivial⟩,⟨cell_of_row _ _ 0 _ _ _ ((Bd.out.block _ hpw).trans P1.out),trivial⟩,⟨cell_of_row _ _ 0 _ _ _ ((Bd.out.block _ htw).trans T0.out),trivial⟩,⟨cell_of_row _ _ 5 _ _ _ ((Bd.out.block _ hmw).trans HB.out),trivial⟩,⟨cell_of_row _ _ 0 _ _ _ ((Bd.out.block _ htw).trans T0.out),trivial⟩,⟨cell_of_row _ _ 5 _ _ _ ((Bd.out.block _ hmw).trans HB.out),trivial⟩,trivial⟩) (h:=fun hH => ?_)
     generalize wr.drew=Wd at Bd hH ⊢
     refine tl 0 (h:=tp 1 (h:=tp 2 (v:=.bool true) (h:=tp 3 (h:=tl 4 (h:=tp 5 (h:=tp 6 (h:=tl 7 (h:=tl 8 (h:=tl 10 (h:=tp 11 (h:=tp 12 (h:=tp 13 (h:=tl 14 (h:=tp 15 (h:=tl 17 (h:=tp 18 (h:=tp 19 (h:=tp 20 (h:=tl 21 (h:=tp 22 (h:=r1 9 [4,7,10,14,17,21] (h:=fun K hK => ?_))))))))))))))))))))))
     go_simp
     refine (mcell_any _ _ _ _ _).mono ?_
     rintro e w6 ⟨rfl,b6⟩
     have B6:=Lib.hid (Bd.out.trans (b6.mono Bd.out.size))
     refine hK.out _ _ ⟨⟨cell_of_row _ _ 0 _ _ _ ((B6.out.block _ htw).trans T0.out),trivial⟩,⟨cell_of_row _ _ 10 _ _ _ ((B6.out.block _ hmw).trans HB.out),trivial⟩,⟨cell_of_row _ _ 0 _ _ _ ((B6.out.block _ htw).trans T0.out),trivial⟩,⟨cell_of_row _ _ 5 _ _ _ ((B6.out.block _ hmw).trans HB.out),trivial⟩,⟨cell_of_row _ _ 0 _ _ _ ((B6.out.block _ htw).trans T0.out),trivial⟩,⟨cell_of_row _ _ 5 _ _ _ ((B6.out.block _ hmw).trans HB.out),trivial⟩,trivial⟩ (fun _ => ?_)
     clear hK K b6 hH
     have SZ:=Lib.hid (st_size (M.out.below B6.out).st (TQ.out _ B6.out) qq kq sq (most:=X.lim.room+1) (by omega) (by omega) hz)
     rw [show ((X.lim.room+1:Nat):Int)=(X.lim.room:Int)+1 by omega] at SZ
     refine r1 16 [17,21] (h:=fun K hK => ?_)
     go_simp
     refine SZ.out.mono ?_
     rintro e w7 ⟨rfl,b7⟩
     have B7:=Lib.hid (B6.out.trans (b7.mono B6.out.size))
     refine hK.out _ _ ⟨⟨cell_of_row _ _ 0 _ _ _ ((B7.out.block _ htw).trans T0.out),trivial⟩,⟨cell_of_row _ _ 5 _ _ _ ((B7.out.block _ hmw).trans HB.out),trivial⟩,trivial⟩ (fun _ => ?_)
     clear hK K b7 SZ
     refine tp 23 (h:=tp 24 (h:=dn (h:=?_)))
     go_upto_region 23 with fail
     go_cut [14] (fun u14 wx => ∃ b14 k0 k1 k2 A0 m0 c0,u14=.pointer (some ⟨b14,0,none⟩)∧Hid (Below wr.heap.size wr wx∧wx.heap[b14]? =some (.cells #[.int .i64 k0,.int .i64 k1,.string k2,.slice A0 m0 c0] 51 (0,0))∧TP wx (fun _ => True) (P.c ansB [.i k]).t (.agg #[.int .i64 k0,.int .i64 k1,.string k2,.slice A0 m0 c0])))
     case first =>
      have Bd2:=Lib.hid (show Below wr.heap.size wr w7.drew from B7.out.drew)
      refine rg [(0,fun u => AC u w.heap.size 0 [.pointer (some ⟨X.mb,0,none⟩)]),(3,fun u => AC u X.mb 10 [.pointer (some ⟨X.sb,0,none⟩)]),(4,fun u => AC u (w.heap.size+1) 0 [.slice (some ⟨g1,0,none⟩) 1 c1])] (hS:=⟨⟨cell_of_row _ _ 0 _ _ _ ((Bd2.out.block _ htw).trans T0.out),trivial⟩,⟨cell_of_row _ _ 10 _ _ _ ((Bd2.out.block _ hmw).trans HB.out),trivial⟩,⟨cell_of_row _ _ 0 _ _ _ ((Bd2.out.block _ hpw).trans P1.out),trivial⟩,trivial⟩) (h:=fun hH => ?_)
      generalize w7.drew=W8 at Bd2 hH ⊢
      refine tl 0 (h:=tp 1 (h:=tp 2 (h:=tl 3 (h:=tl 4 (h:=r2 5 7 [0,3] [0,3,4] (h:=fun K hK => ?_) (h2:=fun K hK => ?_))))))
      ·go_simp
       refine (mcell_any _ _ _ _ _).mono ?_
       rintro e v1 ⟨rfl,b1⟩
       have B1:=Lib.hid (Bd2.out.trans (b1.mono Bd2.out.size))
       refine hK.out _ _ ⟨⟨cell_of_row _ _ 0 _ _ _ ((B1.out.block _ htw).trans T0.out),trivial⟩,⟨cell_of_row _ _ 10 _ _ _ ((B1.out.block _ hmw).trans HB.out),trivial⟩,trivial⟩ (fun _ => ?_)
       clear hK K
       refine r2 6 7 [] [0,3] (h:=fun K hK => ?_) (h2:=fun K hK => ?_)
       ·go_simp
        refine (RSQ.out _ B1.out).mono ?_
        rintro e v2 ⟨⟨u2,rfl,tq⟩,b2⟩
        obtain ⟨k0,k1,k2,A0,m0,c0,rfl⟩:=tq.agg
        have TR:=Lib.hid tq
        have B2:=Lib.hid (B1.out.trans (b2.mono B1.out.size))
        clear tq
        refine hK.out _ _ trivial (fun _ => ?_)
        clear hK K
        refine r1 7 [] (h:=fun K hK => ?_)
        go_simp
        have B3:=Lib.hid (belA B2.out (Obj.cells #[.int .i64 0,.int .i64 0,.string ⟨#[]⟩,.slice none 0 0] 51))
        have x3:=heap_alloc_new v2 (Obj.cells #[.int .i64 0,.int .i64 0,.string ⟨#[]⟩,.slice none 0 0] 51)
        refine hK.out _ _ trivial (fun _ => ?_)
        clear hK K
        have ON:=heap_alloc_new v2 (Obj.cells #[.int .i64 k0,.int .i64 k1,.string k2,.slice A0 m0 c0] 51)
        have FIN:=Lib.hid (show Below wr.heap.size wr (v2.alloc (Obj.cells #[.int .i64 k0,.int .i64 k1,.string k2,.slice A0 m0 c0] 51))∧(v2.alloc (Obj.cells #[.int .i64 k0,.int .i64 k1,.string k2,.slice A0 m0 c0] 51)).heap[v2.heap.size]? =some (.cells #[.int .i64 k0,.int .i64 k1,.string k2,.slice A0 m0 c0] 51 (0,0))∧TP (v2.alloc (Obj.cells #[.int .i64 k0,.int .i64 k1,.string k2,.slice A0 m0 c0] 51)) (fun _ => True) (P.c ansB [.i k]).t (.agg #[.int .i64 k0,.int .i64 k1,.string k2,.slice A0 m0 c0]) from ⟨belA B2.out _,ON,(TR.out.more fun _ _ => trivial).below (belA (Below.refl _ _) _)⟩)
        clear ON x3
        refine r1 8 [] (h:=fun K hK => ?_)
        go_simp
        refine hK.out _ _ trivial (fun _ => ?_)
        clear hK K
        refine dn (h:=?_)
        go_wp2_with fail
        go_meet
        exact ⟨_,_,_,_,_,_,_,rfl,Lib.hid FIN.out⟩
       ·go_simp
        have B4:=Lib.hid (belA B1.out (Obj.cells #[.int .i64 0,.int .i64 0,.string ⟨#[]⟩,.slice none 0 0] 51))
        have x4:=heap_alloc_new v1 (Obj.cells #[.int .i64 0,.int .i64 0,.string ⟨#[]⟩,.slice none 0 0] 51)
        refine hK.out _ _ ⟨⟨cell_of_row _ _ 0 _ _ _ ((B4.out.block _ htw).trans T0.out),trivial⟩,⟨cell_of_row _ _ 10 _ _ _ ((B4.out.block _ hmw).trans HB.out),trivial⟩,trivial⟩ (fun _ => ?_)
        clear hK K
        refine r1 6 [] (h:=fun K hK => ?_)
        have hxl:=heap_lt x4
        go_simp
        refine (RSQ.out _ B4.out).mono ?_
        rintro e v5 ⟨⟨u5,rfl,tq⟩,b5⟩
        obtain ⟨k0,k1,k2,A0,m0,c0,rfl⟩:=tq.agg
        have TR:=Lib.hid tq
        have B5:=Lib.hid (B4.out.trans (b5.mono B4.out.size))
        have x5:=(b5.block _ (heap_lt x4)).trans x4
        clear tq
        refine hK.out _ _ trivial (fun _ => ?_)
        clear hK K
        have FIN:=Lib.hid (term_put x5 (.int .i64 k0) (.int .i64 k1) (.string k2) (.slice A0 m0 c0))
        obtain ⟨z0,z1,z2,z3⟩:=box4 x5
        have fz:∀ j,v5.frozen? ⟨v1.heap.size,j,none⟩=false:=fun j => by simp [World.frozen?,x5]
        have hbg:wr.heap.size≤v1.heap.size:=B1.out.size
        clear x5
        refine r1 8 [] (h:=fun K hK => ?_)
        go_simp
        refine hK.out _ _ trivial (fun _ => ?_)
        clear hK K
        refine dn (h:=?_)
        go_wp2_with fail
        go_meet
        exact ⟨_,_,_,_,_,_,_,rfl,Lib.hid ⟨B5.out.trans (FIN.out.2.1 _ hbg),FIN.out.1,TR.out.keep fun bb cs f hS hh => ⟨(FIN.out.2.2 bb (by omega)).trans hh,trivial⟩⟩⟩
      ·go_simp
       have B6:=Lib.hid (belA Bd2.out (Obj.cells #[.int .i64 0,.int .i64 0,.string ⟨#[]⟩,.slice none 0 0] 51))
       have x6:=heap_alloc_new W8 (Obj.cells #[.int .i64 0,.int .i64 0,.string ⟨#[]⟩,.slice none 0 0] 51)
       refine hK.out _ _ ⟨⟨cell_of_row _ _ 0 _ _ _ ((B6.out.block _ htw).trans T0.out),trivial⟩,⟨cell_of_row _ _ 10 _ _ _ ((B6.out.block _ hmw).trans HB.out),trivial⟩,⟨cell_of_row _ _ 0 _ _ _ ((B6.out.block _ hpw).trans P1.out),trivial⟩,trivial⟩ (fun _ => ?_)
       clear hK K
       refine r1 5 [0,3] (h:=fun K hK => ?_)
       go_simp
       refine (mcell_any _ _ _ _ _).mono ?_
       rintro e v7 ⟨rfl,b7⟩
       have B7:=Lib.hid (B6.out.trans (b7.mono B6.out.size))
       have x7:=(b7.block _ (heap_lt x6)).trans x6
       refine hK.out _ _ ⟨⟨cell_of_row _ _ 0 _ _ _ ((B7.out.block _ htw).trans T0.out),trivial⟩,⟨cell_of_row _ _ 10 _ _ _ ((B7.out.block _ hmw).trans HB.out),trivial⟩,trivial⟩ (fun _ => ?_)
       clear hK K
       refine r1 6 [] (h:=fun K hK => ?_)
       have hxl:=heap_lt x7
       go_simp
       refine (RSQ.out _ B7.out).mono ?_
       rintro e v8 ⟨⟨u8,rfl,tq⟩,b8⟩
       obtain ⟨k0,k1,k2,A0,m0,c0,rfl⟩:=tq.agg
       have TR:=Lib.hid tq
       have B8:=Lib.hid (B7.out.trans (b8.mono B7.out.size))
       have x8:=(b8.block _ (heap_lt x7)).trans x7
       clear tq
       refine hK.out _ _ trivial (fun _ => ?_)
       clear hK K
       have FIN:=Lib.hid (term_put x8 (.int .i64 k0) (.int .i64 k1) (.string k2) (.slice A0 m0 c0))
       obtain ⟨z0,z1,z2,z3⟩:=box4 x8
       have fz:∀ j,v8.frozen? ⟨W8.heap.size,j,none⟩=false:=fun j => by simp [World.frozen?,x8]
       have hbg:wr.heap.size≤W8.heap.size:=Bd2.out.size
       clear x8
       refine r1 8 [] (h:=fun K hK => ?_)
       go_simp
       refine hK.out _ _ trivial (fun _ => ?_)
       clear hK K
       refine dn (h:=?_)
       go_wp2_with fail
       go_meet
       exact ⟨_,_,_,_,_,_,_,rfl,Lib.hid ⟨B8.out.trans (FIN.out.2.1 _ hbg),FIN.out.1,TR.out.keep fun bb cs f hS hh => ⟨(FIN.out.2.2 bb (by omega)).trans hh,trivial⟩⟩⟩
     case rest =>
      obtain ⟨b14,k0,k1,k2,A0,m0,c0,rfl,hcut⟩:=hcut
      apply_assumption
      obtain ⟨bc,xc,tc⟩:=hcut.out
      have BC:=Lib.hid bc
      obtain ⟨z0,z1,z2,z3⟩:=box4 xc
      have VR:=Lib.hid (tvars_any okA tc)
      clear bc xc tc hcut
      go_wp2_with fail
      refine VR.out.mono ?_
      rintro e wv ⟨⟨VA,vc,rfl,_⟩,bv⟩
      rw [hv0]
      have BV:=Lib.hid (BC.out.trans (bv.mono BC.out.size))
      have w5:wv.cell? ⟨w.heap.size+1,0,none⟩=some (.slice (some ⟨g1,0,none⟩) 1 c1):=cell_of_row _ _ 0 _ _ _ ((BV.out.block _ hpw).trans P1.out)
      clear bv VR
      go_wp2_with fail
      go_loopw [111] (fun iv w2 => iv=.int .i64 0∧w2=wv) (fun _ _ => 0)
      case atStart => exact ⟨rfl,rfl⟩
      case round =>
       obtain ⟨rfl,rfl⟩:=hrel
       go_wp2_with fail
       go_loopw [20,133] (fun u20 iv w2 => Hid ((u20=.slice none 0 0∧iv=.int .i64 0∧w2=wr)∨(∃ g c,u20=.slice (some ⟨g,0,none⟩) 1 c∧iv=.int .i64 1∧Below w.heap.size w w2∧w2.cell? ⟨g,0,none⟩=some (.string (ba ([65,32,61,32]++Lib.itoa k)))))) (fun _ iv _ => (1 - intOf iv).toNat)
       case atStart => exact Lib.hid (.inl ⟨rfl,rfl,rfl⟩)
       case round =>
        rcases hrel.out with ⟨rfl,rfl,rfl⟩ | ⟨g,c,rfl,rfl,hlow,hg⟩
        ·have d0:=(World.cell?_of_block (a:=⟨g1,0,none⟩) (BV.out.block _ hg1)).trans Q0.out
         have d1:=(World.cell?_of_block (a:=⟨g1,1,none⟩) (BV.out.block _ hg1)).trans Q1.out
         have d2:=(World.cell?_of_block (a:=⟨g1,2,none⟩) (BV.out.block _ hg1)).trans Q2.out
         have d3:=(World.cell?_of_block (a:=⟨g1,3,none⟩) (BV.out.block _ hg1)).trans Q3.out
         have B5:=Lib.hid (show Below _ _ (wr.alloc (Obj.cells #[.int .i64 1,.int .i64 0,.string ⟨#[]⟩,.slice none 0 0] 51)).drew from (belA BV.out (Obj.cells #[.int .i64 1,.int .i64 0,.string ⟨#[]⟩,.slice none 0 0] 51)).drew)
         have X5:=Lib.hid (show (wr.alloc (Obj.cells #[.int .i64 1,.int .i64 0,.string ⟨#[]⟩,.slice none 0 0] 51)).drew.heap[wr.heap.size]? =some (Obj.cells #[.int .i64 1,.int .i64 0,.string ⟨#[]⟩,.slice none 0 0] 51 (0,0)) from heap_alloc_new _ _)
         go_upto_region 36 with fail
         refine rg [(1,fun u => AC u (w.heap.size+1+1) 0 [.slice (some ⟨g2,0,none⟩) 1 c2]),(4,fun u => AC u g2 0 [.string (ba [65,32,61,32])]),(5,fun u => AC u w.heap.size 0 [.pointer (some ⟨X.mb,0,none⟩)]),(8,fun u => AC u X.mb 10 [.pointer (some ⟨X.sb,0,none⟩)]),(9,fun u => AC u wr.heap.size 0 [.int .i64 1,.int .i64 0,.string ⟨#[]⟩,.slice none 0 0])]
          (hS:=⟨⟨cell_of_row _ _ 0 _ _ _ ((B5.out.block _ hhw).trans P2.out),trivial⟩,⟨(World.cell?_of_block (a:=⟨g2,0,none⟩) (B5.out.block _ hg2)).trans HD.out,trivial⟩,⟨cell_of_row _ _ 0 _ _ _ ((B5.out.block _ htw).trans T0.out),trivial⟩,⟨cell_of_row _ _ 10 _ _ _ ((B5.out.block _ hmw).trans HB.out),trivial⟩,ac_of X5.out,trivial⟩) (h:=fun hH => ?_)
         generalize (wr.alloc (Obj.cells #[.int .i64 1,.int .i64 0,.string ⟨#[]⟩,.slice none 0 0] 51)).drew=W6 at B5 X5 hH ⊢
         refine tp 0 (h:=tl 1 (h:=tp 2 (h:=tp 3 (h:=tl 4 (h:=tl 5 (h:=tp 6 (h:=tp 7 (h:=tl 8 (h:=tl 9 (h:=tp 11 (h:=r1 10 [1,4] (h:=fun K hK => ?_))))))))))))
         go_simp
         refine (RS0.out _ B5.out).mono ?_
         rintro e w7 ⟨⟨v7,rfl,⟨A7,c7,rfl,_⟩⟩,b7⟩
         have C7:=Lib.hid (B5.out.trans (b7.mono B5.out.size))
         refine hK.out _ _ ⟨⟨cell_of_row _ _ 0 _ _ _ ((C7.out.block _ hhw).trans P2.out),trivial⟩,⟨(World.cell?_of_block (a:=⟨g2,0,none⟩) (C7.out.block _ hg2)).trans HD.out,trivial⟩,trivial⟩ (fun _ => ?_)
         clear hK K b7 hH d0 d1 d2 d3
         refine r1 12 [1,4] (h:=fun K hK => ?_)
         go_simp
         have NU:=numbered_int k A7 c7 VA vc w7
         unfold intV at NU
         refine NU.mono ?_
         rintro e w8 ⟨rfl,b8⟩
         have C8:=Lib.hid (C7.out.trans (b8.mono C7.out.size))
         refine hK.out _ _ ⟨⟨cell_of_row _ _ 0 _ _ _ ((C8.out.block _ hhw).trans P2.out),trivial⟩,⟨(World.cell?_of_block (a:=⟨g2,0,none⟩) (C8.out.block _ hg2)).trans HD.out,trivial⟩,trivial⟩ (fun _ => ?_)
         clear hK K b8 NU
         refine r1 13 [1,4] (h:=fun K hK => ?_)
         go_simp
         have WI:=write_int (A:=A7) (c:=c7) (w:=w8) hI ((HT.out.below BW.out).below C8.out) (itoa_ne k)
         unfold intV at WI
         refine WI.mono ?_
         rintro e w9 ⟨rfl,b9⟩
         have C9:=Lib.hid (C8.out.trans (b9.mono C8.out.size))
         refine hK.out _ _ ⟨⟨cell_of_row _ _ 0 _ _ _ ((C9.out.block _ hhw).trans P2.out),trivial⟩,⟨(World.cell?_of_block (a:=⟨g2,0,none⟩) (C9.out.block _ hg2)).trans HD.out,trivial⟩,trivial⟩ (fun _ => ?_)
         clear hK K b9 WI
         refine tp 14 (v:=.string (ba ([65,32,61,32]++Lib.itoa k))) (hy:=fun u => ?_) (h:=?_)
         ·simp only [opD]
          go_simp
          exact cat_ba [65,32,61,32] (Lib.itoa k)
         ·refine r1 15 [] (h:=fun K hK => ?_)
          go_simp
          have yS:(w9.alloc (Obj.cells #[.string (ba ([65,32,61,32]++Lib.itoa k))] 9)).heap[w9.heap.size]? =some (Obj.cells #[.string (ba ([65,32,61,32]++Lib.itoa k))] 9):=heap_at _ _ rfl
          have CA:=Lib.hid (belA C9.out (Obj.cells #[.string (ba ([65,32,61,32]++Lib.itoa k))] 9))
          refine hK.out _ _ trivial (fun _ => ?_)
          clear hK K
          refine r1 16 [] (h:=fun K hK => ?_)
          obtain ⟨si,si1,si2,si3,si4⟩:=elStr.hi
          refine step_append_lies _ rfl _ _ _ rfl w.heap.size 9 si (.string ⟨#[]⟩) 1 16 Tryz.underlying52 si1 si2 si3 si4 rfl (by omega) _ 0 [] rfl (World.ownsRow_nil _ _ _ _) ⟨w9.heap.size,0,none⟩ 1 1 [.string (ba ([65,32,61,32]++Lib.itoa k))] rfl rfl (World.news_of_block yS) (by intro u hu;simp at hu;rcases hu with rfl <;> rfl) (by omega) (by unfold maxLen;omega) (by omega) (BW.out.trans (CA.out.mono hsw)).size _ rfl ?_
          intro g9 c9 w10 o9 hg9 _ _
          have E9:=grown_none hg9
          have F9:=Lib.hid (BW.out.trans ((CA.out.trans (E9.mono CA.out.size)).mono hsw))
          have G9:w10.cell? ⟨g9,0,none⟩=some (.string (ba ([65,32,61,32]++Lib.itoa k))):=by
           obtain ⟨A',c',e,_,_,_,q3⟩:=own_open o9
           cases e
           obtain ⟨g,cur,e,_,q4,q5⟩:=q3 (by omega)
           cases e
           exact (cell_of_row _ _ 0 _ _ _ q4).trans (q5 0 (by omega))
          have R9:=Lib.hid (show ∃ g c,(Value.slice (some ⟨g9,0,none⟩) 1 c9)=.slice (some ⟨g,0,none⟩) 1 c∧Below w.heap.size w w10∧w10.cell? ⟨g,0,none⟩=some (.string (ba ([65,32,61,32]++Lib.itoa k))) from ⟨g9,c9,rfl,F9.out,G9⟩)
          refine hK.out _ _ trivial (fun _ => ?_)
          clear hK K yS o9 hg9 E9 G9
          refine tp 17 (h:=dn (h:=?_))
          go_wp2_with fail
          go_roundw
          case rel =>
           obtain ⟨g,c,e1,e2,e3⟩:=R9.out
           exact Lib.hid (.inr ⟨g,c,e1,by first | rfl | go_num,e2,e3⟩)
          case measure => simp [intOf]
        ·have hsn:=fun W => slice_some ⟨g,0,none⟩ 1 c W
         go_wp2_with fail
         refine (join_one hg).mono ?_
         rintro e w9 ⟨rfl,rfl⟩
         go_wp2_with fail
         go_ret
         exact ⟨rfl,hlow⟩
end Go.Proofs.YtdgpmpccfjmmcaaGreatDoor
