/- Split,exactly:the reference's. Goals of the program:the closure that checks them. -/
import Derived.Test.YtdgpmpccfjmmcaaGreatDoorKJAg
import Derived.Deep.CutBlock
import Derived.Deep.DeepCutAuto
set_option linter.unusedVariables false
set_option linter.unusedSimpArgs false
namespace Go.Proofs.YtdgpmpccfjmmcaaGreatDoor
open Go.RowKit
structure SpB (w W:World) (h0 h1:Int) (h2:ByteArray) (h3:Option Addr) (h4 h5:Nat) (b0 b1:Int) (b2:ByteArray) (b3:Option Addr) (b4 b5:Nat):Prop where
 r1:W.heap[w.heap.size+1]? =some (.cells #[.int .i64 0,.int .i64 0,.string ⟨#[]⟩,.slice none 0 0] 51 (0,0))
 r2:W.heap[w.heap.size+1+1]? =some (.cells #[.int .i64 0,.int .i64 0,.string ⟨#[]⟩,.slice none 0 0] 51 (0,0))
 hd:W.heap[w.heap.size+1+1+1]? =some (.cells #[.int .i64 h0,.int .i64 h1,.string h2,.slice h3 h4 h5] 51 (0,0))
 bd:W.heap[w.heap.size+1+1+1+1]? =some (.cells #[.int .i64 b0,.int .i64 b1,.string b2,.slice b3 b4 b5] 51 (0,0))
 low:Below w.heap.size w W
 lt:w.heap.size+5≤W.heap.size
theorem SpB.below {w W W':World} {h0 h1:Int} {h2:ByteArray} {h3:Option Addr} {h4 h5:Nat} {b0 b1:Int} {b2:ByteArray} {b3:Option Addr} {b4 b5:Nat} (h:SpB w W h0 h1 h2 h3 h4 h5 b0 b1 b2 b3 b4 b5) (hb:Below W.heap.size W W'):SpB w W' h0 h1 h2 h3 h4 h5 b0 b1 b2 b3 b4 b5:=
 ⟨(hb.block _ (heap_lt h.r1)).trans h.r1,(hb.block _ (heap_lt h.r2)).trans h.r2,(hb.block _ (heap_lt h.hd)).trans h.hd,(hb.block _ (heap_lt h.bd)).trans h.bd,h.low.trans (hb.mono h.low.size),Nat.le_trans h.lt hb.size⟩
theorem SpB.put {S:Nat→Prop} {w W:World} {h0 h1:Int} {h2:ByteArray} {h3:Option Addr} {h4 h5:Nat} {b0 b1:Int} {b2:ByteArray} {b3:Option Addr} {b4 b5:Nat} (h:SpB w W h0 h1 h2 h3 h4 h5 b0 b1 b2 b3 b4 b5) (hN:∀ b,S b→b < w.heap.size) (u0 u1 u2 u3 v0 v1 v2 v3:Value) {W':World}
 (hW:(((((((W.setCell ⟨w.heap.size+1,0,none⟩ u0).setCell ⟨w.heap.size+1,1,none⟩ u1).setCell ⟨w.heap.size+1,2,none⟩ u2).setCell ⟨w.heap.size+1,3,none⟩ u3).setCell ⟨w.heap.size+1+1,0,none⟩ v0).setCell ⟨w.heap.size+1+1,1,none⟩ v1).setCell ⟨w.heap.size+1+1,2,none⟩ v2).setCell ⟨w.heap.size+1+1,3,none⟩ v3=W') :
 W'.heap[w.heap.size+1]? =some (.cells #[u0,u1,u2,u3] 51 (0,0))∧W'.heap[w.heap.size+1+1]? =some (.cells #[v0,v1,v2,v3] 51 (0,0))∧Below w.heap.size w W'∧∀ (u:T) (x:Value),TP W S u x→TP W' S u x:=by
 have P1:=box_put4 h.r1 u0 u1 u2 u3 rfl
 have P2:=box_put4 ((P1.2.2.1 (w.heap.size+1+1) (by omega)).trans h.r2) v0 v1 v2 v3 hW
 exact ⟨(P2.2.2.1 (w.heap.size+1) (by omega)).trans P1.1,P2.1,P2.2.2.2 _ _ (by omega) (P1.2.2.2 _ _ (by omega) h.low),fun u x hu => TP.keep (w':=W') (S':=S) (fun b cs f hS hb => by
  have hS':=hN b hS
  have:=h.low
  exact ⟨(P2.2.2.1 b (by omega)).trans ((P1.2.2.1 b (by omega)).trans hb),hS⟩) hu⟩
theorem SpB.fz {w W:World} {h0 h1:Int} {h2:ByteArray} {h3:Option Addr} {h4 h5:Nat} {b0 b1:Int} {b2:ByteArray} {b3:Option Addr} {b4 b5:Nat} (h:SpB w W h0 h1 h2 h3 h4 h5 b0 b1 b2 b3 b4 b5):(∀ j,W.frozen? ⟨w.heap.size+1,j,none⟩=false)∧(∀ j,W.frozen? ⟨w.heap.size+1+1,j,none⟩=false)∧(∀ j,W.frozen? ⟨w.heap.size+1+1+1,j,none⟩=false)∧(∀ j,W.frozen? ⟨w.heap.size+1+1+1+1,j,none⟩=false):=
 ⟨fun j => by simp [World.frozen?,h.r1],fun j => by simp [World.frozen?,h.r2],fun j => by simp [World.frozen?,h.hd],fun j => by simp [World.frozen?,h.bd]⟩
theorem isN_two {t:T} {l:List UInt8} (h:isN t l 2=true):∃ n s a,t=.mk 4 n s 2 a∧s.data.toList=l:=by
 cases t with
 | nil => simp [isN,nameT] at h
 | mk k n s m a =>
  by_cases h3:k=3
  ·subst h3;simp [isN,nameT] at h
  ·by_cases h4:k=4
   ·subst h4
    simp [isN,nameT] at h
    obtain ⟨h1,rfl⟩:=h
    exact ⟨n,s,a,rfl,h1⟩
   ·simp [isN,nameT,h3,h4] at h
theorem SpB.start {w:World} {q0 q1:Int} {q2:ByteArray} {q3:Option Addr} {q4 q5:Nat} {W:World}
 (hW:W=((((w.alloc (Obj.cells #[.int .i64 q0,.int .i64 q1,.string q2,.slice q3 q4 q5] 51)).alloc (Obj.cells #[.int .i64 0,.int .i64 0,.string ⟨#[]⟩,.slice none 0 0] 51)).alloc (Obj.cells #[.int .i64 0,.int .i64 0,.string ⟨#[]⟩,.slice none 0 0] 51)).alloc (Obj.cells #[.int .i64 q0,.int .i64 q1,.string q2,.slice q3 q4 q5] 51)).alloc (Obj.cells #[.int .i64 3,.int .i64 0,.string ⟨#[116,114,117,101]⟩,.slice none 0 0] 51)) :
 SpB w W q0 q1 q2 q3 q4 q5 3 0 ⟨#[116,114,117,101]⟩ none 0 0:=by
 have st:∀ (u:World) (o o':Obj) (g:Nat),u.heap[g]? =some o'→(u.alloc o).heap[g]? =some o':=fun u o o' g h => (Below.heap_alloc _ _ _ (heap_lt h)).trans h
 have nw:∀ (u:World) (o:Obj) (g:Nat),g=u.heap.size→(u.alloc o).heap[g]? =some o:=fun u o g h => heap_at u o h
 refine ⟨?_,?_,?_,?_,by rw [hW];exact belA (belA (belA (belA (belA (Below.refl _ _) _) _) _) _) _,by rw [hW];simp⟩
 ·rw [hW];exact st _ _ _ _ (st _ _ _ _ (st _ _ _ _ (nw _ _ _ (by simp))))
 ·rw [hW];exact st _ _ _ _ (st _ _ _ _ (nw _ _ _ (by simp)))
 ·rw [hW];exact st _ _ _ _ (nw _ _ _ (by simp))
 ·rw [hW];exact nw _ _ _ (by simp)
end Go.Proofs.YtdgpmpccfjmmcaaGreatDoor
namespace Go.Proofs.YtdgpmpccfjmmcaaGreatDoor
open Go.RowKit
theorem ctlV_is {k n:Int} {s:ByteArray} {m:Nat} {a:Nat→T}:ctlV k s m=ctlT (.mk k n s m a):=by
 unfold ctlV ctlT isN nameT
 rw [ByteArray.toList_eq]
 have key:∀ (l:List UInt8) (q:Nat),ctlL l (q:Int)=((some (l,q) == some (([44]:List UInt8),2)) || (some (l,q) == some ([59],2)) || (some (l,q) == some ([45,62],2)) || (some (l,q) == some ([92,43],1)) || (some (l,q) == some ([33],0))):=by
  intro l q
  have e2:((q:Int) == 2)=(q == 2):=Bool.eq_iff_iff.2 (by simp;omega)
  have e1:((q:Int) == 1)=(q == 1):=Bool.eq_iff_iff.2 (by simp;omega)
  have e0:((q:Int) == 0)=(q == 0):=Bool.eq_iff_iff.2 (by simp)
  unfold ctlL
  rw [e2,e1,e0]
  by_cases h1:l=[44]
  ·subst h1;exact Bool.eq_iff_iff.2 (by simp)
  by_cases h2:l=[59]
  ·subst h2;exact Bool.eq_iff_iff.2 (by simp)
  by_cases h3:l=[45,62]
  ·subst h3;exact Bool.eq_iff_iff.2 (by simp)
  by_cases h4:l=[92,43]
  ·subst h4;exact Bool.eq_iff_iff.2 (by simp)
  by_cases h5:l=[33]
  ·subst h5;exact Bool.eq_iff_iff.2 (by simp)
  simp [h1,h2,h3,h4,h5]
 by_cases h3:k=3
 ·rw [if_pos h3]
  dsimp only
  rw [if_pos h3]
  exact key _ 0
 ·rw [if_neg h3]
  dsimp only
  rw [if_neg h3]
  by_cases h4:k=4
  ·rw [if_pos h4,if_pos h4]
   exact key _ m
  ·rw [if_neg h4,if_neg h4]
   rfl
def fnK (Wb Fb:Nat):Value:=.func (.func 37) #[] #[.pointer (some ⟨Wb,0,none⟩),.pointer (some ⟨Fb,0,none⟩)]
structure Ck (w:World) (Wb Fb:Nat) (b:Bool):Prop where
 bw:w.heap[Wb]? =some (.cells #[.bool b] 4 (0,0))
 bf:w.heap[Fb]? =some (.cells #[fnK Wb Fb] 109 (0,0))
structure Ke (Lb B:Nat) (w w':World):Prop where
 low:Below B w w'
 keep:∀ b,b < w.heap.size→b≠Lb→w'.heap[b]? =w.heap[b]?
theorem Ke.of {Lb B:Nat} {w w':World} (h:Below w.heap.size w w') (hB:B≤w.heap.size):Ke Lb B w w':=⟨h.mono hB,fun b hb _ => h.block b hb⟩
theorem Ke.trans {Lb B:Nat} {w w1 w2:World} (h:Ke Lb B w w1) (k:Ke Lb B w1 w2):Ke Lb B w w2:=⟨h.low.trans k.low,fun b hb hn => (k.keep b (Nat.lt_of_lt_of_le hb h.low.size) hn).trans (h.keep b hb hn)⟩
theorem Ke.set {Lb B:Nat} {w:World} (hB:B≤Lb) (v:Value):Ke Lb B w (w.setCell ⟨Lb,0,none⟩ v):=⟨(Below.refl _ _).setCell (p:=⟨Lb,0,none⟩) hB v,fun _ _ hn => Below.heap_setCell _ _ _ _ hn⟩
theorem TP.low {w w':World} {B:Nat} {S:Nat→Prop} (hS:∀ b,S b→b < B) (hb:Below B w w') {t:T} {v:Value} (h:TP w S t v):TP w' S t v:=h.keep fun b _ _ hs hh => ⟨(hb.block b (hS b hs)).trans hh,hs⟩
theorem Ck.below {Wb Fb:Nat} {b:Bool} {w w':World} (h:Ck w Wb Fb b) (hb:Below w.heap.size w w'):Ck w' Wb Fb b:=⟨(hb.block _ (heap_lt h.bw)).trans h.bw,(hb.block _ (heap_lt h.bf)).trans h.bf⟩
theorem Ck.set {w:World} {Wb Fb:Nat} {b:Bool} (h:Ck w Wb Fb b) (hn:Wb≠Fb) (c:Bool):Ck (w.setCell ⟨Wb,0,none⟩ (.bool c)) Wb Fb c:=
 ⟨by simpa using blk_set h.bw 0 (.bool c),(Below.heap_setCell _ _ _ _ fun e => hn e.symm).trans h.bf⟩
def CkP (t:T) (Wb Fb B:Nat) (b:Bool) (w:World) (e:Ending) (w':World):Prop:=e=.returned (.tuple #[])∧(∃ c,Ck w' Wb Fb c∧Hid (c=(b || wrongT t)))∧Ke Wb B w w'
set_option maxRecDepth 100000 in
set_option maxHeartbeats 8000000 in
theorem pcheck_any:∀ t:T,t.ok→∀ (Wb Fb B:Nat) (b:Bool) (S:Nat→Prop) (v:Value) (w:World),(∀ q,S q→q < B)→B≤Wb→Wb≠Fb→Ck w Wb Fb b→TP w S t v→
 Calls Tryz.prog 37 #[v,.pointer (some ⟨Wb,0,none⟩),.pointer (some ⟨Fb,0,none⟩)] w fun e w' => CkP t Wb Fb B b w e w':=by
 intro t
 induction t with
 | nil => intro _ _ _ _ _ _ v w _ _ _ _ hv;exact hv.tin.elim
 | mk k n s m a ih =>
  intro hok Wb Fb B b S v w hS hB hWF hC hv
  obtain ⟨k',n',s',A,m',c,rfl⟩:=hv.agg
  obtain ⟨e0,e1,e2,rfl,hmc,hA,_⟩:=hv.args
  injection e0 with _ e0
  injection e1 with _ e1
  injection e2 with e2
  subst e0;subst e1;subst e2
  have HV:=Lib.hid hv
  have HS:=Lib.hid hS
  have HOK:=Lib.hid hok
  have IH:=Lib.hid ih
  have HC:=Lib.hid hC
  have hm:m' < 4000:=hok.few
  have c0:=cell_of_row w Wb 0 _ _ _ hC.bw
  have hlw:=heap_lt hC.bw
  have hlf:=heap_lt hC.bf
  have wz:∀ i,w.frozen? ⟨Wb,i,none⟩=false:=fun i => by simp [World.frozen?,HC.out.bw]
  obtain ⟨cv,hcv⟩:∃ cv,ctlT (.mk k' n' s' m' a)=cv:=⟨_,rfl⟩
  have HW:=Lib.hid (show wrongT (.mk k' n' s' m' a)=(k' == 2 || (cv && anyN m' fun i => wrongT (a i))) by rw [wrongT,hcv])
  have CC:=Lib.hid (fun W => pcontrol_any k' n' s' A m' c W)
  rw [ctlV_is (n:=n') (a:=a),hcv] at CC
  clear hv hok ih hA hC hS hcv
  go_enter Tryz.func37,Tryz.ntmps37
  go_upto_region 1 with fail
  go_cut [] (fun wx => ∃ b1:Bool,Hid (b1=(b || (k' == 2)))∧wx=(w.setCell ⟨Wb,0,none⟩ (.bool b1)).alloc (Obj.cells #[.int .i64 k',.int .i64 n',.string s',.slice A m' c] 51))
  case first =>
   cases b with
   | true =>
    go_wp2_with fail
    go_meet
    exact ⟨true,Lib.hid rfl,rfl⟩
   | false =>
    go_wp2_with fail
    go_meet
    exact ⟨_,Lib.hid rfl,rfl⟩
  case rest =>
   obtain ⟨b1,HB1,rfl⟩:=hcut
   clear c0 wz
   have BS:=Lib.hid (Below.alloc (Below.refl (w.setCell ⟨Wb,0,none⟩ (.bool b1)).heap.size (w.setCell ⟨Wb,0,none⟩ (.bool b1))) (Nat.le_refl _) (Obj.cells #[.int .i64 k',.int .i64 n',.string s',.slice A m' c] 51))
   have C1:=Lib.hid ((HC.out.set hWF b1).below BS.out)
   have K1:=Lib.hid ((Ke.set (w:=w) hB (.bool b1)).trans (Ke.of BS.out (by simp;omega)))
   have X1:=Lib.hid (show ((w.setCell ⟨Wb,0,none⟩ (.bool b1)).alloc (Obj.cells #[.int .i64 k',.int .i64 n',.string s',.slice A m' c] 51)).heap[w.heap.size]? =some (.cells #[.int .i64 k',.int .i64 n',.string s',.slice A m' c] 51 (0,0)) from heap_at _ _ (by simp))
   clear BS HC
   obtain ⟨W1,hW1⟩:∃ W1,W1=(w.setCell ⟨Wb,0,none⟩ (.bool b1)).alloc (Obj.cells #[.int .i64 k',.int .i64 n',.string s',.slice A m' c] 51):=⟨_,rfl⟩
   rw [← hW1] at C1 K1 X1 ⊢
   clear hW1
   have hl1:=heap_lt X1.out
   obtain ⟨x0,x1,x2,x3⟩:=box4t X1.out
   go_wp2_with fail
   refine (CC.out _).mono ?_
   rintro e w2 ⟨rfl,hx⟩
   have C2:=Lib.hid (C1.out.below hx)
   have K2:=Lib.hid (K1.out.trans (Ke.of hx (by have:=K1.out.low.size;have:=hx.size;omega)))
   have X2:=Lib.hid ((hx.block w.heap.size hl1).trans X1.out)
   have hl2:=heap_lt X2.out
   clear hx CC C1 K1 X1 x0 x1 x2 x3 hl1
   obtain ⟨x0,x1,x2,x3⟩:=box4t X2.out
   cases cv with
   | false =>
    go_wp2_with fail
    refine bodyPost_ret (v:=.tuple #[]) (by simp [results,go_sem]) rfl ?_
    exact ⟨rfl,⟨b1,C2.out,Lib.hid (by rw [HW.out,HB1.out];simp)⟩,K2.out⟩
   | true =>
    go_wp2_with fail
    go_loopw [17] (fun iv wr => ∃ (i:Nat) (b2:Bool),iv=.int .i64 (i:Int)∧i≤m'∧Ck wr Wb Fb b2∧Hid (b2=(b1 || anyN i fun i => wrongT (a i)))∧Ke Wb B w wr) (fun iv _ => m' - (intOf iv).toNat)
    case atStart => exact ⟨0,b1,rfl,Nat.zero_le _,C2.out,Lib.hid (by simp [anyN]),K2.out⟩
    case round =>
     clear C2 K2 x0 x1 x2 x3
     obtain ⟨i,b2,rfl,hi,hc,H2,hk⟩:=hrel
     have CR:=Lib.hid hc
     have KR:=Lib.hid hk
     have hws:=hk.low.size
     have y0:=cell_of_row wr Fb 0 _ _ _ hc.bf
     have hfl:=heap_lt hc.bf
     clear hc hk
     by_cases him:i < m'
     ·have him':(i:Int) < (m':Int):=by omega
      obtain ⟨_,_,_,_,_,_,hargs⟩:=(HV.out.low HS.out KR.out.low).args
      obtain ⟨g,k0,k1,k2,A0,m0,c1,rfl,_,hgl,d0,d1,d2,d3,ht⟩:=hargs i him
      have BA:=Lib.hid (belA (Below.refl wr.heap.size wr) (Obj.cells #[.int .i64 k0,.int .i64 k1,.string k2,.slice A0 m0 c1] 51))
      have CI:=Lib.hid (IH.out i (HOK.out.arg him) Wb Fb B b2 S _ (wr.alloc (Obj.cells #[.int .i64 k0,.int .i64 k1,.string k2,.slice A0 m0 c1] 51)) HS.out hB hWF (CR.out.below BA.out) (ht.below BA.out))
      have y1:(wr.alloc (Obj.cells #[.int .i64 k0,.int .i64 k1,.string k2,.slice A0 m0 c1] 51)).cell? ⟨Fb,0,none⟩=some (fnK Wb Fb):=cell_of_row _ Fb 0 _ _ _ ((CR.out.below BA.out).bf)
      clear hargs ht
      unfold fnK at y0 y1
      go_wp2_with fail
      refine CI.out.mono ?_
      rintro e w5 ⟨rfl,⟨b3,hc5,H3⟩,hk5⟩
      have C5:=Lib.hid hc5
      have K5:=Lib.hid ((KR.out.trans (Ke.of BA.out (by omega))).trans hk5)
      clear hc5 hk5 CI
      go_wp2_with fail
      go_roundw
      case rel => exact ⟨i+1,b3,by go_num,him,C5.out,Lib.hid (by rw [H3.out,H2.out,anyN,Bool.or_assoc]),K5.out⟩
      case measure => simp [intOf];omega
     ·obtain rfl:i=m':=by omega
      go_wp2_with fail
      refine bodyPost_ret (v:=.tuple #[]) (by simp [results,go_sem]) rfl ?_
      exact ⟨rfl,⟨b2,CR.out,Lib.hid (by rw [H2.out,HW.out,HB1.out,Bool.or_assoc];rfl)⟩,KR.out⟩
end Go.Proofs.YtdgpmpccfjmmcaaGreatDoor
