/- Goals of the program:the closure that gathers them. -/
import Derived.Test.YtdgpmpccfjmmcaaGreatDoorKJAi
import Derived.Deep.CutBlock
import Derived.Deep.DeepCutAuto
set_option linter.unusedVariables false
set_option linter.unusedSimpArgs false
namespace Go.Proofs.YtdgpmpccfjmmcaaGreatDoor
open Go.RowKit
def fnH (Fb Ob:Nat):Value:=.func (.func 38) #[] #[.pointer (some ⟨Fb,0,none⟩),.pointer (some ⟨Ob,0,none⟩)]
structure Gb (w:World) (Fb Ob B:Nat) (S P:Nat→Prop) (A:Option Addr) (m c:Nat) (l:List T) (qs:List Q6):Prop where
 bf:w.heap[Fb]? =some (.cells #[fnH Fb Ob] 109 (0,0))
 bo:w.heap[Ob]? =some (.cells #[.slice A m c] 47 (0,0))
 tl:TL w B S P (.slice A m c) l qs
theorem Gb.below {w w':World} {Fb Ob B:Nat} {S P:Nat→Prop} {A:Option Addr} {m c:Nat} {l:List T} {qs:List Q6} (h:Gb w Fb Ob B S P A m c l qs) (hb:Below w.heap.size w w'):Gb w' Fb Ob B S P A m c l qs:=
 ⟨(hb.block _ (heap_lt h.bf)).trans h.bf,(hb.block _ (heap_lt h.bo)).trans h.bo,h.tl.below hb⟩
theorem Gb.len {w:World} {Fb Ob B:Nat} {S P:Nat→Prop} {A:Option Addr} {m c:Nat} {l:List T} {qs:List Q6} (h:Gb w Fb Ob B S P A m c l qs):m=l.length:=by
 obtain ⟨_,_,e,_⟩:=own_open h.tl.own
 injection e
structure Kq (Ob B:Nat) (v v':Value) (w w':World):Prop where
 low:Below B w w'
 keep:∀ b,b < w.heap.size→b≠Ob→some b≠v.ownBlock→w'.heap[b]? =w.heap[b]?
 own:v'.ownBlock=v.ownBlock∨∀ g,v'.ownBlock=some g→w.heap.size≤g
theorem Kq.of {Ob B:Nat} {v:Value} {w w':World} (h:Below w.heap.size w w') (hB:B≤w.heap.size):Kq Ob B v v w w':=⟨h.mono hB,fun b hb _ _ => h.block b hb,.inl rfl⟩
theorem Kq.trans {Ob B:Nat} {v v1 v2:Value} {w w1 w2:World} (h:Kq Ob B v v1 w w1) (k:Kq Ob B v1 v2 w1 w2):Kq Ob B v v2 w w2:=by
 have hs:=h.low.size
 refine ⟨h.low.trans k.low,fun b hb hn ho => (k.keep b (by omega) hn fun e => ?_).trans (h.keep b hb hn ho),?_⟩
 ·rcases h.own with h1 | h1
  ·exact ho (e.trans h1)
  ·have:=h1 b e.symm;omega
 ·rcases k.own with h1 | h1
  ·rcases h.own with h2 | h2
   ·exact .inl (h1.trans h2)
   ·exact .inr fun g hg => h2 g (h1 ▸ hg)
  ·exact .inr fun g hg => Nat.le_trans hs (h1 g hg)
theorem Gb.neO {w w5:World} {Fb Ob B g cap n:Nat} {S P:Nat→Prop} {A:Option Addr} {m c:Nat} {l:List T} {qs:List Q6} {xs:List Value} (h:Gb w Fb Ob B S P A m c l qs) (hown:w5.ownsRow B 51 4 (.slice (some ⟨g,0,none⟩) n cap) n xs) (hg:w.grownBy w5 (Value.slice A m c).ownBlock)
 (hat:(Value.slice A m c).ownBlock=some g∨g=w.heap.size):Ob≠g∧w5.heap[Ob]? =some (.cells #[.slice A m c] 47 (0,0)):=by
 have h1:some Ob≠(Value.slice A m c).ownBlock:=fun e => by
  obtain ⟨cs',f',hh⟩:=Go.Lib.ownsRow_kind h.tl.own _ e.symm
  rw [h.bo] at hh
  injection hh with hh
  injection hh with _ hh
  exact absurd hh (by decide)
 refine ⟨fun e => ?_,(hg.block _ (heap_lt h.bo) h1).trans h.bo⟩
 subst e
 rcases hat with h2 | h2
 ·exact h1 h2.symm
 ·have:=heap_lt h.bo;omega
def GhP (t:T) (Fb Ob B:Nat) (S:Nat→Prop) (v:Value) (l:List T) (qs:List Q6) (w:World) (e:Ending) (w':World):Prop:=
 e=.returned (.tuple #[])∧∃ (P:Nat→Prop) (A:Option Addr) (m c:Nat) (qs':List Q6),Gb w' Fb Ob B S P A m c (l++gatN t) (qs++qs')∧Kq Ob B v (.slice A m c) w w'
theorem isN_zq {k n:Int} {s:ByteArray} {m:Nat} {a:Nat→T} {z:ByteArray} {q:Nat} {b:Bool} (h:(b=true∧z=s∧(k=3∧q=0∨k=4∧q=m))∨(b=false∧k≠3∧k≠4∧z=⟨#[]⟩∧q=0)) {l:List UInt8} (hl:l≠[]) (x:Nat) :
 isN (.mk k n s m a) l x=((z.toList == l) && ((q:Int) == (x:Int))):=by
 rw [isN_is h l x]
 unfold isV
 rw [nm_list]
 rcases h with ⟨rfl,_⟩ | ⟨rfl,_,_,rfl,_⟩
 ·simp
 ·have:((⟨#[]⟩:ByteArray).toList == l)=false:=by
   rw [ByteArray.toList_eq]
   cases l with
   | nil => exact absurd rfl hl
   | cons => rfl
  rw [this]
  rfl
theorem below_setCells {w w':World} {B g:Nat} (h:Below B w w') (hg:B≤g):∀ (us:List Value) (o:Nat),Below B w (w'.setCells g o us):=fun us => by
 induction us generalizing w' with
 | nil => exact fun _ => h
 | cons u us ih => exact fun o => ih (h.setCell (p:=⟨g,o,none⟩) hg u) (o+1)
theorem row_last {w:World} {B g m cap:Nat} {qs:List Q6} (h:w.ownsRow B 51 4 (.slice (some ⟨g,0,none⟩) (m+1) cap) (m+1) (qCells qs++[.int .i64 0,.int .i64 0,.string ⟨#[]⟩,.slice none 0 0])) (hm:qs.length=m) :
 w.cell? ⟨g,m*4,none⟩=some (.int .i64 0)∧w.cell? ⟨g,m*4+1,none⟩=some (.int .i64 0)∧w.cell? ⟨g,m*4+2,none⟩=some (.string ⟨#[]⟩)∧w.cell? ⟨g,m*4+3,none⟩=some (.slice none 0 0)∧(∀ i,w.frozen? ⟨g,i,none⟩=false)∧g < w.heap.size:=by
 have hl:(qCells qs).length=m*4:=by rw [qCells_length,hm]
 obtain ⟨_,_,e,_,_,_,hx⟩:=own_open h
 injection e with e1 _ e3
 obtain ⟨g',cur,e4,_,hh,hc⟩:=hx (by omega)
 rw [← e1] at e4
 injection e4 with e4
 injection e4 with e4
 subst e4
 have at_:∀ j v,(qCells qs++[.int .i64 0,.int .i64 0,.string ⟨#[]⟩,.slice none 0 0])[m*4+j]? =some v→j < 4→w.cell? ⟨g,m*4+j,none⟩=some v:=fun j v hv hj => (cell_of_row _ _ _ _ _ _ hh).trans ((hc _ (by omega)).trans hv)
 refine ⟨at_ 0 _ ?_ (by omega),at_ 1 _ ?_ (by omega),at_ 2 _ ?_ (by omega),at_ 3 _ ?_ (by omega),fun i => by simp [World.frozen?,hh],heap_lt hh⟩ <;> (rw [List.getElem?_append_right (by omega),hl];simp)
structure MkG (w u:World) (o:Obj):Prop where
 low:Below w.heap.size w u
 new:u.heap[w.heap.size]? =some o
 sz:u.heap.size=w.heap.size+1
theorem MkG.alloc (w:World) (o:Obj):MkG w (w.drew.alloc o) o:=⟨((Below.refl _ _).drew).alloc (Nat.le_refl _) _,heap_alloc_new w.drew o,by simp⟩
theorem MkG.alloc2 (w:World) (o:Obj):MkG w (w.alloc o) o:=⟨(Below.refl _ _).alloc (Nat.le_refl _) _,heap_alloc_new w o,by simp⟩
theorem Gb.put {w W w5 w9:World} {Fb Ob B g cap:Nat} {S P P2:Nat→Prop} {A:Option Addr} {m c:Nat} {l:List T} {qs:List Q6} (h:Gb w Fb Ob B S P A m c l qs) {t:T} (q:Q6) (hw:Below w.heap.size w W) (hBw:B≤w.heap.size) (hOB:B≤Ob) (ht:TP W (fun b => S b∨P2 b) t q.val) (hlo:∀ b,P2 b→w.heap.size≤b∧b < W.heap.size)
 (hown:w5.ownsRow B 51 4 (.slice (some ⟨g,0,none⟩) (m+1) cap) (m+1) (qCells qs++[.int .i64 0,.int .i64 0,.string ⟨#[]⟩,.slice none 0 0])) (hg:W.grownBy w5 (Value.slice A m c).ownBlock) (hat:(Value.slice A m c).ownBlock=some g∨g=W.heap.size)
 (h9:w9=(w5.setCells g (m*4) q.cells).setCell ⟨Ob,0,none⟩ (.slice (some ⟨g,0,none⟩) (m+1) cap)∨w9=(w5.setCell ⟨Ob,0,none⟩ (.slice (some ⟨g,0,none⟩) (m+1) cap)).setCells g (m*4) q.cells) :
 Gb w9 Fb Ob B S (fun b => P b∨P2 b) (some ⟨g,0,none⟩) (m+1) cap (l++[t]) (qs++[q])∧Kq Ob B (.slice A m c) (.slice (some ⟨g,0,none⟩) (m+1) cap) w w9:=by
 have hsW:=hw.size
 have H:=h.below hw
 have hof:∀ g',(Value.slice A m c).ownBlock=some g'→¬ P2 g':=fun g' e hp => by
  have h1:=(h.tl.own.lt g' e).2
  have:=(hlo g' hp).1
  omega
 have HT:=H.tl.put h.len q ht (fun b hb => ⟨by have:=(hlo b hb).1;omega,(hlo b hb).2⟩) hof hown hg hat
 have hgl:=(hown.lt g rfl).2
 have hgW:∀ b cs t f,W.heap[b]? =some (.cells cs t f)→t≠51→some b≠(Value.slice A m c).ownBlock∧b≠g:=fun b cs t f hb htt => by
  have h1:some b≠(Value.slice A m c).ownBlock:=fun e => by
   obtain ⟨cs',f',hh⟩:=Go.Lib.ownsRow_kind H.tl.own _ e.symm
   rw [hb] at hh
   injection hh with hh
   injection hh with _ hh
   exact htt hh
  refine ⟨h1,fun e => ?_⟩
  subst e
  rcases hat with h2 | h2
  ·exact h1 h2.symm
  ·have:=heap_lt hb;omega
 obtain ⟨nO1,nO2⟩:=hgW _ _ _ _ H.bo (by decide)
 obtain ⟨nF1,nF2⟩:=hgW _ _ _ _ H.bf (by decide)
 have nFO:Fb≠Ob:=fun e => by
  have h1:=H.bf
  rw [e,H.bo] at h1
  injection h1 with h1
  injection h1 with _ h1
  exact absurd h1 (by decide)
 have hall:∀ b,b≠Ob→w9.heap[b]? =(w5.setCells g (m*4) q.cells).heap[b]?:=fun b hb => by
  rcases h9 with rfl | rfl
  ·exact Below.heap_setCell _ _ _ _ hb
  ·by_cases hbg:b=g
   ·subst hbg
    obtain ⟨cs,f,hh⟩:=Go.Lib.ownsRow_kind hown _ rfl
    have h1:(w5.setCell ⟨Ob,0,none⟩ (.slice (some ⟨b,0,none⟩) (m+1) cap)).heap[b]? =some (.cells cs 51 f):=(Below.heap_setCell _ _ _ _ hb).trans hh
    have hc:m*4+q.cells.length≤cs.size:=by
     obtain ⟨_,cur,e,_,hcur,_⟩:∃ (x:Nat) (cur:Array Value),w5.heap[b]? =some (.cells cur 51 (0,0))∧x=0∧(m+1)*4≤cur.size∧True:=by
      rcases hown.2 with ⟨hv,_⟩ | ⟨g',cp,cur,hv,_,hh',hn,_,hs,_⟩
      ·cases hv
      ·injection hv with e1 _ e3
       injection e1 with e1
       injection e1 with e1
       subst e1;subst e3
       exact ⟨0,cur,hh',rfl,by rw [hs];omega,trivial⟩
     rw [hh] at e
     injection e with e
     injection e with e
     subst e
     simp [Q6.cells]
     omega
    rw [setCells_block q.cells (m*4) _ _ h1 hc,setCells_block q.cells (m*4) _ _ hh hc]
   ·rw [setCells_other hbg,setCells_other hbg]
    exact Below.heap_setCell _ _ _ _ hb
 have hsz:w9.heap.size=w5.heap.size:=by rcases h9 with rfl | rfl <;> simp [setCells_size]
 have hO9:w9.heap[Ob]? =some (.cells #[.slice (some ⟨g,0,none⟩) (m+1) cap] 47 (0,0)):=by
  have h5:w5.heap[Ob]? =some (.cells #[.slice A m c] 47 (0,0)):=(hg.block _ (heap_lt H.bo) nO1).trans H.bo
  rcases h9 with rfl | rfl
  ·have h6:(w5.setCells g (m*4) q.cells).heap[Ob]? =some (.cells #[.slice A m c] 47 (0,0)):=(setCells_other nO2 _ _ _).trans h5
   simpa using blk_set h6 0 (.slice (some ⟨g,0,none⟩) (m+1) cap)
  ·refine (setCells_other nO2 _ _ _).trans ?_
   simpa using blk_set h5 0 (.slice (some ⟨g,0,none⟩) (m+1) cap)
 have hF9:w9.heap[Fb]? =some (.cells #[fnH Fb Ob] 109 (0,0)):=(hall Fb nFO).trans ((setCells_other nF2 _ _ _).trans ((hg.block _ (heap_lt H.bf) nF1).trans H.bf))
 have hW9:∀ b,b < W.heap.size→b≠Ob→some b≠(Value.slice A m c).ownBlock→w9.heap[b]? =W.heap[b]?:=fun b hb hO ho => by
  refine (hall b hO).trans ((setCells_other (fun e => ?_) _ _ _).trans (hg.block b hb ho))
  subst e
  rcases hat with h2 | h2
  ·exact ho h2.symm
  ·omega
 refine ⟨⟨hF9,hO9,HT.key (by rw [setCells_size,hsz];exact Nat.le_refl _) fun b cs f hb => ?_⟩,?_,?_,?_⟩
 ·refine (hall b fun e => ?_).trans hb
  subst e
  have h6:(w5.setCells g (m*4) q.cells).heap[b]? =some (.cells #[.slice A m c] 47 (0,0)):=(setCells_other nO2 _ _ _).trans ((hg.block _ (heap_lt H.bo) nO1).trans H.bo)
  rw [h6] at hb
  injection hb with hb
  injection hb with _ hb
  exact absurd hb (by decide)
 ·have h1:Below B w w5:=(hw.mono hBw).grown hg (by omega) (ownBlock_ge H.tl.own)
  have hgB:=(hown.lt g rfl).1
  rcases h9 with rfl | rfl
  ·exact (below_setCells h1 hgB _ _).setCell (p:=⟨Ob,0,none⟩) hOB _
  ·exact below_setCells (h1.setCell (p:=⟨Ob,0,none⟩) hOB _) hgB _ _
 ·intro b hb hO ho
  exact (hW9 b (by omega) hO ho).trans (hw.block b hb)
 ·rcases hat with h2 | h2
  ·exact .inl h2.symm
  ·refine .inr fun g' e => ?_
   have e:g=g':=by simpa [Value.ownBlock] using e
   omega
set_option maxRecDepth 100000 in
set_option maxHeartbeats 16000000 in
theorem gath_any:∀ t:T,t.ok→∀ (Fb Ob B:Nat) (S P:Nat→Prop) (A:Option Addr) (m c:Nat) (l:List T) (qs:List Q6) (v:Value) (w:World),B≤w.heap.size→B≤Ob→l.length+t.nodes≤100000→Gb w Fb Ob B S P A m c l qs→TP w S t v→
 Calls Tryz.prog 38 #[v,.pointer (some ⟨Fb,0,none⟩),.pointer (some ⟨Ob,0,none⟩)] w fun e w' => GhP t Fb Ob B S (.slice A m c) l qs w e w':=by
 intro t
 induction t with
 | nil => intro _ _ _ _ _ _ _ _ _ _ _ v w _ _ _ _ hv;exact hv.tin.elim
 | mk k n s m' a ih =>
  intro hok Fb Ob B S P A m c l qs v w hBw hOB hlen hG hv
  obtain ⟨k',n',s',A',mm,c',rfl⟩:=hv.agg
  obtain ⟨e0,e1,e2,rfl,hmc,hA,_⟩:=hv.args
  injection e0 with _ e0
  injection e1 with _ e1
  injection e2 with e2
  subst e0;subst e1;subst e2
  have HV:=Lib.hid hv
  have HOK:=Lib.hid hok
  have IH:=Lib.hid ih
  have HS:=Lib.hid hG.tl.NB
  obtain ⟨z,q,b,he,hz⟩:=nameV_cases k' s' mm
  have CN:=Lib.hid (fun W => pname_any k' n' s' A' mm c' W)
  rw [he] at CN
  obtain ⟨c1,hc1⟩:∃ c1,isN (.mk k' n' s' mm a) [44] 2=c1:=⟨_,rfl⟩
  obtain ⟨c2,hc2⟩:∃ c2,isN (.mk k' n' s' mm a) [116,114,117,101] 0=c2:=⟨_,rfl⟩
  have HC1:=Lib.hid hc1
  have HC2:=Lib.hid hc2
  have HZ1:=Lib.hid ((isN_zq (n:=n') (a:=a) hz (l:=[44]) (by simp) 2).symm.trans hc1)
  have HZ2:=Lib.hid ((isN_zq (n:=n') (a:=a) hz (l:=[116,114,117,101]) (by simp) 0).symm.trans hc2)
  have HM:=Lib.hid hG.len
  have BX:=Lib.hid (belA (Below.refl w.heap.size w) (Obj.cells #[.int .i64 k',.int .i64 n',.string s',.slice A' mm c'] 51))
  have G0:=Lib.hid (hG.below BX.out)
  have K0:=Lib.hid (Kq.of (Ob:=Ob) (v:=.slice A m c) BX.out hBw)
  have X0:=Lib.hid (heap_alloc_new w (Obj.cells #[.int .i64 k',.int .i64 n',.string s',.slice A' mm c'] 51))
  have HLen:=Lib.hid hlen
  have HBw:=Lib.hid hBw
  have HNW:=Lib.hid (show w.heap.size≠Ob∧some w.heap.size≠(Value.slice A m c).ownBlock from ⟨fun e => by have:=heap_lt hG.bo;omega,fun e => by have:=(hG.tl.own.lt _ e.symm).2;omega⟩)
  clear hv hok ih hA hG he hz hc1 hc2 hlen hmc hBw
  go_enter Tryz.func38,Tryz.ntmps38
  go_wp2_with fail
  refine (CN.out _).mono ?_
  rintro e w1 ⟨rfl,hx⟩
  have G1:=Lib.hid (G0.out.below hx)
  have K1:=Lib.hid (K0.out.trans (Kq.of hx (by have:=K0.out.low.size;have:=HBw.out;omega)))
  have hl0:=heap_lt X0.out
  have X1:=Lib.hid ((hx.block w.heap.size hl0).trans X0.out)
  have B1:=Lib.hid (BX.out.trans (hx.mono BX.out.size))
  have HV1:=Lib.hid (HV.out.below B1.out)
  clear hx CN G0 K0 X0 BX hl0
  have hl1:=heap_lt X1.out
  go_upto_region 3 with fail
  go_cut [19] (fun s19 wx => s19=.bool c1∧w1=wx)
  case first =>
   have hz1:=HZ1.out
   cases h1:(z.toList == [44]) with
   | false =>
    rw [h1] at hz1
    have HE:=Lib.hid (show c1=false from hz1.symm)
    clear hz1
    go_wp2_with fail
    go_meet
    exact ⟨by rw [HE.out],rfl⟩
   | true =>
    rw [h1] at hz1
    have HE:=Lib.hid (show c1=((q:Int) == 2) from hz1.symm)
    clear hz1
    go_wp2_with fail
    go_meet
    exact ⟨by rw [HE.out],rfl⟩
  case rest =>
   obtain ⟨rfl,rfl⟩:=hcut
   cases c1 with
   | true =>
    obtain ⟨n1,s1,a1,he,_⟩:=isN_two HC1.out
    injection he with e1 e2 e3 e4 e5
    subst e1;subst e2;subst e3;subst e4;subst e5
    have HGN:=Lib.hid (show gatN (.mk 4 n' s' 2 a)=gatN (a 0)++gatN (a 1) by conv => lhs;unfold gatN;rw [HC1.out,if_pos rfl])
    have HNO:=Lib.hid (show (T.mk 4 n' s' 2 a).nodes=1+(0+(a 0).nodes+(a 1).nodes) from rfl)
    have HG0:=Lib.hid (gat_ok (a 0) (HOK.out.1.2 0 (by omega)))
    obtain ⟨_,_,_,_,_,_,hargs⟩:=HV1.out.args
    obtain ⟨g,k0,k1,k2,A0,m0,c0,rfl,hSg,hgl,d0,d1,d2,d3,hta⟩:=hargs 0 (by omega)
    simp only [Nat.zero_mul,Nat.zero_add] at d0 d1 d2 d3
    have hBw1:B≤w1.heap.size:=by have:=K1.out.low.size;have:=HBw.out;omega
    have D:=Lib.hid (show w1.cell? ⟨g,0,none⟩=some (.int .i64 k0)∧w1.cell? ⟨g,1,none⟩=some (.int .i64 k1)∧w1.cell? ⟨g,2,none⟩=some (.string k2)∧w1.cell? ⟨g,3,none⟩=some (.slice A0 m0 c0) from ⟨d0,d1,d2,d3⟩)
    have CI:=Lib.hid (IH.out 0 (HOK.out.arg (by omega)) Fb Ob B S P A m c l qs _ w1.drew hBw1 hOB (by have:=HLen.out;have:=HNO.out;omega) (G1.out.below (Below.refl _ _).drew) (hta.below (Below.refl _ _).drew))
    have HGL:=Lib.hid hgl
    clear hargs hta d0 d1 d2 d3
    go_wp2_with fail
    refine regionF (fun k u => match k with | 0 => u.heap[Fb]? =some (.cells #[.func (.func 38) #[] #[.pointer (some ⟨Fb,0,none⟩),.pointer (some ⟨Ob,0,none⟩)]] 109 (0,0)) | 2 => u.heap[w.heap.size]? =some (.cells #[.int .i64 4,.int .i64 n',.string s',.slice (some ⟨g,0,none⟩) 2 c'] 51 (0,0)) | 4 => u.cell? ⟨g,0,none⟩=some (.int .i64 k0)∧u.cell? ⟨g,1,none⟩=some (.int .i64 k1)∧u.cell? ⟨g,2,none⟩=some (.string k2)∧u.cell? ⟨g,3,none⟩=some (.slice A0 m0 c0) | _ => True) [0,2,4] (by kernel_rfl) (⟨G1.out.bf,X1.out,D.out,trivial⟩) (fun hH => ?k4b)
    refine takeL 0 (v:=?k4_1v) (by kernel_rfl) ?k4_1y (by rfl) (fun _ _ _ h => h) (by assumption) ?k4_1r
    case k4_1y => (intro u hF;(try dsimp only at hF);simp only [opD];have hc:=cell_of_row u Fb 0 _ _ _ hF;have hl:=heap_lt hF;clear hF;go_simp;try with_reducible rfl)
    try simp only [opD,Act.put,List.setIfInBounds_toArray,List.set_cons_zero,List.set_cons_succ]
    refine takeP 1 (v:=?k4_2v) (by kernel_rfl) ?k4_2y (by rfl) (fun _ _ _ h => h) (by assumption) ?k4_2r
    case k4_2y => (intro u;simp only [opD];go_simp;try with_reducible rfl)
    try simp only [opD,Act.put,List.setIfInBounds_toArray,List.set_cons_zero,List.set_cons_succ]
    refine takeL 2 (v:=?k4_3v) (by kernel_rfl) ?k4_3y (by rfl) (fun _ _ _ h => h) (by assumption) ?k4_3r
    case k4_3y => (intro u hF;(try dsimp only at hF);simp only [opD];obtain ⟨y0,y1,y2,y3⟩:=box4t hF;have hl:=heap_lt hF;clear hF;go_simp;try with_reducible rfl)
    try simp only [opD,Act.put,List.setIfInBounds_toArray,List.set_cons_zero,List.set_cons_succ]
    refine takeP 3 (v:=?k4_4v) (by kernel_rfl) ?k4_4y (by rfl) (fun _ _ _ h => h) (by assumption) ?k4_4r
    case k4_4y => (intro u;simp only [opD];go_simp;try with_reducible rfl)
    try simp only [opD,Act.put,List.setIfInBounds_toArray,List.set_cons_zero,List.set_cons_succ]
    refine takeL 4 (v:=?k4_5v) (by kernel_rfl) ?k4_5y (by rfl) (fun _ _ _ h => h) (by assumption) ?k4_5r
    case k4_5y => (intro u hF;(try dsimp only at hF);simp only [opD];obtain ⟨y0,y1,y2,y3⟩:=hF;go_simp;try with_reducible rfl)
    try simp only [opD,Act.put,List.setIfInBounds_toArray,List.set_cons_zero,List.set_cons_succ]
    refine readyAll (rs:=[5]) (by kernel_rfl) (by simp) ?_
    refine readyF.cons [] (by kernel_rfl) (fun o hO K hK => ?k4_6a) ?k4_6n
    case k4_6a =>
     (simp only [opD] at hO);subst hO
     go_simp
     refine CI.out.mono ?_
     rintro e w2 ⟨rfl,P2,A2,m2,c2,qs2,hg2,hk2⟩
     refine hK.out _ _ ?k4_6s (fun hH => ?k4_6r)
     case k4_6s => trivial
     clear hK K
     try simp only [Act.put,List.setIfInBounds_toArray,List.set_cons_zero,List.set_cons_succ]
     refine readyDone (by kernel_rfl) ?_
     have G2:=Lib.hid hg2
     have K2:=Lib.hid (K1.out.trans ((Kq.of (Below.refl _ _).drew hBw1).trans hk2))
     have X2:=Lib.hid ((hk2.keep w.heap.size hl1 HNW.out.1 HNW.out.2).trans X1.out)
     have hBw2:B≤w2.heap.size:=Nat.le_trans hBw1 hk2.low.size
     have hl2:=heap_lt X2.out
     obtain ⟨_,_,_,_,_,_,hargs⟩:=(HV.out.low HS.out K2.out.low).args
     obtain ⟨g',j0,j1,j2,A1,m1,c1,hA1,_,hgl2,d0,d1,d2,d3,hta⟩:=hargs 1 (by omega)
     injection hA1 with hA1
     injection hA1 with hA1 _
     subst hA1
     simp only [Nat.one_mul] at d0 d1 d2 d3
     have D2:=Lib.hid (show w2.cell? ⟨g,4,none⟩=some (.int .i64 j0)∧w2.cell? ⟨g,5,none⟩=some (.int .i64 j1)∧w2.cell? ⟨g,6,none⟩=some (.string j2)∧w2.cell? ⟨g,7,none⟩=some (.slice A1 m1 c1) from ⟨d0,d1,d2,d3⟩)
     have CI2:=Lib.hid (IH.out 1 (HOK.out.arg (by omega)) Fb Ob B S P2 A2 m2 c2 (l++gatN (a 0)) (qs++qs2) _ w2.drew hBw2 hOB (by have:=HLen.out;have:=HNO.out;have:=HG0.out.2.2;rw [List.length_append];omega) (G2.out.below (Below.refl _ _).drew) (hta.below (Below.refl _ _).drew))
     clear hargs hta d0 d1 d2 d3 hg2 hk2 CI
     go_wp2_with fail
     refine regionF (fun k u => match k with | 0 => u.heap[Fb]? =some (.cells #[.func (.func 38) #[] #[.pointer (some ⟨Fb,0,none⟩),.pointer (some ⟨Ob,0,none⟩)]] 109 (0,0)) | 2 => u.heap[w.heap.size]? =some (.cells #[.int .i64 4,.int .i64 n',.string s',.slice (some ⟨g,0,none⟩) 2 c'] 51 (0,0)) | 4 => u.cell? ⟨g,4,none⟩=some (.int .i64 j0)∧u.cell? ⟨g,5,none⟩=some (.int .i64 j1)∧u.cell? ⟨g,6,none⟩=some (.string j2)∧u.cell? ⟨g,7,none⟩=some (.slice A1 m1 c1) | _ => True) [0,2,4] (by kernel_rfl) (⟨G2.out.bf,X2.out,D2.out,trivial⟩) (fun hH => ?k5b)
     refine takeL 0 (v:=?k5_1v) (by kernel_rfl) ?k5_1y (by rfl) (fun _ _ _ h => h) (by assumption) ?k5_1r
     case k5_1y => (intro u hF;(try dsimp only at hF);simp only [opD];have hc:=cell_of_row u Fb 0 _ _ _ hF;have hl:=heap_lt hF;clear hF;go_simp;try with_reducible rfl)
     try simp only [opD,Act.put,List.setIfInBounds_toArray,List.set_cons_zero,List.set_cons_succ]
     refine takeP 1 (v:=?k5_2v) (by kernel_rfl) ?k5_2y (by rfl) (fun _ _ _ h => h) (by assumption) ?k5_2r
     case k5_2y => (intro u;simp only [opD];go_simp;try with_reducible rfl)
     try simp only [opD,Act.put,List.setIfInBounds_toArray,List.set_cons_zero,List.set_cons_succ]
     refine takeL 2 (v:=?k5_3v) (by kernel_rfl) ?k5_3y (by rfl) (fun _ _ _ h => h) (by assumption) ?k5_3r
     case k5_3y => (intro u hF;(try dsimp only at hF);simp only [opD];obtain ⟨y0,y1,y2,y3⟩:=box4t hF;have hl:=heap_lt hF;clear hF;go_simp;try with_reducible rfl)
     try simp only [opD,Act.put,List.setIfInBounds_toArray,List.set_cons_zero,List.set_cons_succ]
     refine takeP 3 (v:=?k5_4v) (by kernel_rfl) ?k5_4y (by rfl) (fun _ _ _ h => h) (by assumption) ?k5_4r
     case k5_4y => (intro u;simp only [opD];go_simp;try with_reducible rfl)
     try simp only [opD,Act.put,List.setIfInBounds_toArray,List.set_cons_zero,List.set_cons_succ]
     refine takeL 4 (v:=?k5_5v) (by kernel_rfl) ?k5_5y (by rfl) (fun _ _ _ h => h) (by assumption) ?k5_5r
     case k5_5y => (intro u hF;(try dsimp only at hF);simp only [opD];obtain ⟨y0,y1,y2,y3⟩:=hF;go_simp;try with_reducible rfl)
     try simp only [opD,Act.put,List.setIfInBounds_toArray,List.set_cons_zero,List.set_cons_succ]
     refine readyAll (rs:=[5]) (by kernel_rfl) (by simp) ?_
     refine readyF.cons [] (by kernel_rfl) (fun o hO K hK => ?k5_6a) ?k5_6n
     case k5_6a =>
      (simp only [opD] at hO);subst hO
      go_simp
      refine CI2.out.mono ?_
      rintro e w8 ⟨rfl,P3,A3,m3,c3,qs3,hg3,hk3⟩
      have G3:=Lib.hid hg3
      have K3:=Lib.hid (K2.out.trans ((Kq.of (Below.refl _ _).drew hBw2).trans hk3))
      clear hg3 hk3 CI2
      refine hK.out _ _ ?k5_6s (fun hH => ?k5_6r)
      case k5_6s => trivial
      clear hK K
      try simp only [Act.put,List.setIfInBounds_toArray,List.set_cons_zero,List.set_cons_succ]
      refine readyDone (by kernel_rfl) ?_
      go_wp2_with fail
      refine bodyPost_ret (v:=.tuple #[]) (by simp [results,go_sem]) rfl ?_
      refine ⟨rfl,P3,A3,m3,c3,qs2++qs3,?_,K3.out⟩
      rw [HGN.out,← List.append_assoc,← List.append_assoc]
      exact G3.out
     case k5_6n =>
      exact readyF.nil
    case k4_6n =>
     exact readyF.nil
   | false =>
    have hx1:=box4t X1.out
    go_upto_region 6 with fail
    go_cut [38] (fun s38 wx => s38=.bool c2∧w1=wx)
    case first =>
     have hz2:=HZ2.out
     cases h1:(z.toList == [116,114,117,101]) with
     | false =>
      rw [h1] at hz2
      have HE:=Lib.hid (show c2=false from hz2.symm)
      clear hz2
      go_wp2_with fail
      go_meet
      exact ⟨by rw [HE.out],rfl⟩
     | true =>
      rw [h1] at hz2
      have HE:=Lib.hid (show c2=((q:Int) == 0) from hz2.symm)
      clear hz2
      go_wp2_with fail
      go_meet
      exact ⟨by rw [HE.out],rfl⟩
    case rest =>
     obtain ⟨rfl,rfl⟩:=hcut
     cases c2 with
     | true =>
      go_wp2_with fail
      refine bodyPost_ret (v:=.tuple #[]) (by simp [results,go_sem]) rfl ?_
      have e:gatN (.mk k' n' s' mm a)=[]:=by unfold gatN;rw [HC1.out,HC2.out];rfl
      refine ⟨rfl,P,A,m,c,[],?_,K1.out⟩
      rw [e,List.append_nil,List.append_nil]
      exact G1.out
     | false =>
      obtain ⟨x0,x1,x2,x3⟩:=hx1
      cases h3:(k' == 1) with
      | true =>
       have hk1:k'=1:=by simpa using h3
       have HG3:=Lib.hid (show gatN (.mk k' n' s' mm a)=[.mk 4 0 callW 1 fun _ => .mk k' n' s' mm a] by unfold gatN;rw [HC1.out,HC2.out];simp [hk1])
       obtain ⟨itemI,jj1,jj2,jj3,jj4⟩:=elTerm.hi
       have hmlt:(m:Int) < (m:Int)+1:=by omega
       have hm1:m≤100000:=by have:=HLen.out;have:=HM.out;omega
       have hBw1:B≤w1.heap.size:=by have:=K1.out.low.size;have:=HBw.out;omega
       have hww1:=B1.out.size
       have hq1:qs.length=m:=by rw [G1.out.tl.len,HM.out]
       clear hk1
       go_wp2_with fail
       clear x0 x1 x2 x3
       refine regionF (fun k u => match k with | 0 => u.heap[Ob]? =some (.cells #[.slice A m c] 47 (0,0)) | 1 => u.heap[w.heap.size]? =some (.cells #[.int .i64 k',.int .i64 n',.string s',.slice A' mm c'] 51 (0,0)) | _ => True) [0,1] (by kernel_rfl) (⟨G1.out.bo,X1.out,trivial⟩) (fun hH => ?k8b)
       refine takeL 0 (v:=?k8_1v) (by kernel_rfl) ?k8_1y (by rfl) (fun _ _ _ h => h) (by assumption) ?k8_1r
       case k8_1y => (intro u hF;(try dsimp only at hF);simp only [opD];have hc:=cell_of_row u Ob 0 _ _ _ hF;have hl:=heap_lt hF;clear hF;go_simp;try with_reducible rfl)
       try simp only [opD,Act.put,List.setIfInBounds_toArray,List.set_cons_zero,List.set_cons_succ]
       refine takeL 1 (v:=?k8_2v) (by kernel_rfl) ?k8_2y (by rfl) (fun _ _ _ h => h) (by assumption) ?k8_2r
       case k8_2y => (intro u hF;(try dsimp only at hF);simp only [opD];obtain ⟨y0,y1,y2,y3⟩:=box4t hF;have hl:=heap_lt hF;clear hF;go_simp;try with_reducible rfl)
       try simp only [opD,Act.put,List.setIfInBounds_toArray,List.set_cons_zero,List.set_cons_succ]
       refine takeP 4 (v:=?k8_3v) (by kernel_rfl) ?k8_3y (by rfl) (fun _ _ _ h => h) (by assumption) ?k8_3r
       case k8_3y => (intro u;simp only [opD];go_simp;try with_reducible rfl)
       try simp only [opD,Act.put,List.setIfInBounds_toArray,List.set_cons_zero,List.set_cons_succ]
       refine readyAll (rs:=[2,5]) (by kernel_rfl) (by simp) ?_
       refine readyF.cons [0] (by kernel_rfl) (fun o hO K hK => ?k8_4a) ?k8_4n
       case k8_4a =>
        (simp only [opD] at hO);subst hO
        go_simp
        refine shutGo hK (fun u => MkG w1 u (.cells #[.int .i64 k',.int .i64 n',.string s',.slice A' mm c'] 51 (0,0))) (MkG.alloc _ _) (fun u hu => ⟨(hu.low.block _ (heap_lt G1.out.bo)).trans G1.out.bo,trivial⟩) (fun w3 hu hH => ?k8_4r)
        clear hK K
        try simp only [Act.put,List.setIfInBounds_toArray,List.set_cons_zero,List.set_cons_succ]
        have M3:=Lib.hid hu
        have G3:=Lib.hid (G1.out.below hu.low)
        have X3:=Lib.hid ((hu.low.block _ hl1).trans X1.out)
        clear hu
        refine takeP 3 (v:=?k8_5v) (by kernel_rfl) ?k8_5y (by rfl) (fun _ _ _ h => h) (by assumption) ?k8_5r
        case k8_5y => (intro u;simp only [opD];go_simp;try with_reducible rfl)
        try simp only [opD,Act.put,List.setIfInBounds_toArray,List.set_cons_zero,List.set_cons_succ]
        refine readyAll (rs:=[5]) (by kernel_rfl) (by simp) ?_
        refine readyF.cons [0] (by kernel_rfl) (fun o hO K hK => ?k8_6a) ?k8_6n
        case k8_6a =>
         (simp only [opD] at hO);subst hO
         go_simp
         refine shutGo hK (fun u => MkG w3 u (.cells #[.int .i64 0,.int .i64 0,.string ⟨#[]⟩,.slice none 0 0] 51 (0,0))) (MkG.alloc2 _ _) (fun u hu => ⟨(hu.low.block _ (heap_lt G3.out.bo)).trans G3.out.bo,trivial⟩) (fun w4 hu hH => ?k8_6r)
         clear hK K
         try simp only [Act.put,List.setIfInBounds_toArray,List.set_cons_zero,List.set_cons_succ]
         have M4:=Lib.hid hu
         have G4:=Lib.hid (G3.out.below hu.low)
         clear hu
         have O4:=Lib.hid (show w4.ownsRow B 51 4 (.slice A m c) m (qCells qs) by have:=G4.out.tl.own;rw [← HM.out] at this;exact this)
         have Z4:=Lib.hid M4.out.new
         have A4:=Lib.hid ((M4.out.low.block _ (by have:=M3.out.sz;omega)).trans M3.out.new)
         have L4:=Lib.hid (M3.out.low.trans (M4.out.low.mono (by have:=M3.out.sz;omega)))
         refine readyAll (rs:=[6]) (by kernel_rfl) (by simp) ?_
         refine readyF.cons [] (by kernel_rfl) (fun o hO K hK => ?k8_7a) ?k8_7n
         case k8_7a =>
          (simp only [opD] at hO);subst hO
          refine step_append_lies _ rfl _ _ _ rfl B 51 itemI (.agg #[.int .i64 0,.int .i64 0,.string ⟨#[]⟩,.slice none 0 0]) 4 56 Tryz.underlying47 jj1 jj2 jj3 jj4 rfl (by omega) (.slice A m c) m (qCells qs) rfl O4.out ⟨w3.heap.size,0,none⟩ 1 1 [.int .i64 0,.int .i64 0,.string ⟨#[]⟩,.slice none 0 0] rfl rfl (World.news_of_block Z4.out) ?sm25 (by omega) (by unfold maxLen;omega) (by omega) (by have:=L4.out.size;omega) _ rfl ?_
          case sm25 => (intro u hu;simp only [List.mem_cons,List.not_mem_nil,or_false] at hu;rcases hu with rfl | rfl | rfl | rfl <;> rfl)
          intro g1 cap1 w5 hown1 hg1 hat1 hlt1
          refine hK.out _ _ ?k8_7s (fun hH => ?k8_7r)
          case k8_7s => trivial
          clear hK K
          try simp only [Act.put,List.setIfInBounds_toArray,List.set_cons_zero,List.set_cons_succ]
          have HO5:=Lib.hid hown1
          have HG5:=Lib.hid hg1
          have HA5:=Lib.hid hat1
          have hg1O:=Gb.neO G4.out hown1 hg1 hat1
          obtain ⟨c0,c1,c2,c3,fz,_⟩:=row_last hown1 hq1
          have b5:=hg1O.2
          have cO:=cell_of_row w5 Ob 0 _ _ _ b5
          have fO:∀ i,w5.frozen? ⟨Ob,i,none⟩=false:=fun i => by simp [World.frozen?,b5]
          have lO:=heap_lt b5
          have nO1:=hg1O.1
          have nO2:=Ne.symm hg1O.1
          clear hown1 hg1 hat1 hg1O b5
          refine takeP 7 (v:=?k8_8v) (by kernel_rfl) ?k8_8y (by rfl) (fun _ _ _ h => h) (by assumption) ?k8_8r
          case k8_8y => (intro u;simp only [opD];go_simp;try with_reducible rfl)
          try simp only [opD,Act.put,List.setIfInBounds_toArray,List.set_cons_zero,List.set_cons_succ]
          refine readyAll (rs:=[8,9]) (by kernel_rfl) (by simp) ?_
          refine readyF.cons [] (by kernel_rfl) (fun o hO K hK => ?k8_9a) ?k8_9n
          case k8_9a =>
           (simp only [opD] at hO);subst hO
           go_simp
           refine hK.out _ _ ?k8_9s (fun hH => ?k8_9r)
           case k8_9s => trivial
           clear hK K
           try simp only [Act.put,List.setIfInBounds_toArray,List.set_cons_zero,List.set_cons_succ]
           refine readyAll (rs:=[9]) (by kernel_rfl) (by simp) ?_
           refine readyF.cons [] (by kernel_rfl) (fun o hO K hK => ?k8_10a) ?k8_10n
           case k8_10a =>
            (simp only [opD] at hO);subst hO
            go_simp
            refine hK.out _ _ ?k8_10s (fun hH => ?k8_10r)
            case k8_10s => trivial
            clear hK K
            try simp only [Act.put,List.setIfInBounds_toArray,List.set_cons_zero,List.set_cons_succ]
            refine readyDone (by kernel_rfl) ?_
            go_wp2_with fail
            refine bodyPost_ret (v:=.tuple #[]) (by simp [results,go_sem]) rfl ?_
            have HT4:=Lib.hid (tp_one (P:=fun b => b=w1.heap.size) (q:=⟨k',n',s',A',mm,c'⟩) (nm:=callW) A4.out rfl (HV1.out.below L4.out))
            obtain ⟨p1,p2⟩:=Gb.put (P2:=fun b => b=w1.heap.size) G1.out (t:=.mk 4 0 callW 1 fun _ => .mk k' n' s' mm a) ⟨4,0,callW,some ⟨w1.heap.size,0,none⟩,1,1⟩ L4.out hBw1 hOB HT4.out (fun b h => by have:=M3.out.sz;have:=M4.out.sz;subst h;omega) HO5.out HG5.out HA5.out (.inl rfl)
            exact ⟨rfl,_,_,_,_,_,by rw [HG3.out];exact p1,K1.out.trans p2⟩
           case k8_10n =>
            exact readyF.nil
          case k8_9n =>
           refine readyF.cons [] (by kernel_rfl) (fun o hO K hK => ?k8_11a) ?k8_11n
           case k8_11a =>
            (simp only [opD] at hO);subst hO
            go_simp
            refine hK.out _ _ ?k8_11s (fun hH => ?k8_11r)
            case k8_11s => trivial
            clear hK K
            try simp only [Act.put,List.setIfInBounds_toArray,List.set_cons_zero,List.set_cons_succ]
            refine readyAll (rs:=[8]) (by kernel_rfl) (by simp) ?_
            refine readyF.cons [] (by kernel_rfl) (fun o hO K hK => ?k8_12a) ?k8_12n
            case k8_12a =>
             (simp only [opD] at hO);subst hO
             go_simp
             refine hK.out _ _ ?k8_12s (fun hH => ?k8_12r)
             case k8_12s => trivial
             clear hK K
             try simp only [Act.put,List.setIfInBounds_toArray,List.set_cons_zero,List.set_cons_succ]
             refine readyDone (by kernel_rfl) ?_
             go_wp2_with fail
             refine bodyPost_ret (v:=.tuple #[]) (by simp [results,go_sem]) rfl ?_
             have HT4:=Lib.hid (tp_one (P:=fun b => b=w1.heap.size) (q:=⟨k',n',s',A',mm,c'⟩) (nm:=callW) A4.out rfl (HV1.out.below L4.out))
             obtain ⟨p1,p2⟩:=Gb.put (P2:=fun b => b=w1.heap.size) G1.out (t:=.mk 4 0 callW 1 fun _ => .mk k' n' s' mm a) ⟨4,0,callW,some ⟨w1.heap.size,0,none⟩,1,1⟩ L4.out hBw1 hOB HT4.out (fun b h => by have:=M3.out.sz;have:=M4.out.sz;subst h;omega) HO5.out HG5.out HA5.out (.inr rfl)
             exact ⟨rfl,_,_,_,_,_,by rw [HG3.out];exact p1,K1.out.trans p2⟩
            case k8_12n =>
             exact readyF.nil
           case k8_11n =>
            exact readyF.nil
         case k8_7n =>
          exact readyF.nil
        case k8_6n =>
         exact readyF.nil
       case k8_4n =>
        refine readyF.cons [0,1] (by kernel_rfl) (fun o hO K hK => ?k8_13a) ?k8_13n
        case k8_13a =>
         (simp only [opD] at hO);subst hO
         go_simp
         refine shutGo hK (fun u => MkG w1 u (.cells #[.int .i64 0,.int .i64 0,.string ⟨#[]⟩,.slice none 0 0] 51 (0,0))) (MkG.alloc _ _) (fun u hu => ⟨(hu.low.block _ (heap_lt G1.out.bo)).trans G1.out.bo,(hu.low.block _ hl1).trans X1.out,trivial⟩) (fun w3 hu hH => ?k8_13r)
         clear hK K
         try simp only [Act.put,List.setIfInBounds_toArray,List.set_cons_zero,List.set_cons_succ]
         have M3:=Lib.hid hu
         have G3:=Lib.hid (G1.out.below hu.low)
         have X3:=Lib.hid ((hu.low.block _ hl1).trans X1.out)
         clear hu
         refine readyAll (rs:=[2]) (by kernel_rfl) (by simp) ?_
         refine readyF.cons [0] (by kernel_rfl) (fun o hO K hK => ?k8_14a) ?k8_14n
         case k8_14a =>
          (simp only [opD] at hO);subst hO
          go_simp
          refine shutGo hK (fun u => MkG w3 u (.cells #[.int .i64 k',.int .i64 n',.string s',.slice A' mm c'] 51 (0,0))) (MkG.alloc2 _ _) (fun u hu => ⟨(hu.low.block _ (heap_lt G3.out.bo)).trans G3.out.bo,trivial⟩) (fun w4 hu hH => ?k8_14r)
          clear hK K
          try simp only [Act.put,List.setIfInBounds_toArray,List.set_cons_zero,List.set_cons_succ]
          have M4:=Lib.hid hu
          have G4:=Lib.hid (G3.out.below hu.low)
          clear hu
          have O4:=Lib.hid (show w4.ownsRow B 51 4 (.slice A m c) m (qCells qs) by have:=G4.out.tl.own;rw [← HM.out] at this;exact this)
          have Z4:=Lib.hid ((M4.out.low.block _ (by have:=M3.out.sz;omega)).trans M3.out.new)
          have A4:=Lib.hid M4.out.new
          have L4:=Lib.hid (M3.out.low.trans (M4.out.low.mono (by have:=M3.out.sz;omega)))
          refine takeP 3 (v:=?k8_15v) (by kernel_rfl) ?k8_15y (by rfl) (fun _ _ _ h => h) (by assumption) ?k8_15r
          case k8_15y => (intro u;simp only [opD];go_simp;try with_reducible rfl)
          try simp only [opD,Act.put,List.setIfInBounds_toArray,List.set_cons_zero,List.set_cons_succ]
          refine readyAll (rs:=[6]) (by kernel_rfl) (by simp) ?_
          refine readyF.cons [] (by kernel_rfl) (fun o hO K hK => ?k8_16a) ?k8_16n
          case k8_16a =>
           (simp only [opD] at hO);subst hO
           refine step_append_lies _ rfl _ _ _ rfl B 51 itemI (.agg #[.int .i64 0,.int .i64 0,.string ⟨#[]⟩,.slice none 0 0]) 4 56 Tryz.underlying47 jj1 jj2 jj3 jj4 rfl (by omega) (.slice A m c) m (qCells qs) rfl O4.out ⟨w1.heap.size,0,none⟩ 1 1 [.int .i64 0,.int .i64 0,.string ⟨#[]⟩,.slice none 0 0] rfl rfl (World.news_of_block Z4.out) ?sm52 (by omega) (by unfold maxLen;omega) (by omega) (by have:=L4.out.size;omega) _ rfl ?_
           case sm52 => (intro u hu;simp only [List.mem_cons,List.not_mem_nil,or_false] at hu;rcases hu with rfl | rfl | rfl | rfl <;> rfl)
           intro g1 cap1 w5 hown1 hg1 hat1 hlt1
           refine hK.out _ _ ?k8_16s (fun hH => ?k8_16r)
           case k8_16s => trivial
           clear hK K
           try simp only [Act.put,List.setIfInBounds_toArray,List.set_cons_zero,List.set_cons_succ]
           have HO5:=Lib.hid hown1
           have HG5:=Lib.hid hg1
           have HA5:=Lib.hid hat1
           have hg1O:=Gb.neO G4.out hown1 hg1 hat1
           obtain ⟨c0,c1,c2,c3,fz,_⟩:=row_last hown1 hq1
           have b5:=hg1O.2
           have cO:=cell_of_row w5 Ob 0 _ _ _ b5
           have fO:∀ i,w5.frozen? ⟨Ob,i,none⟩=false:=fun i => by simp [World.frozen?,b5]
           have lO:=heap_lt b5
           have nO1:=hg1O.1
           have nO2:=Ne.symm hg1O.1
           clear hown1 hg1 hat1 hg1O b5
           refine takeP 7 (v:=?k8_17v) (by kernel_rfl) ?k8_17y (by rfl) (fun _ _ _ h => h) (by assumption) ?k8_17r
           case k8_17y => (intro u;simp only [opD];go_simp;try with_reducible rfl)
           try simp only [opD,Act.put,List.setIfInBounds_toArray,List.set_cons_zero,List.set_cons_succ]
           refine readyAll (rs:=[8,9]) (by kernel_rfl) (by simp) ?_
           refine readyF.cons [] (by kernel_rfl) (fun o hO K hK => ?k8_18a) ?k8_18n
           case k8_18a =>
            (simp only [opD] at hO);subst hO
            go_simp
            refine hK.out _ _ ?k8_18s (fun hH => ?k8_18r)
            case k8_18s => trivial
            clear hK K
            try simp only [Act.put,List.setIfInBounds_toArray,List.set_cons_zero,List.set_cons_succ]
            refine readyAll (rs:=[9]) (by kernel_rfl) (by simp) ?_
            refine readyF.cons [] (by kernel_rfl) (fun o hO K hK => ?k8_19a) ?k8_19n
            case k8_19a =>
             (simp only [opD] at hO);subst hO
             go_simp
             refine hK.out _ _ ?k8_19s (fun hH => ?k8_19r)
             case k8_19s => trivial
             clear hK K
             try simp only [Act.put,List.setIfInBounds_toArray,List.set_cons_zero,List.set_cons_succ]
             refine readyDone (by kernel_rfl) ?_
             go_wp2_with fail
             refine bodyPost_ret (v:=.tuple #[]) (by simp [results,go_sem]) rfl ?_
             have HT4:=Lib.hid (tp_one (P:=fun b => b=w3.heap.size) (q:=⟨k',n',s',A',mm,c'⟩) (nm:=callW) A4.out rfl (HV1.out.below L4.out))
             obtain ⟨p1,p2⟩:=Gb.put (P2:=fun b => b=w3.heap.size) G1.out (t:=.mk 4 0 callW 1 fun _ => .mk k' n' s' mm a) ⟨4,0,callW,some ⟨w3.heap.size,0,none⟩,1,1⟩ L4.out hBw1 hOB HT4.out (fun b h => by have:=M3.out.sz;have:=M4.out.sz;subst h;omega) HO5.out HG5.out HA5.out (.inl rfl)
             exact ⟨rfl,_,_,_,_,_,by rw [HG3.out];exact p1,K1.out.trans p2⟩
            case k8_19n =>
             exact readyF.nil
           case k8_18n =>
            refine readyF.cons [] (by kernel_rfl) (fun o hO K hK => ?k8_20a) ?k8_20n
            case k8_20a =>
             (simp only [opD] at hO);subst hO
             go_simp
             refine hK.out _ _ ?k8_20s (fun hH => ?k8_20r)
             case k8_20s => trivial
             clear hK K
             try simp only [Act.put,List.setIfInBounds_toArray,List.set_cons_zero,List.set_cons_succ]
             refine readyAll (rs:=[8]) (by kernel_rfl) (by simp) ?_
             refine readyF.cons [] (by kernel_rfl) (fun o hO K hK => ?k8_21a) ?k8_21n
             case k8_21a =>
              (simp only [opD] at hO);subst hO
              go_simp
              refine hK.out _ _ ?k8_21s (fun hH => ?k8_21r)
              case k8_21s => trivial
              clear hK K
              try simp only [Act.put,List.setIfInBounds_toArray,List.set_cons_zero,List.set_cons_succ]
              refine readyDone (by kernel_rfl) ?_
              go_wp2_with fail
              refine bodyPost_ret (v:=.tuple #[]) (by simp [results,go_sem]) rfl ?_
              have HT4:=Lib.hid (tp_one (P:=fun b => b=w3.heap.size) (q:=⟨k',n',s',A',mm,c'⟩) (nm:=callW) A4.out rfl (HV1.out.below L4.out))
              obtain ⟨p1,p2⟩:=Gb.put (P2:=fun b => b=w3.heap.size) G1.out (t:=.mk 4 0 callW 1 fun _ => .mk k' n' s' mm a) ⟨4,0,callW,some ⟨w3.heap.size,0,none⟩,1,1⟩ L4.out hBw1 hOB HT4.out (fun b h => by have:=M3.out.sz;have:=M4.out.sz;subst h;omega) HO5.out HG5.out HA5.out (.inr rfl)
              exact ⟨rfl,_,_,_,_,_,by rw [HG3.out];exact p1,K1.out.trans p2⟩
             case k8_21n =>
              exact readyF.nil
            case k8_20n =>
             exact readyF.nil
          case k8_16n =>
           exact readyF.nil
         case k8_14n =>
          exact readyF.nil
        case k8_13n =>
         exact readyF.nil
      | false =>
       have HG3:=Lib.hid (show gatN (.mk k' n' s' mm a)=[.mk k' n' s' mm a] by unfold gatN;rw [HC1.out,HC2.out];have:k'≠1:=(by simpa using h3);simp [this])
       obtain ⟨itemI,jj1,jj2,jj3,jj4⟩:=elTerm.hi
       have hmlt:(m:Int) < (m:Int)+1:=by omega
       have hm1:m≤100000:=by have:=HLen.out;have:=HM.out;omega
       have hBw1:B≤w1.heap.size:=by have:=K1.out.low.size;have:=HBw.out;omega
       have hq1:qs.length=m:=by rw [G1.out.tl.len,HM.out]
       go_wp2_with fail
       clear x0 x1 x2 x3
       refine regionF (fun k u => match k with | 0 => u.heap[Ob]? =some (.cells #[.slice A m c] 47 (0,0)) | 1 => u.heap[w.heap.size]? =some (.cells #[.int .i64 k',.int .i64 n',.string s',.slice A' mm c'] 51 (0,0)) | _ => True) [0,1] (by kernel_rfl) (⟨G1.out.bo,X1.out,trivial⟩) (fun hH => ?g2b)
       refine takeL 0 (v:=?g2_1v) (by kernel_rfl) ?g2_1y (by rfl) (fun _ _ _ h => h) (by assumption) ?g2_1r
       case g2_1y => (intro u hF;(try dsimp only at hF);simp only [opD];have hc:=cell_of_row u Ob 0 _ _ _ hF;have hl:=heap_lt hF;clear hF;go_simp;try with_reducible rfl)
       try simp only [opD,Act.put,List.setIfInBounds_toArray,List.set_cons_zero,List.set_cons_succ]
       refine takeL 1 (v:=?g2_2v) (by kernel_rfl) ?g2_2y (by rfl) (fun _ _ _ h => h) (by assumption) ?g2_2r
       case g2_2y => (intro u hF;(try dsimp only at hF);simp only [opD];obtain ⟨y0,y1,y2,y3⟩:=box4t hF;have hl:=heap_lt hF;clear hF;go_simp;try with_reducible rfl)
       try simp only [opD,Act.put,List.setIfInBounds_toArray,List.set_cons_zero,List.set_cons_succ]
       refine takeP 2 (v:=?g2_3v) (by kernel_rfl) ?g2_3y (by rfl) (fun _ _ _ h => h) (by assumption) ?g2_3r
       case g2_3y => (intro u;simp only [opD];go_simp;try with_reducible rfl)
       try simp only [opD,Act.put,List.setIfInBounds_toArray,List.set_cons_zero,List.set_cons_succ]
       refine readyAll (rs:=[3]) (by kernel_rfl) (by simp) ?_
       refine readyF.cons [0,1] (by kernel_rfl) (fun o hO K hK => ?g2_4a) ?g2_4n
       case g2_4a =>
        (simp only [opD] at hO);subst hO
        go_simp
        refine shutGo hK (fun u => MkG w1 u (.cells #[.int .i64 0,.int .i64 0,.string ⟨#[]⟩,.slice none 0 0] 51 (0,0))) (MkG.alloc _ _) (fun u hu => ⟨(hu.low.block _ (heap_lt G1.out.bo)).trans G1.out.bo,(hu.low.block _ hl1).trans X1.out,trivial⟩) (fun w3 hu hH => ?g2_4r)
        clear hK K
        try simp only [Act.put,List.setIfInBounds_toArray,List.set_cons_zero,List.set_cons_succ]
        have M3:=Lib.hid hu
        have G3:=Lib.hid (G1.out.below hu.low)
        have O3:=Lib.hid (show w3.ownsRow B 51 4 (.slice A m c) m (qCells qs) by have:=G3.out.tl.own;rw [← HM.out] at this;exact this)
        clear hu
        refine readyAll (rs:=[4]) (by kernel_rfl) (by simp) ?_
        refine readyF.cons [] (by kernel_rfl) (fun o hO K hK => ?g2_5a) ?g2_5n
        case g2_5a =>
         (simp only [opD] at hO);subst hO
         refine step_append_lies _ rfl _ _ _ rfl B 51 itemI (.agg #[.int .i64 0,.int .i64 0,.string ⟨#[]⟩,.slice none 0 0]) 4 56 Tryz.underlying47 jj1 jj2 jj3 jj4 rfl (by omega) (.slice A m c) m (qCells qs) rfl O3.out ⟨w1.heap.size,0,none⟩ 1 1 [.int .i64 0,.int .i64 0,.string ⟨#[]⟩,.slice none 0 0] rfl rfl (World.news_of_block M3.out.new) ?sm (by omega) (by unfold maxLen;omega) (by omega) (by have:=M3.out.low.size;omega) _ rfl ?_
         case sm => (intro u hu;simp only [List.mem_cons,List.not_mem_nil,or_false] at hu;rcases hu with rfl | rfl | rfl | rfl <;> rfl)
         intro g1 cap1 w5 hown1 hg1 hat1 hlt1
         refine hK.out _ _ ?g2_5s (fun hH => ?g2_5r)
         case g2_5s => trivial
         clear hK K
         try simp only [Act.put,List.setIfInBounds_toArray,List.set_cons_zero,List.set_cons_succ]
         have HO5:=Lib.hid hown1
         have HG5:=Lib.hid hg1
         have HA5:=Lib.hid hat1
         have hg1O:=Gb.neO G3.out hown1 hg1 hat1
         obtain ⟨c0,c1,c2,c3,fz,_⟩:=row_last hown1 hq1
         have b5:=hg1O.2
         have cO:=cell_of_row w5 Ob 0 _ _ _ b5
         have fO:∀ i,w5.frozen? ⟨Ob,i,none⟩=false:=fun i => by simp [World.frozen?,b5]
         have lO:=heap_lt b5
         have nO1:=hg1O.1
         have nO2:=Ne.symm hg1O.1
         clear hown1 hg1 hat1 hg1O b5
         refine takeP 5 (v:=?g2_6v) (by kernel_rfl) ?g2_6y (by rfl) (fun _ _ _ h => h) (by assumption) ?g2_6r
         case g2_6y => (intro u;simp only [opD];go_simp;try with_reducible rfl)
         try simp only [opD,Act.put,List.setIfInBounds_toArray,List.set_cons_zero,List.set_cons_succ]
         refine readyAll (rs:=[6,7]) (by kernel_rfl) (by simp) ?_
         refine readyF.cons [] (by kernel_rfl) (fun o hO K hK => ?g2_7a) ?g2_7n
         case g2_7a =>
          (simp only [opD] at hO);subst hO
          go_simp
          refine hK.out _ _ ?g2_7s (fun hH => ?g2_7r)
          case g2_7s => trivial
          clear hK K
          try simp only [Act.put,List.setIfInBounds_toArray,List.set_cons_zero,List.set_cons_succ]
          refine readyAll (rs:=[7]) (by kernel_rfl) (by simp) ?_
          refine readyF.cons [] (by kernel_rfl) (fun o hO K hK => ?g2_8a) ?g2_8n
          case g2_8a =>
           (simp only [opD] at hO);subst hO
           go_simp
           refine hK.out _ _ ?g2_8s (fun hH => ?g2_8r)
           case g2_8s => trivial
           clear hK K
           try simp only [Act.put,List.setIfInBounds_toArray,List.set_cons_zero,List.set_cons_succ]
           refine readyDone (by kernel_rfl) ?_
           go_wp2_with fail
           refine bodyPost_ret (v:=.tuple #[]) (by simp [results,go_sem]) rfl ?_
           obtain ⟨p1,p2⟩:=Gb.put (P2:=fun _ => False) G1.out (t:=.mk k' n' s' mm a) ⟨k',n',s',A',mm,c'⟩ M3.out.low hBw1 hOB ((HV1.out.below M3.out.low).more fun b hb => .inl hb) (fun _ h => h.elim) HO5.out HG5.out HA5.out (.inl rfl)
           exact ⟨rfl,_,_,_,_,_,by rw [HG3.out];exact p1,K1.out.trans p2⟩
          case g2_8n =>
           exact readyF.nil
         case g2_7n =>
          refine readyF.cons [] (by kernel_rfl) (fun o hO K hK => ?g2_9a) ?g2_9n
          case g2_9a =>
           (simp only [opD] at hO);subst hO
           go_simp
           refine hK.out _ _ ?g2_9s (fun hH => ?g2_9r)
           case g2_9s => trivial
           clear hK K
           try simp only [Act.put,List.setIfInBounds_toArray,List.set_cons_zero,List.set_cons_succ]
           refine readyAll (rs:=[6]) (by kernel_rfl) (by simp) ?_
           refine readyF.cons [] (by kernel_rfl) (fun o hO K hK => ?g2_10a) ?g2_10n
           case g2_10a =>
            (simp only [opD] at hO);subst hO
            go_simp
            refine hK.out _ _ ?g2_10s (fun hH => ?g2_10r)
            case g2_10s => trivial
            clear hK K
            try simp only [Act.put,List.setIfInBounds_toArray,List.set_cons_zero,List.set_cons_succ]
            refine readyDone (by kernel_rfl) ?_
            go_wp2_with fail
            refine bodyPost_ret (v:=.tuple #[]) (by simp [results,go_sem]) rfl ?_
            obtain ⟨p1,p2⟩:=Gb.put (P2:=fun _ => False) G1.out (t:=.mk k' n' s' mm a) ⟨k',n',s',A',mm,c'⟩ M3.out.low hBw1 hOB ((HV1.out.below M3.out.low).more fun b hb => .inl hb) (fun _ h => h.elim) HO5.out HG5.out HA5.out (.inr rfl)
            exact ⟨rfl,_,_,_,_,_,by rw [HG3.out];exact p1,K1.out.trans p2⟩
           case g2_10n =>
            exact readyF.nil
          case g2_9n =>
           exact readyF.nil
        case g2_5n =>
         exact readyF.nil
       case g2_4n =>
        exact readyF.nil
end Go.Proofs.YtdgpmpccfjmmcaaGreatDoor
