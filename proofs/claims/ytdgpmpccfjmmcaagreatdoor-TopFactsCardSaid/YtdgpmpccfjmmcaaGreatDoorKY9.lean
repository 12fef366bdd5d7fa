/- Consult of a program of facts. -/
import Derived.Test.YtdgpmpccfjmmcaaGreatDoorKJAp
import Derived.Test.YtdgpmpccfjmmcaaGreatDoorKJAt
import Derived.Test.YtdgpmpccfjmmcaaGreatDoorKJAr
import Derived.Test.YtdgpmpccfjmmcaaGreatDoorKJAq
import Derived.Test.YtdgpmpccfjmmcaaGreatDoorKJBb
import Derived.Test.YtdgpmpccfjmmcaaGreatDoorKZ6
set_option linter.unusedVariables false
set_option linter.unusedSimpArgs false
namespace Go.Proofs.YtdgpmpccfjmmcaaGreatDoor
open Go.RowKit
theorem Tryz.info_mcl:(Tryz.prog.info? 65).map (fun i => (i.zero,i.size,i.bytes))=some (some (.agg #[.slice none 0 0,.int .i64 0,.slice none 0 0]),3,56):=by kernel_rfl
theorem SenR.senx {w:World} {lo:Nat} {xs:List Value} {ss:List (T × List ByteArray)} (h:SenR w lo xs ss):SenX w xs ss:=fun k x hx => by
 obtain ⟨k0,k1,k2,A,m,cc,NA,nc,h0,h1,h2,h3,h4,ht,hg,hn,_,_⟩:=h k x hx
 exact ⟨k0,k1,k2,A,m,cc,NA,_,nc,h0,h1,h2,h3,h4,ht.old.more fun b hb => hb.2,⟨hg,by omega⟩,hn⟩
structure ClI (W wr:World) (cb:Nat) (LA:Option Addr) (lc:Nat) (code:List Ins) (sl:Int) (GA:Option Addr) (gn gc:Nat) (zs:List Value):Prop where
 low:Below W.heap.size W wr
 box:wr.heap[cb]? =some (.cells #[.slice LA code.length lc,.int .i64 sl,.slice GA gn gc] 65 (0,0))
 lo:W.heap.size≤cb
 code:IRw wr W.heap.size (.slice LA code.length lc) code
 gs:wr.ownsRow W.heap.size 3 1 (.slice GA gn gc) gn zs
theorem ClI.below {W wr w':World} {cb:Nat} {LA:Option Addr} {lc:Nat} {code:List Ins} {sl:Int} {GA:Option Addr} {gn gc:Nat} {zs:List Value} (h:ClI W wr cb LA lc code sl GA gn gc zs) (hb:Below wr.heap.size wr w'):ClI W w' cb LA lc code sl GA gn gc zs:=
 ⟨h.low.trans (hb.mono h.low.size),(hb.block _ (heap_lt h.box)).trans h.box,h.lo,own_below h.code hb,own_below h.gs hb⟩
theorem stands_set {w:World} {cb:Nat} {cs0:Array Value} {t0:TypeId} {f0:Nat × Nat} (h0:w.heap[cb]? =some (.cells cs0 t0 f0)) (i:Nat) (x:Value) {e:TypeId} (he:e≠t0):∀ (b:Nat) (cs:Array Value) (f:Nat × Nat),w.heap[b]? =some (.cells cs e f)→(w.setCell ⟨cb,i,none⟩ x).heap[b]? =some (.cells cs e f):=fun b cs f hb => by
 refine (Below.heap_setCell _ _ _ _ fun e' => ?_).trans hb
 have e':b=cb:=e'
 subst e'
 rw [h0] at hb
 injection hb with hb
 injection hb with _ hb
 exact he hb.symm
theorem ClI.made {W w9:World} {cb:Nat} {LA:Option Addr} {lc:Nat} {code:List Ins} (sl:Int) (hlow:Below W.heap.size W w9) (hcb:w9.heap[cb]? =some (.cells #[.slice none 0 0,.int .i64 0,.slice none 0 0] 65 (0,0))) (hlo:W.heap.size≤cb) (hc:IRw w9 W.heap.size (.slice LA code.length lc) code) :
 ClI W (((w9.setCell ⟨cb,0,none⟩ (.slice LA code.length lc)).setCell ⟨cb,1,none⟩ (.int .i64 sl)).setCell ⟨cb,2,none⟩ (.slice none 0 0)) cb LA lc code sl none 0 0 []:=by
 have b1:=blk_set hcb 0 (.slice LA code.length lc)
 have b2:=blk_set b1 1 (.int .i64 sl)
 have b3:=blk_set b2 2 (.slice none 0 0)
 exact ⟨((hlow.setCell (p:=⟨cb,0,none⟩) hlo _).setCell (p:=⟨cb,1,none⟩) hlo _).setCell (p:=⟨cb,2,none⟩) hlo _,by simpa using b3,hlo,
  own_stand (own_stand (own_stand hc (stands_set hcb 0 _ (by decide))) (stands_set b1 1 _ (by decide))) (stands_set b2 2 _ (by decide)),World.ownsRow_nil _ _ _ _⟩
theorem ClI.push {W wr w5:World} {cb:Nat} {LA:Option Addr} {lc:Nat} {code:List Ins} {sl:Int} {GA:Option Addr} {gn gc:Nat} {zs:List Value} (h:ClI W wr cb LA lc code sl GA gn gc zs) {g cap:Nat} {us:List Value}
 (hown:w5.ownsRow W.heap.size 3 1 (.slice (some ⟨g,0,none⟩) (gn+1) cap) (gn+1) (zs++us)) (hg:wr.grownBy w5 (Value.slice GA gn gc).ownBlock) :
 ClI W (w5.setCell ⟨cb,2,none⟩ (.slice (some ⟨g,0,none⟩) (gn+1) cap)) cb LA lc code sl (some ⟨g,0,none⟩) (gn+1) cap (zs++us):=by
 have hb5:w5.heap[cb]? =some (.cells #[.slice LA code.length lc,.int .i64 sl,.slice GA gn gc] 65 (0,0)):=(hg.block _ (heap_lt h.box) (row_ne h.gs h.box (by decide))).trans h.box
 refine ⟨(h.low.grown hg h.low.size (ownBlock_ge h.gs)).setCell (p:=⟨cb,2,none⟩) h.lo _,by simpa using blk_set hb5 2 (.slice (some ⟨g,0,none⟩) (gn+1) cap),h.lo,?_,own_stand hown (stands_set hb5 2 _ (by decide))⟩
 refine own_stand h.code fun b cs f hb => stands_set hb5 2 _ (by decide) b cs f ?_
 exact (hg.block b (heap_lt hb) (row_ne h.gs hb (by decide))).trans hb
theorem ClI.box5 {W wr w5:World} {cb:Nat} {LA:Option Addr} {lc:Nat} {code:List Ins} {sl:Int} {GA:Option Addr} {gn gc:Nat} {zs:List Value} (h:ClI W wr cb LA lc code sl GA gn gc zs) (hg:wr.grownBy w5 (Value.slice GA gn gc).ownBlock):w5.heap[cb]? =some (.cells #[.slice LA code.length lc,.int .i64 sl,.slice GA gn gc] 65 (0,0)):=
 (hg.block _ (heap_lt h.box) (row_ne h.gs h.box (by decide))).trans h.box
theorem Tryz.info_int:(Tryz.prog.info? 3).map (fun i => (i.zero,i.size,i.bytes))=some (some (.int .i64 0),1,8):=by kernel_rfl
section
variable {PT CT:TypeId} {csz B:Nat} {w1 wr:World} {pb:Nat} {LA:Option Addr} {ln lc:Nat} {HA:Option Addr} {hn hc:Nat} {xs ys:List Value}
theorem RCo.ne_box (h:RCo PT CT csz B w1 wr pb LA ln lc HA hn hc xs ys) {b:Nat} {cs:Array Value} {e:TypeId} {f:Nat × Nat} (hb:wr.heap[b]? =some (.cells cs e f)) (he:e≠PT):b≠pb:=fun e' => by
 subst e'
 rw [h.box] at hb
 injection hb with hb
 injection hb with _ hb
 exact he hb.symm
theorem RCo.farL {w5:World} (h:RCo PT CT csz B w1 wr pb LA ln lc HA hn hc xs ys) (hg:wr.grownBy w5 (Value.slice LA ln lc).ownBlock) (v:Value) {b:Nat} {cs:Array Value} {e:TypeId} {f:Nat × Nat} (hb:wr.heap[b]? =some (.cells cs e f)) (he:e≠PT) (hc':e≠CT):(w5.setCell ⟨pb,0,none⟩ v).heap[b]? =some (.cells cs e f):=
 (Below.heap_setCell _ _ _ _ (h.ne_box hb he)).trans ((hg.block b (heap_lt hb) (row_ne h.L hb hc')).trans hb)
theorem RCo.farH {w5 w9:World} (h:RCo PT CT csz B w1 wr pb LA ln lc HA hn hc xs ys) {g o:Nat} {us:List Value} {v:Value} (hg:wr.grownBy w5 (Value.slice HA hn hc).ownBlock) (hat:(Value.slice HA hn hc).ownBlock=some g∨g=wr.heap.size)
 (h9:w9=(w5.setCells g o us).setCell ⟨pb,1,none⟩ v∨w9=(w5.setCell ⟨pb,1,none⟩ v).setCells g o us) {b:Nat} {cs:Array Value} {e:TypeId} {f:Nat × Nat} (hb:wr.heap[b]? =some (.cells cs e f)) (he:e≠PT) (hc':e≠51):w9.heap[b]? =some (.cells cs e f):=by
 obtain ⟨q1,q2⟩:=row_ne' h.H hat hb hc'
 have h5:=(hg.block b (heap_lt hb) q1).trans hb
 rcases h9 with rfl | rfl
 ·exact (Below.heap_setCell _ _ _ _ (h.ne_box hb he)).trans ((setCells_other q2 _ _ _).trans h5)
 ·exact (setCells_other q2 _ _ _).trans ((Below.heap_setCell _ _ _ _ (h.ne_box hb he)).trans h5)
end
theorem TP.same {n:Nat} {w1 wr wz:World} {t:T} {v:Value} (h:TP wr (fun b => b < n) t v) (low:Below n w1 wr) (low':Below n w1 wz):TP wz (fun b => b < n) t v:=
 h.keep fun b _ _ hS hb => ⟨(low'.block b hS).trans ((low.block b hS).symm.trans hb),hS⟩
def FcI (w:World) (B:Nat) (us:List Value) (k:Nat) (x:T × List ByteArray):Prop:=∃ (s:List UInt8) (a b:P) (LA:Option Addr) (lc:Nat),atomP a=true∧atomP b=true∧encN x.1 []=factI s a b∧us[3*k]? =some (.slice LA 5 lc)∧us[3*k+1]? =some (.int .i64 (x.2.length:Int))∧us[3*k+2]? =some (.slice none 0 0)∧IRw w B (.slice LA 5 lc) (factI s a b)
def FhI (w:World) (n:Nat) (ys:List Value) (k:Nat) (x:T × List ByteArray):Prop:=∃ v0 v1 v2 v3:Value,ys[4*k]? =some v0∧ys[4*k+1]? =some v1∧ys[4*k+2]? =some v2∧ys[4*k+3]? =some v3∧TP w (fun b => b < n) x.1 (.agg #[v0,v1,v2,v3])
theorem at_app {us vs:List Value} {j:Nat} {v:Value} (h:us[j]? =some v):(us++vs)[j]? =some v:=by
 rw [List.getElem?_append_left (List.getElem?_eq_some_iff.1 h).1]
 exact h
theorem FcI.keep {w w':World} {B:Nat} {us:List Value} {k:Nat} {x:T × List ByteArray} (h:FcI w B us k x) (hk:∀ (b:Nat) (cs:Array Value) (f:Nat × Nat),w.heap[b]? =some (.cells cs 67 f)→w'.heap[b]? =some (.cells cs 67 f)) (vs:List Value):FcI w' B (us++vs) k x:=by
 obtain ⟨s,a,b,LA,lc,h1,h2,h3,h4,h5,h6,h7⟩:=h
 exact ⟨s,a,b,LA,lc,h1,h2,h3,at_app h4,at_app h5,at_app h6,own_stand h7 hk⟩
theorem FhI.keep {n:Nat} {w1 w w':World} {ys:List Value} {k:Nat} {x:T × List ByteArray} (h:FhI w n ys k x) (low:Below n w1 w) (low':Below n w1 w') (vs:List Value):FhI w' n (ys++vs) k x:=by
 obtain ⟨v0,v1,v2,v3,h0,h1,h2,h3,h4⟩:=h
 exact ⟨v0,v1,v2,v3,at_app h0,at_app h1,at_app h2,at_app h3,h4.same low low'⟩
def FcR (w:World) (B:Nat) (l:List (T × List ByteArray)) (i:Nat) (us ys:List Value):Prop:=∀ (k:Nat) (x:T × List ByteArray),k < i→l[k]? =some x→FcI w B us k x∧FhI w B ys k x
theorem FcR.keep {w1 w w':World} {B:Nat} {l:List (T × List ByteArray)} {i:Nat} {us ys:List Value} (h:FcR w B l i us ys) (low:Below B w1 w) (low':Below B w1 w') (hk:∀ (b:Nat) (cs:Array Value) (f:Nat × Nat),w.heap[b]? =some (.cells cs 67 f)→w'.heap[b]? =some (.cells cs 67 f)):FcR w' B l i us ys:=fun k x hk1 hx => by
 obtain ⟨h1,h2⟩:=h k x hk1 hx
 have a:=h1.keep hk []
 have b:=h2.keep low low' []
 rw [List.append_nil] at a b
 exact ⟨a,b⟩
theorem FcR.below {w1 w w':World} {l:List (T × List ByteArray)} {i:Nat} {us ys:List Value} (h:FcR w w1.heap.size l i us ys) (low:Below w1.heap.size w1 w) (hb:Below w.heap.size w w'):FcR w' w1.heap.size l i us ys:=
 h.keep low (low.trans (hb.mono low.size)) fun b _ _ hh => (hb.block b (heap_lt hh)).trans hh
theorem FcR.snoc {w:World} {B:Nat} {l:List (T × List ByteArray)} {i:Nat} {us ys:List Value} (h:FcR w B l i us ys) (hus:us.length=i*3) (hys:ys.length=i*4) {x:T × List ByteArray} (hx:l[i]? =some x) {s:List UInt8} {a b:P} {LA:Option Addr} {n lc:Nat} {code:List Ins} {v0 v1 v2 v3:Value}
 (ha:atomP a=true) (hb:atomP b=true) (he:encN x.1 []=factI s a b) (hcode:code=factI s a b) (hn:n=x.2.length) (hI:IRw w B (.slice LA code.length lc) code) (hh:TP w (fun b => b < B) x.1 (.agg #[v0,v1,v2,v3])) :
 FcR w B l (i+1) (us++[.slice LA code.length lc,.int .i64 (n:Int),.slice none 0 0]) (ys++[v0,v1,v2,v3]):=fun k y hk hy => by
 subst hcode
 subst hn
 rcases Nat.lt_or_ge k i with h1 | h1
 ·obtain ⟨q1,q2⟩:=h k y h1 hy
  obtain ⟨u0,u1,u2,u3,g0,g1,g2,g3,g4⟩:=q2
  exact ⟨q1.keep (fun _ _ _ h => h) _,u0,u1,u2,u3,at_app g0,at_app g1,at_app g2,at_app g3,g4⟩
 ·obtain rfl:k=i:=by omega
  rw [hx] at hy
  cases hy
  have e3:∀ (vs:List Value) j,(us++vs)[3*k+j]? =vs[j]?:=fun vs j => by
   rw [List.getElem?_append_right (by omega)]
   congr 1
   omega
  have e4:∀ (vs:List Value) j,(ys++vs)[4*k+j]? =vs[j]?:=fun vs j => by
   rw [List.getElem?_append_right (by omega)]
   congr 1
   omega
  exact ⟨⟨s,a,b,LA,lc,ha,hb,he,(e3 _ 0).trans rfl,(e3 _ 1).trans rfl,(e3 _ 2).trans rfl,hI⟩,v0,v1,v2,v3,(e4 _ 0).trans rfl,(e4 _ 1).trans rfl,(e4 _ 2).trans rfl,(e4 _ 3).trans rfl,hh⟩
theorem SenR.cell4 {w:World} {lo B:Nat} {xs:List Value} {ss:List (T × List ByteArray)} (h:SenR w lo xs ss) {g c:Nat} (ho:w.ownsRow B 54 5 (.slice (some ⟨g,0,none⟩) ss.length c) ss.length xs) {k:Nat} {x:T × List ByteArray} (hx:ss[k]? =some x):∃ NA nc,w.cell? ⟨g,k*5+4,none⟩=some (.slice NA x.2.length nc):=by
 have hk:k < ss.length:=(List.getElem?_eq_some_iff.1 hx).1
 obtain ⟨k0,k1,k2,A,m,cc,NA,nc,h0,h1,h2,h3,h4,_⟩:=h k x hx
 obtain ⟨A',c',e,_,_,_,hxx⟩:=own_open ho
 injection e with e1 _ _
 obtain ⟨g',cur,e2,_,hh,hcur⟩:=hxx (by omega)
 rw [← e1] at e2
 injection e2 with e2
 injection e2 with e2
 subst e2
 refine ⟨NA,nc,?_⟩
 rw [Nat.mul_comm k 5]
 exact ((cell_of_row _ _ _ _ _ _ hh).trans (hcur _ (by omega))).trans h4
def FactX (x:T × List ByteArray):Prop:=x.2=[]∧∃ (s:List UInt8) (a b:P) (n:Int) (f:Nat→T),(s=[112]∨s=[113])∧x.1=.mk 4 n (ba s) 2 f∧atomP a=true∧atomP b=true∧encN x.1 []=factI s a b
def ConF (l:List (T × List ByteArray)) (w:World) (e:Ending) (w':World):Prop:=(∃ (w1:World) (g:Nat) (LA:Option Addr) (lc:Nat) (HA:Option Addr) (hc:Nat) (us ys:List Value),e=.returned (.tuple #[.pointer (some ⟨g,0,none⟩),.int .i64 0,.int .i64 0])∧RCo 49 65 3 w1.heap.size w1 w' g LA l.length lc HA l.length hc us ys∧FcR w' w1.heap.size l l.length us ys∧w.heap.size≤w1.heap.size)∧Below w.heap.size w w'
set_option maxRecDepth 100000 in
set_option maxHeartbeats 16000000 in
theorem fconsult_any (s:ByteArray) (w:World) {mx:Int} {l:List (T × List ByteArray)} (hrd:RdAs s l) (hl2:l.length≤200) (hft:∀ (k:Nat) (x:T × List ByteArray),l[k]? =some x→FactX x) (hmx:w.cell? ⟨2,0,none⟩=some (.int .i64 mx)) (htab:TabX w) (herr:ErrX w) (hops:TableX w) (hgl:GoalsX w) (hlt:2 < w.heap.size∧0 < w.heap.size) :
 Calls Tryz.prog 8 #[.string s] w fun e w' => ConF l w e w':=by
 obtain ⟨itemI,jj1,jj2,jj3,jj4⟩:=elTerm.hi
 obtain ⟨clI,kk1,kk2,kk3,kk4⟩:=info_parts Tryz.info_mcl
 have CRd:=Lib.hid (zread_any s w hrd hmx htab herr hops)
 have HMX:=Lib.hid hmx
 have HGX:=Lib.hid hgl
 have HLT:=Lib.hid hlt
 clear hmx htab herr hops hgl hlt
 go_enter Tryz.func8,Tryz.ntmps8
 go_wp2_with fail
 refine CRd.out.mono ?_
 rintro e w1 ⟨⟨v,xs,rfl,hown,hsr⟩,h1⟩
 have B1:=Lib.hid h1
 ·
  have HFT:=Lib.hid hft
  have SX:=Lib.hid hsr.senx
  have SR:=Lib.hid hsr
  have OW:=Lib.hid hown
  have hlen':(l.length:Int)≤1000:=by omega
  obtain ⟨VA,vc,rfl,_,_,_,_⟩:=own_open hown
  clear hsr hown h1 CRd hft hrd
  have R0:=Lib.hid (show RCo 49 65 3 w1.heap.size w1 (w1.alloc (Obj.cells #[.slice none 0 0,.slice none 0 0] 49)) w1.heap.size none 0 0 none 0 0 [] [] from
   ⟨(Below.refl _ _).alloc (Nat.le_refl _) _,heap_alloc_new _ _,Nat.le_refl _,World.ownsRow_nil _ _ _ _,World.ownsRow_nil _ _ _ _⟩)
  go_wp2_with fail
  go_loopw [2,3,4,9,10,11,12,13,14,15,16,17,18,19,20,21,36] (fun _ _ _ _ _ _ _ _ _ _ _ _ _ _ _ _ iv wr => ∃ (i:Nat) (LA:Option Addr) (lc:Nat) (HA:Option Addr) (hc:Nat) (us ys:List Value),iv=.int .i64 (i:Int)∧i≤l.length∧RCo 49 65 3 w1.heap.size w1 wr w1.heap.size LA i lc HA i hc us ys∧Hid (FcR wr w1.heap.size l i us ys)) (fun _ _ _ _ _ _ _ _ _ _ _ _ _ _ _ _ iv _ => l.length - (intOf iv).toNat)
  case atStart => exact ⟨0,_,_,_,_,_,_,rfl,Nat.zero_le _,R0.out,Lib.hid fun k x hk => absurd hk (Nat.not_lt_zero _)⟩
  case round =>
   clear R0
   obtain ⟨i,LA,lc,HA,hc,us,ys,rfl,hi,hrc,HFC⟩:=hrel
   have RR:=Lib.hid hrc
   have hwr:=hrc.low.size
   have hwl:=heap_lt hrc.box
   have BR:=Lib.hid (B1.out.trans (hrc.low.mono B1.out.size))
   by_cases him:i < l.length
   ·have him':(i:Int) < (l.length:Int):=by omega
    obtain ⟨x,hx⟩:∃ x,l[i]? =some x:=⟨_,List.getElem?_eq_getElem him⟩
    have HFX:=Lib.hid (HFT.out _ _ hx)
    obtain ⟨g,c,k0,k1,k2,A,m,cc,NA,nn,nc,hv,hgl,d0,d1,d2,d3,d4,ht,hok,hnd⟩:=SX.out.at_ OW.out hx
    injection hv with hv1 hv2 hv3
    subst hv1;subst hv3
    have HX:=Lib.hid hx
    have HNN:=Lib.hid (show nn=x.2.length from by
     obtain ⟨NA',nc',e⟩:=SR.out.cell4 OW.out hx
     have e:=d4.symm.trans e
     injection e with e
     injection e)
    have z0:=(hrc.low.cell (p:=⟨g,_,none⟩) hgl).trans d0
    have z1:=(hrc.low.cell (p:=⟨g,_,none⟩) hgl).trans d1
    have z2:=(hrc.low.cell (p:=⟨g,_,none⟩) hgl).trans d2
    have z3:=(hrc.low.cell (p:=⟨g,_,none⟩) hgl).trans d3
    have z4:=(hrc.low.cell (p:=⟨g,_,none⟩) hgl).trans d4
    have hgr:g < wr.heap.size:=by omega
    have BA:=Lib.hid (belA (Below.refl wr.heap.size wr) (Obj.cells #[.int .i64 k0,.int .i64 k1,.string k2,.slice A m cc,.slice NA nn nc] 54))
    have XA:=Lib.hid (heap_alloc_new wr (Obj.cells #[.int .i64 k0,.int .i64 k1,.string k2,.slice A m cc,.slice NA nn nc] 54))
    have RA:=Lib.hid (RR.out.below BA.out hwr)
    have FA:=Lib.hid (HFC.out.below RR.out.low BA.out)
    have BRA:=Lib.hid (BR.out.trans (BA.out.mono (by have:=BR.out.size;omega)))
    have HND:=Lib.hid hnd
    clear hnd
    have h2:¬ i=200:=by omega
    ·have h200:((i:Int) == 200)=false:=by simp;omega
     have CS:=Lib.hid (show ∀ W:World,Calls Tryz.prog 12 #[.agg #[.int .i64 k0,.int .i64 k1,.string k2,.slice A m cc]] W fun e w' => (∃ h0 h1 h2 h3 h4 h5 b0 b1 b2 b3 b4 b5,e=.returned (.tuple #[.agg #[.int .i64 h0,.int .i64 h1,.string h2,.slice h3 h4 h5],.agg #[.int .i64 b0,.int .i64 b1,.string b2,.slice b3 b4 b5],.int .i64 0])∧
      Hid (Value.agg #[.int .i64 h0,.int .i64 h1,.string h2,.slice h3 h4 h5]=.agg #[.int .i64 k0,.int .i64 k1,.string k2,.slice A m cc]∧Value.agg #[.int .i64 b0,.int .i64 b1,.string b2,.slice b3 b4 b5]=trueV∧nameV h0 h2 h4=.tuple #[.string h2,.int .i64 2,.bool true]∧resI h2 2=false∧h2.size≤4096))∧Below W.heap.size W w' from fun W => by
      obtain ⟨_,s,a,b,n,f,hs,he,_⟩:=HFX.out
      rw [he] at ht
      obtain ⟨e0,e1,e2,e4,_⟩:=ht.args
      injection e0 with _ e0
      injection e1 with _ e1
      injection e2 with e2
      subst e0;subst e1;subst e2;subst e4
      refine (zsplit_any hs _ A cc W).mono ?_
      rintro e w' ⟨rfl,hb⟩
      exact ⟨⟨_,_,_,_,_,_,_,_,_,_,_,_,rfl,Lib.hid ⟨rfl,rfl,rfl,by rcases hs with rfl | rfl <;> decide+kernel,by rcases hs with rfl | rfl <;> decide⟩⟩,hb⟩)
     have HTW:=Lib.hid (ht.below (hrc.low.trans (BA.out.mono hwr)))
     have HOA:=Lib.hid hok
     clear hx hrc h2 d0 d1 d2 d3 d4 ht hok hv2 hgl
     go_wp2_with fail
     refine (CS.out _).mono ?_
     rintro e w2 ⟨⟨h0,h1,h2,h3,h4,h5,b0,b1,b2,b3,b4,b5,rfl,HSR⟩,hx2⟩
     have B2:=Lib.hid hx2
     have R2:=Lib.hid (RA.out.below hx2 (by have:=BA.out.size;omega))
     have F2:=Lib.hid (FA.out.below RA.out.low hx2)
     have BX2:=Lib.hid (BRA.out.trans (hx2.mono (by have:=BRA.out.size;omega)))
     have X2:=Lib.hid ((hx2.block _ (heap_lt XA.out)).trans XA.out)
     have hs2:=Lib.hid (show wr.heap.size < w2.heap.size from heap_lt X2.out)
     have HTA:=Lib.hid (show TP w2 (fun b => b < w1.heap.size) x.1 (.agg #[.int .i64 h0,.int .i64 h1,.string h2,.slice h3 h4 h5]) by
      rw [HSR.out.1]
      exact HTW.out.below hx2)
     have CN:=Lib.hid (fun W => pname_any h0 h1 h2 h3 h4 h5 W)
     rw [HSR.out.2.2.1] at CN
     have CR:=Lib.hid (fun W hm hg => preserved_any h2 2 W (mx:=mx) hm hg (by have:=HSR.out.2.2.2.2;omega))
     rw [HSR.out.2.2.2.1] at CR
     clear hx2 CS z0 z1 z2 z3 z4
     ·
      ·
       have M3:=Lib.hid (MkG.alloc2 w2 (.cells #[.int .i64 h0,.int .i64 h1,.string h2,.slice h3 h4 h5] 51 (0,0)))
       have M4:=Lib.hid (MkG.alloc2 (w2.alloc (.cells #[.int .i64 h0,.int .i64 h1,.string h2,.slice h3 h4 h5] 51 (0,0))) (.cells #[.int .i64 b0,.int .i64 b1,.string b2,.slice b3 b4 b5] 51 (0,0)))
       obtain ⟨W4,hW4⟩:∃ W4,W4=(w2.alloc (.cells #[.int .i64 h0,.int .i64 h1,.string h2,.slice h3 h4 h5] 51 (0,0))).alloc (.cells #[.int .i64 b0,.int .i64 b1,.string b2,.slice b3 b4 b5] 51 (0,0)):=⟨_,rfl⟩
       have HW4:=Lib.hid hW4
       have B4:=Lib.hid (show Below w2.heap.size w2 W4 by rw [hW4];exact M3.out.low.trans (M4.out.low.mono M3.out.low.size))
       have X4:=Lib.hid (show W4.heap[w2.heap.size]? =some (.cells #[.int .i64 h0,.int .i64 h1,.string h2,.slice h3 h4 h5] 51 (0,0))∧W4.heap[w2.heap.size+1]? =some (.cells #[.int .i64 b0,.int .i64 b1,.string b2,.slice b3 b4 b5] 51 (0,0)) by
        rw [hW4]
        exact ⟨(M4.out.low.block _ (by simp)).trans M3.out.new,heap_at _ _ (by simp)⟩)
       clear hW4 M3 M4
       go_wp2_with fail
       rw [← HW4.out]
       refine (CN.out _).mono ?_
       rintro e w5 ⟨rfl,hx5⟩
       have B5:=Lib.hid (B4.out.trans (hx5.mono B4.out.size))
       have X5:=Lib.hid (And.intro ((hx5.block _ (heap_lt X4.out.1)).trans X4.out.1) ((hx5.block _ (heap_lt X4.out.2)).trans X4.out.2))
       have BX5:=Lib.hid (BX2.out.trans (B5.out.mono BX2.out.size))
       clear hx5 CN B4 X4
       go_wp2_with fail
       refine (CR.out _ ((BX5.out.cell (p:=⟨2,0,none⟩) HLT.out.1).trans HMX.out) (fun n hn => (BX5.out.cell (p:=⟨0,n,none⟩) HLT.out.2).trans (HGX.out n hn))).mono ?_
       rintro e w6 ⟨rfl,rfl⟩
       have hi1:IntKind.i64.wrap ((i:Int)+1)=(i:Int)+1:=Go.IntWalk.i64_in _ ⟨by omega,by omega⟩
       clear CR
       ·
        obtain ⟨y0,y1,y2,y3⟩:=box4t X5.out.2
        have hly:=heap_lt X5.out.2
        have CG:=Lib.hid (show ∀ W:World,Calls Tryz.prog 15 #[.agg #[.int .i64 b0,.int .i64 b1,.string b2,.slice b3 b4 b5]] W fun e w' => e=.returned (.tuple #[.slice none 0 0,.int .i64 0])∧Below W.heap.size W w' from fun W => by
         rw [HSR.out.2.1]
         exact zgoals_any W)
        go_wp2_with fail
        refine (CG.out _).mono ?_
        rintro e w7 ⟨rfl,hx7⟩
        have B7:=Lib.hid (B5.out.trans (hx7.mono B5.out.size))
        have X7:=Lib.hid (And.intro ((hx7.block _ (heap_lt X5.out.1)).trans X5.out.1) ((hx7.block _ (heap_lt X5.out.2)).trans X5.out.2))
        have BX7:=Lib.hid (BX2.out.trans (B7.out.mono BX2.out.size))
        have S7:=Lib.hid ((B7.out.block _ (heap_lt X2.out)).trans X2.out)
        have R7:=Lib.hid (R2.out.below B7.out (by have:=hs2.out;omega))
        have F7:=Lib.hid (F2.out.below R2.out.low B7.out)
        clear hx7 CG y0 y1 y2 y3 hly
        have HKI:=Lib.hid (show (encN x.1 []).length≤10000 by
         obtain ⟨_,s,a,b,n,f,_,_,_,_,he⟩:=HFX.out
         rw [he]
         show 5≤10000
         omega)
        have CE:=Lib.hid (show ∀ W,Below w7.heap.size w7 W→Calls Tryz.prog 16 #[.agg #[.int .i64 h0,.int .i64 h1,.string h2,.slice h3 h4 h5],.slice none 0 0] W fun e w' => EncP x.1 [] W e w' from fun W hW =>
         pencode_any HOA.out (fun g hg => by cases hg) ((HTA.out.below B7.out).below hW) (TL.empty (World.ownsRow_nil _ _ _ _) fun b (hb:b < w1.heap.size) => by have:=B7.out.size;have:=hs2.out;have:=hW.size;omega) (Nat.zero_le _) (Nat.zero_le _))
        obtain ⟨code,hcode⟩:∃ code,encN x.1 []=code:=⟨_,rfl⟩
        have HC7:=Lib.hid (show ∃ (s:List UInt8) (a b:P),atomP a=true∧atomP b=true∧encN x.1 []=factI s a b∧code=factI s a b by
         obtain ⟨_,s,a,b,n,f,_,_,ha,hb,he⟩:=HFX.out
         exact ⟨s,a,b,ha,hb,he,hcode.symm.trans he⟩)
        unfold EncP at CE
        rw [hcode] at CE HKI
        clear hcode
        go_upto_region 17 with fail
        go_cut [19] (fun s19 wx => ∃ (cb:Nat) (LB:Option Addr) (lbc:Nat),s19=.pointer (some ⟨cb,0,none⟩)∧ClI w7 wx cb LB lbc code (nn:Int) none 0 0 [])
        case first =>
         go_wp2_with fail
         refine regionF (fun k u => match k with | 0 => u.heap[w2.heap.size]? =some (.cells #[.int .i64 h0,.int .i64 h1,.string h2,.slice h3 h4 h5] 51 (0,0)) | 4 => u.heap[wr.heap.size]? =some (.cells #[.int .i64 k0,.int .i64 k1,.string k2,.slice A m cc,.slice NA nn nc] 54 (0,0)) | _ => True) [0,4] (by kernel_rfl) (⟨X7.out.1,S7.out,trivial⟩) (fun hH => ?k17b)
         refine takeL 0 (v:=?k17_1v) (by kernel_rfl) ?k17_1y (by rfl) (fun _ _ _ h => h) (by assumption) ?k17_1r
         case k17_1y => (intro u hF;(try dsimp only at hF);simp only [opD];obtain ⟨y0,y1,y2,y3⟩:=box4t hF;have hl:=heap_lt hF;clear hF;go_simp;try with_reducible rfl)
         try simp only [opD,Act.put,List.setIfInBounds_toArray,List.set_cons_zero,List.set_cons_succ]
         refine takeP 1 (v:=?k17_2v) (by kernel_rfl) ?k17_2y (by rfl) (fun _ _ _ h => h) (by assumption) ?k17_2r
         case k17_2y => (intro u;simp only [opD];go_simp;try with_reducible rfl)
         try simp only [opD,Act.put,List.setIfInBounds_toArray,List.set_cons_zero,List.set_cons_succ]
         refine takeP 3 (v:=?k17_3v) (by kernel_rfl) ?k17_3y (by rfl) (fun _ _ _ h => h) (by assumption) ?k17_3r
         case k17_3y => (intro u;simp only [opD];go_simp;try with_reducible rfl)
         try simp only [opD,Act.put,List.setIfInBounds_toArray,List.set_cons_zero,List.set_cons_succ]
         refine takeL 4 (v:=?k17_4v) (by kernel_rfl) ?k17_4y (by rfl) (fun _ _ _ h => h) (by assumption) ?k17_4r
         case k17_4y => (intro u hF;(try dsimp only at hF);simp only [opD];have hc4:=cell_of_row u _ 4 _ _ _ hF;have hl:=heap_lt hF;clear hF;go_simp;try with_reducible rfl)
         try simp only [opD,Act.put,List.setIfInBounds_toArray,List.set_cons_zero,List.set_cons_succ]
         refine takeP 5 (v:=?k17_5v) (by kernel_rfl) ?k17_5y (by rfl) (fun _ _ _ h => h) (by assumption) ?k17_5r
         case k17_5y => (intro u;simp only [opD];go_simp;try with_reducible rfl)
         try simp only [opD,Act.put,List.setIfInBounds_toArray,List.set_cons_zero,List.set_cons_succ]
         refine readyAll (rs:=[2,7]) (by kernel_rfl) (by simp) ?_
         refine readyF.cons [4] (by kernel_rfl) (fun o hO K hK => ?k17_6a) ?k17_6n
         case k17_6a =>
          (simp only [opD] at hO);subst hO
          go_simp
          refine (CE.out _ (Below.refl _ _).drew).mono ?_
          rintro e w8 ⟨lv,rfl,hir,hkp⟩
          obtain ⟨LB,lbc,rfl,_,_,_⟩:=hir.all
          have I8:=Lib.hid hir
          have K8:=Lib.hid (show Below w7.heap.size w7 w8 from ((Below.refl _ w7).drew).trans hkp.low)
          clear hir hkp
          refine hK.out _ _ (⟨(K8.out.block _ (heap_lt S7.out)).trans S7.out,trivial⟩) (fun hH => ?k17_6r)
          clear hK K
          try simp only [Act.put,List.setIfInBounds_toArray,List.set_cons_zero,List.set_cons_succ]
          refine takeP 6 (v:=?k17_7v) (by kernel_rfl) ?k17_7y (by rfl) (fun _ _ _ h => h) (by assumption) ?k17_7r
          case k17_7y => (intro u;simp only [opD];go_simp;try with_reducible rfl)
          try simp only [opD,Act.put,List.setIfInBounds_toArray,List.set_cons_zero,List.set_cons_succ]
          refine readyAll (rs:=[7]) (by kernel_rfl) (by simp) ?_
          refine readyF.cons [4] (by kernel_rfl) (fun o hO K hK => ?k17_8a) ?k17_8n
          case k17_8a =>
           (simp only [opD] at hO);subst hO
           go_simp
           refine shutGo hK (fun u => MkG w8 u (.cells #[.slice none 0 0,.int .i64 0,.slice none 0 0] 65 (0,0))) (MkG.alloc2 _ _) (fun u hu => ⟨(hu.low.block _ (by have:=heap_lt S7.out;have:=K8.out.size;omega)).trans ((K8.out.block _ (heap_lt S7.out)).trans S7.out),trivial⟩) (fun w9 hu hH => ?k17_8r)
           clear hK K
           try simp only [Act.put,List.setIfInBounds_toArray,List.set_cons_zero,List.set_cons_succ]
           have L9:=Lib.hid (K8.out.trans (hu.low.mono K8.out.size))
           have I9:=Lib.hid (own_below I8.out hu.low)
           have C9:=Lib.hid hu.new
           have HCB:=Lib.hid (show w7.heap.size≤w8.heap.size from K8.out.size)
           obtain ⟨cb,hcb⟩:∃ cb,w8.heap.size=cb:=⟨_,rfl⟩
           clear hu
           rw [hcb] at C9 ⊢
           have c0:=cell_of_row w9 cb 0 _ _ _ C9.out
           have c1:=cell_of_row w9 cb 1 _ _ _ C9.out
           have c2:=cell_of_row w9 cb 2 _ _ _ C9.out
           have lcb:=heap_lt C9.out
           have fcb:∀ j,w9.frozen? ⟨cb,j,none⟩=false:=fun j => by simp [World.frozen?,C9.out]
           refine readyAll (rs:=[8]) (by kernel_rfl) (by simp) ?_
           refine readyF.cons [] (by kernel_rfl) (fun o hO K hK => ?k17_9a) ?k17_9n
           case k17_9a =>
            (simp only [opD] at hO);subst hO
            go_simp
            refine hK.out _ _ ?k17_9s (fun hH => ?k17_9r)
            case k17_9s => trivial
            clear hK K
            try simp only [Act.put,List.setIfInBounds_toArray,List.set_cons_zero,List.set_cons_succ]
            refine readyDone (by kernel_rfl) ?_
            go_wp2_with fail
            go_meet
            exact ⟨cb,LB,lbc,rfl,ClI.made _ L9.out C9.out (by have:=HCB.out;omega) I9.out⟩
           case k17_9n =>
            exact readyF.nil
          case k17_8n =>
           exact readyF.nil
         case k17_6n =>
          refine readyF.cons [0,4] (by kernel_rfl) (fun o hO K hK => ?k17_10a) ?k17_10n
          case k17_10a =>
           (simp only [opD] at hO);subst hO
           go_simp
           refine shutGo hK (fun u => MkG w7 u (.cells #[.slice none 0 0,.int .i64 0,.slice none 0 0] 65 (0,0))) (MkG.alloc _ _) (fun u hu => ⟨(hu.low.block _ (heap_lt X7.out.1)).trans X7.out.1,(hu.low.block _ (heap_lt S7.out)).trans S7.out,trivial⟩) (fun w8 hu hH => ?k17_10r)
           clear hK K
           try simp only [Act.put,List.setIfInBounds_toArray,List.set_cons_zero,List.set_cons_succ]
           have M8:=Lib.hid hu
           clear hu
           refine readyAll (rs:=[2]) (by kernel_rfl) (by simp) ?_
           refine readyF.cons [4] (by kernel_rfl) (fun o hO K hK => ?k17_11a) ?k17_11n
           case k17_11a =>
            (simp only [opD] at hO);subst hO
            go_simp
            refine (CE.out _ M8.out.low).mono ?_
            rintro e w9 ⟨lv,rfl,hir,hkp⟩
            obtain ⟨LB,lbc,rfl,_,_,_⟩:=hir.all
            have hs8:=M8.out.sz
            have I9:=Lib.hid (show IRw w9 w7.heap.size (.slice LB code.length lbc) code from own_more hir (by omega))
            have L9:=Lib.hid (M8.out.low.trans (hkp.low.mono (by omega)))
            have C9:=Lib.hid ((hkp.low.block _ (by omega)).trans M8.out.new)
            clear hir hkp hs8
            refine hK.out _ _ (⟨(L9.out.block _ (heap_lt S7.out)).trans S7.out,trivial⟩) (fun hH => ?k17_11r)
            clear hK K
            try simp only [Act.put,List.setIfInBounds_toArray,List.set_cons_zero,List.set_cons_succ]
            obtain ⟨cb,hcb⟩:∃ cb,w7.heap.size=cb:=⟨_,rfl⟩
            have HCB:=Lib.hid (show w7.heap.size≤cb by omega)
            rw [hcb] at C9 ⊢
            have c0:=cell_of_row w9 cb 0 _ _ _ C9.out
            have c1:=cell_of_row w9 cb 1 _ _ _ C9.out
            have c2:=cell_of_row w9 cb 2 _ _ _ C9.out
            have lcb:=heap_lt C9.out
            have fcb:∀ j,w9.frozen? ⟨cb,j,none⟩=false:=fun j => by simp [World.frozen?,C9.out]
            refine takeP 6 (v:=?k17_12v) (by kernel_rfl) ?k17_12y (by rfl) (fun _ _ _ h => h) (by assumption) ?k17_12r
            case k17_12y => (intro u;simp only [opD];go_simp;try with_reducible rfl)
            try simp only [opD,Act.put,List.setIfInBounds_toArray,List.set_cons_zero,List.set_cons_succ]
            refine readyAll (rs:=[8]) (by kernel_rfl) (by simp) ?_
            refine readyF.cons [] (by kernel_rfl) (fun o hO K hK => ?k17_13a) ?k17_13n
            case k17_13a =>
             (simp only [opD] at hO);subst hO
             go_simp
             refine hK.out _ _ ?k17_13s (fun hH => ?k17_13r)
             case k17_13s => trivial
             clear hK K
             try simp only [Act.put,List.setIfInBounds_toArray,List.set_cons_zero,List.set_cons_succ]
             refine readyDone (by kernel_rfl) ?_
             go_wp2_with fail
             go_meet
             exact ⟨cb,LB,lbc,rfl,ClI.made _ L9.out C9.out (by have:=HCB.out;omega) I9.out⟩
            case k17_13n =>
             exact readyF.nil
           case k17_11n =>
            exact readyF.nil
          case k17_10n =>
           exact readyF.nil
        case rest =>
         obtain ⟨cb,LB,lbc,rfl,hcli⟩:=hcut
         have CL:=Lib.hid hcli
         have c0:=cell_of_row wc cb 0 _ _ _ hcli.box
         have lcb:=heap_lt hcli.box
         have hkl:(code.length:Int)≤10000:=by have:=HKI.out;omega
         clear hcli
         go_wp2_with fail
         go_loopw [20,21,83] (fun _ _ kv wr => ∃ k:Nat,kv=.int .i64 (k:Int)∧k≤code.length∧ClI w7 wr cb LB lbc code (nn:Int) none 0 0 []) (fun _ _ kv _ => code.length - (intOf kv).toNat)
         case atStart => exact ⟨0,rfl,Nat.zero_le _,CL.out⟩
         case round =>
          clear CL c0 lcb
          obtain ⟨k,rfl,hk,hcli⟩:=hrel
          have CL:=Lib.hid hcli
          by_cases hkm:k < code.length
          ·have hkm':(k:Int) < (code.length:Int):=by omega
           obtain ⟨gi,rfl,hgi,hcells⟩:=insrow hcli.code rfl hkm
           obtain ⟨⟨io,ia,is_⟩,hins⟩:∃ x,code[k]'hkm=x:=⟨_,rfl⟩
           have e0:wr.cell? ⟨gi,k*3,none⟩=some (.int .i64 io):=(hcells 0 (by omega)).trans (by rw [hins];rfl)
           have e1:wr.cell? ⟨gi,k*3+1,none⟩=some (.int .i64 ia):=(hcells 1 (by omega)).trans (by rw [hins];rfl)
           have e2:wr.cell? ⟨gi,k*3+2,none⟩=some (.string is_):=(hcells 2 (by omega)).trans (by rw [hins];rfl)
           have hio:io≠7:=by
            obtain ⟨s0,a,b,ha,hb,_,he⟩:=HC7.out
            have h:=fact_no7 ha hb (code[k]'hkm) (by rw [← he];exact List.getElem_mem hkm)
            rw [hins] at h
            exact h
           have h7:(io == 7)=false:=by simpa using hio
           clear hcells hins hcli
           ·
            have CB:=Lib.hid (CL.out.below (belA (Below.refl wr.heap.size wr) (Obj.cells #[.int .i64 io,.int .i64 ia,.string is_] 67)))
            go_wp2_with fail
            go_roundw
            case rel => exact ⟨k+1,by go_num,hkm,CB.out⟩
            case measure => simp [intOf] <;> omega
          ·obtain rfl:k=code.length:=by omega
           have RB:=Lib.hid (R7.out.below hcli.low (by have:=hs2.out;have:=B7.out.size;omega))
           have FB:=Lib.hid (F7.out.below R7.out.low hcli.low)
           have IB:=Lib.hid (show IRw wr w1.heap.size (.slice LB code.length lbc) code from own_more hcli.code (by have:=hs2.out;have:=B7.out.size;omega))
           have XB:=Lib.hid ((hcli.low.block _ (heap_lt X7.out.1)).trans X7.out.1)
           have CBX:=Lib.hid hcli.box
           have hBw:w1.heap.size≤wr.heap.size:=RB.out.low.size
           have hi0:(0:Int)≤(i:Int):=by omega
           have hilt:(i:Int) < (i:Int)+1:=by omega
           have HS72:=Lib.hid (show w1.heap.size < w2.heap.size by have:=hs2.out;omega)
           obtain ⟨Wq,hWq⟩:∃ Wq,Wq=wr:=⟨_,rfl⟩
           clear hcli
           go_wp2_with fail
           refine regionF (fun k u => match k with | 4 => u.heap[w1.heap.size]? =some (.cells #[.slice LA i lc,.slice HA i hc] 49 (0,0)) | 5 => u.heap[cb]? =some (.cells #[.slice LB code.length lbc,.int .i64 (nn:Int),.slice none 0 0] 65 (0,0)) | _ => True) [4,5] (by kernel_rfl) (⟨RB.out.box,CBX.out,trivial⟩) (fun hH => ?k24b)
           refine takeP 0 (v:=?k24_1v) (by kernel_rfl) ?k24_1y (by rfl) (fun _ _ _ h => h) (by assumption) ?k24_1r
           case k24_1y => (intro u;simp only [opD];go_simp;try with_reducible rfl)
           try simp only [opD,Act.put,List.setIfInBounds_toArray,List.set_cons_zero,List.set_cons_succ]
           refine takeP 1 (v:=?k24_2v) (by kernel_rfl) ?k24_2y (by rfl) (fun _ _ _ h => h) (by assumption) ?k24_2r
           case k24_2y => (intro u;simp only [opD];go_simp;try with_reducible rfl)
           try simp only [opD,Act.put,List.setIfInBounds_toArray,List.set_cons_zero,List.set_cons_succ]
           refine takeP 2 (v:=?k24_3v) (by kernel_rfl) ?k24_3y (by rfl) (fun _ _ _ h => h) (by assumption) ?k24_3r
           case k24_3y => (intro u;simp only [opD];go_simp;try with_reducible rfl)
           try simp only [opD,Act.put,List.setIfInBounds_toArray,List.set_cons_zero,List.set_cons_succ]
           refine takeP 3 (v:=?k24_4v) (by kernel_rfl) ?k24_4y (by rfl) (fun _ _ _ h => h) (by assumption) ?k24_4r
           case k24_4y => (intro u;simp only [opD];go_simp;try with_reducible rfl)
           try simp only [opD,Act.put,List.setIfInBounds_toArray,List.set_cons_zero,List.set_cons_succ]
           refine takeL 4 (v:=?k24_5v) (by kernel_rfl) ?k24_5y (by rfl) (fun _ _ _ h => h) (by assumption) ?k24_5r
           case k24_5y => (intro u hF;(try dsimp only at hF);simp only [opD];have hc0:=cell_of_row u _ 0 _ _ _ hF;have hc1:=cell_of_row u _ 1 _ _ _ hF;have hl:=heap_lt hF;clear hF;go_simp;try with_reducible rfl)
           try simp only [opD,Act.put,List.setIfInBounds_toArray,List.set_cons_zero,List.set_cons_succ]
           refine takeL 5 (v:=?k24_6v) (by kernel_rfl) ?k24_6y (by rfl) (fun _ _ _ h => h) (by assumption) ?k24_6r
           case k24_6y => (intro u hF;(try dsimp only at hF);simp only [opD];have hc0:=cell_of_row u _ 0 _ _ _ hF;have hc1:=cell_of_row u _ 1 _ _ _ hF;have hc2:=cell_of_row u _ 2 _ _ _ hF;have hl:=heap_lt hF;clear hF;go_simp;try with_reducible rfl)
           try simp only [opD,Act.put,List.setIfInBounds_toArray,List.set_cons_zero,List.set_cons_succ]
           refine readyAll (rs:=[6]) (by kernel_rfl) (by simp) ?_
           refine readyF.cons [4] (by kernel_rfl) (fun o hO K hK => ?k24_7a) ?k24_7n
           case k24_7a =>
            (simp only [opD] at hO);subst hO
            go_simp
            refine shutGo hK (fun u => MkG wr u (.cells #[.slice LB code.length lbc,.int .i64 (nn:Int),.slice none 0 0] 65 (0,0))) (MkG.alloc _ _) (fun u hu => ⟨(hu.low.block _ (heap_lt RB.out.box)).trans RB.out.box,trivial⟩) (fun wa hu hH => ?k24_7r)
            clear hK K
            try simp only [Act.put,List.setIfInBounds_toArray,List.set_cons_zero,List.set_cons_succ]
            have Ma:=Lib.hid hu
            have Ra:=Lib.hid (RB.out.below hu.low hBw)
            clear hu
            refine readyAll (rs:=[7]) (by kernel_rfl) (by simp) ?_
            refine readyF.cons [] (by kernel_rfl) (fun o hO K hK => ?k24_8a) ?k24_8n
            case k24_8a =>
             (simp only [opD] at hO);subst hO
             refine step_append_lies _ rfl _ _ _ rfl w1.heap.size 65 clI (.agg #[.slice none 0 0,.int .i64 0,.slice none 0 0]) 3 56 Tryz.underlying46 kk1 kk2 kk3 kk4 rfl (by omega) (.slice LA i lc) i us rfl Ra.out.L ⟨wr.heap.size,0,none⟩ 1 1 [.slice LB code.length lbc,.int .i64 (nn:Int),.slice none 0 0] rfl rfl (World.news_of_block Ma.out.new) ?smL (by omega) (by unfold maxLen;omega) (by omega) (by have:=Ma.out.low.size;omega) _ rfl ?_
             case smL => (intro u hu;simp only [List.mem_cons,List.not_mem_nil,or_false] at hu;rcases hu with rfl | rfl | rfl <;> rfl)
             intro g1 cap1 w8 hown1 hg1 hat1 hlt1
             refine hK.out _ _ ?k24_8s (fun hH => ?k24_8r)
             case k24_8s => trivial
             clear hK K
             try simp only [Act.put,List.setIfInBounds_toArray,List.set_cons_zero,List.set_cons_succ]
             have K8:=Lib.hid (show ∀ (b:Nat) (cs:Array Value) (f:Nat × Nat),wr.heap[b]? =some (.cells cs 67 f)→(w8.setCell ⟨w1.heap.size,0,none⟩ (.slice (some ⟨g1,0,none⟩) (i+1) cap1)).heap[b]? =some (.cells cs 67 f) from fun b cs f hb => Ra.out.farL hg1 _ ((Ma.out.low.block _ (heap_lt hb)).trans hb) (by decide) (by decide))
             have R8:=Lib.hid (Ra.out.pushL (by decide) (by decide) (by decide) (by have:=Ma.out.low.size;omega) hown1 hg1 hat1)
             have hb8:=Ra.out.box5 Ra.out.L (by decide) hg1 hat1
             have X8:=Lib.hid (show w8.heap[w2.heap.size]? =some (.cells #[.int .i64 h0,.int .i64 h1,.string h2,.slice h3 h4 h5] 51 (0,0)) from (hg1.block _ (by have:=heap_lt XB.out;have:=Ma.out.low.size;omega) (row_ne Ra.out.L ((Ma.out.low.block _ (heap_lt XB.out)).trans XB.out) (by decide))).trans ((Ma.out.low.block _ (heap_lt XB.out)).trans XB.out))
             have c0:=cell_of_row w8 _ 0 _ _ _ hb8.2
             have f0:∀ j,w8.frozen? ⟨w1.heap.size,j,none⟩=false:=fun j => by simp [World.frozen?,hb8.2]
             have l0:=heap_lt hb8.2
             clear hown1 hg1 hat1 hb8
             refine takeP 8 (v:=?k24_9v) (by kernel_rfl) ?k24_9y (by rfl) (fun _ _ _ h => h) (by assumption) ?k24_9r
             case k24_9y => (intro u;simp only [opD];go_simp;try with_reducible rfl)
             try simp only [opD,Act.put,List.setIfInBounds_toArray,List.set_cons_zero,List.set_cons_succ]
             refine takeP 9 (v:=?k24_10v) (by kernel_rfl) ?k24_10y (by rfl) (fun _ _ _ h => h) (by assumption) ?k24_10r
             case k24_10y => (intro u;simp only [opD];go_simp;try with_reducible rfl)
             try simp only [opD,Act.put,List.setIfInBounds_toArray,List.set_cons_zero,List.set_cons_succ]
             refine readyAll (rs:=[10]) (by kernel_rfl) (by simp) ?_
             refine readyF.cons [] (by kernel_rfl) (fun o hO K hK => ?k24_11a) ?k24_11n
             case k24_11a =>
              (simp only [opD] at hO);subst hO
              go_simp
              refine hK.out _ _ ?k24_11s (fun hH => ?k24_11r)
              case k24_11s => trivial
              clear hK K
              try simp only [Act.put,List.setIfInBounds_toArray,List.set_cons_zero,List.set_cons_succ]
              refine readyDone (by kernel_rfl) ?_
              go_wp2_with fail
              generalize hW9:w8.setCell ⟨w1.heap.size,0,none⟩ (.slice (some ⟨g1,0,none⟩) (i+1) cap1)=w9 at R8 K8 ⊢
              have X9:=Lib.hid (show w9.heap[w2.heap.size]? =some (.cells #[.int .i64 h0,.int .i64 h1,.string h2,.slice h3 h4 h5] 51 (0,0)) by rw [← hW9];exact (Below.heap_setCell _ _ _ _ (by have:=HS72.out;show w2.heap.size≠w1.heap.size;omega)).trans X8.out)
              clear hW9 c0 f0 l0 X8
              have hl9:=heap_lt X9.out
              have hB9:=R8.out.low.size
              refine regionF (fun k u => match k with | 3 => u.heap[w1.heap.size]? =some (.cells #[.slice (some ⟨g1,0,none⟩) (i+1) cap1,.slice HA i hc] 49 (0,0)) | 4 => u.heap[w2.heap.size]? =some (.cells #[.int .i64 h0,.int .i64 h1,.string h2,.slice h3 h4 h5] 51 (0,0)) | _ => True) [3,4] (by kernel_rfl) (⟨R8.out.box,X9.out,trivial⟩) (fun hH => ?k25b)
              refine takeP 0 (v:=?k25_1v) (by kernel_rfl) ?k25_1y (by rfl) (fun _ _ _ h => h) (by assumption) ?k25_1r
              case k25_1y => (intro u;simp only [opD];go_simp;try with_reducible rfl)
              try simp only [opD,Act.put,List.setIfInBounds_toArray,List.set_cons_zero,List.set_cons_succ]
              refine takeP 1 (v:=?k25_2v) (by kernel_rfl) ?k25_2y (by rfl) (fun _ _ _ h => h) (by assumption) ?k25_2r
              case k25_2y => (intro u;simp only [opD];go_simp;try with_reducible rfl)
              try simp only [opD,Act.put,List.setIfInBounds_toArray,List.set_cons_zero,List.set_cons_succ]
              refine takeP 2 (v:=?k25_3v) (by kernel_rfl) ?k25_3y (by rfl) (fun _ _ _ h => h) (by assumption) ?k25_3r
              case k25_3y => (intro u;simp only [opD];go_simp;try with_reducible rfl)
              try simp only [opD,Act.put,List.setIfInBounds_toArray,List.set_cons_zero,List.set_cons_succ]
              refine takeL 3 (v:=?k25_4v) (by kernel_rfl) ?k25_4y (by rfl) (fun _ _ _ h => h) (by assumption) ?k25_4r
              case k25_4y => (intro u hF;(try dsimp only at hF);simp only [opD];have hc0:=cell_of_row u _ 0 _ _ _ hF;have hc1:=cell_of_row u _ 1 _ _ _ hF;have hl:=heap_lt hF;clear hF;go_simp;try with_reducible rfl)
              try simp only [opD,Act.put,List.setIfInBounds_toArray,List.set_cons_zero,List.set_cons_succ]
              refine takeL 4 (v:=?k25_5v) (by kernel_rfl) ?k25_5y (by rfl) (fun _ _ _ h => h) (by assumption) ?k25_5r
              case k25_5y => (intro u hF;(try dsimp only at hF);simp only [opD];obtain ⟨y0,y1,y2,y3⟩:=box4t hF;have hl:=heap_lt hF;clear hF;go_simp;try with_reducible rfl)
              try simp only [opD,Act.put,List.setIfInBounds_toArray,List.set_cons_zero,List.set_cons_succ]
              refine takeP 5 (v:=?k25_6v) (by kernel_rfl) ?k25_6y (by rfl) (fun _ _ _ h => h) (by assumption) ?k25_6r
              case k25_6y => (intro u;simp only [opD];go_simp;try with_reducible rfl)
              try simp only [opD,Act.put,List.setIfInBounds_toArray,List.set_cons_zero,List.set_cons_succ]
              refine readyAll (rs:=[6]) (by kernel_rfl) (by simp) ?_
              refine readyF.cons [3,4] (by kernel_rfl) (fun o hO K hK => ?k25_7a) ?k25_7n
              case k25_7a =>
               (simp only [opD] at hO);subst hO
               go_simp
               refine shutGo hK (fun u => MkG w9 u (.cells #[.int .i64 0,.int .i64 0,.string ⟨#[]⟩,.slice none 0 0] 51 (0,0))) (MkG.alloc _ _) (fun u hu => ⟨(hu.low.block _ (heap_lt R8.out.box)).trans R8.out.box,(hu.low.block _ hl9).trans X9.out,trivial⟩) (fun wd hu hH => ?k25_7r)
               clear hK K
               try simp only [Act.put,List.setIfInBounds_toArray,List.set_cons_zero,List.set_cons_succ]
               have Md:=Lib.hid hu
               have Rd_:=Lib.hid (R8.out.below hu.low hB9)
               clear hu
               refine readyAll (rs:=[7]) (by kernel_rfl) (by simp) ?_
               refine readyF.cons [] (by kernel_rfl) (fun o hO K hK => ?k25_8a) ?k25_8n
               case k25_8a =>
                (simp only [opD] at hO);subst hO
                refine step_append_lies _ rfl _ _ _ rfl w1.heap.size 51 itemI (.agg #[.int .i64 0,.int .i64 0,.string ⟨#[]⟩,.slice none 0 0]) 4 56 Tryz.underlying47 jj1 jj2 jj3 jj4 rfl (by omega) (.slice HA i hc) i ys rfl Rd_.out.H ⟨w9.heap.size,0,none⟩ 1 1 [.int .i64 0,.int .i64 0,.string ⟨#[]⟩,.slice none 0 0] rfl rfl (World.news_of_block Md.out.new) ?smH (by omega) (by unfold maxLen;omega) (by omega) (by have:=Md.out.low.size;omega) _ rfl ?_
                case smH => (intro u hu;simp only [List.mem_cons,List.not_mem_nil,or_false] at hu;rcases hu with rfl | rfl | rfl | rfl <;> rfl)
                intro g2 cap2 wb hown2 hg2 hat2 hlt2
                refine hK.out _ _ ?k25_8s (fun hH => ?k25_8r)
                case k25_8s => trivial
                clear hK K
                try simp only [Act.put,List.setIfInBounds_toArray,List.set_cons_zero,List.set_cons_succ]
                have HO:=Lib.hid hown2
                have HG:=Lib.hid hg2
                have HA2:=Lib.hid hat2
                have hb8:=Rd_.out.box5 Rd_.out.H (by decide) hg2 hat2
                obtain ⟨c0,c1,c2,c3,fz,_⟩:=rowH_last hown2
                have cbb:=cell_of_row wb _ 1 _ _ _ hb8.2
                have fb:∀ j,wb.frozen? ⟨w1.heap.size,j,none⟩=false:=fun j => by simp [World.frozen?,hb8.2]
                have lb:=heap_lt hb8.2
                have n1:=hb8.1
                have n2:=Ne.symm hb8.1
                clear hown2 hg2 hat2 hb8
                refine takeP 8 (v:=?k25_9v) (by kernel_rfl) ?k25_9y (by rfl) (fun _ _ _ h => h) (by assumption) ?k25_9r
                case k25_9y => (intro u;simp only [opD];go_simp;try with_reducible rfl)
                try simp only [opD,Act.put,List.setIfInBounds_toArray,List.set_cons_zero,List.set_cons_succ]
                refine takeP 10 (v:=?k25_10v) (by kernel_rfl) ?k25_10y (by rfl) (fun _ _ _ h => h) (by assumption) ?k25_10r
                case k25_10y => (intro u;simp only [opD];go_simp;try with_reducible rfl)
                try simp only [opD,Act.put,List.setIfInBounds_toArray,List.set_cons_zero,List.set_cons_succ]
                refine takeP 11 (v:=?k25_11v) (by kernel_rfl) ?k25_11y (by rfl) (fun _ _ _ h => h) (by assumption) ?k25_11r
                case k25_11y => (intro u;simp only [opD];go_simp;try with_reducible rfl)
                try simp only [opD,Act.put,List.setIfInBounds_toArray,List.set_cons_zero,List.set_cons_succ]
                refine readyAll (rs:=[9,12]) (by kernel_rfl) (by simp) ?_
                refine readyF.cons [] (by kernel_rfl) (fun o hO K hK => ?k25_12a) ?k25_12n
                case k25_12a =>
                 (simp only [opD] at hO);subst hO
                 go_simp
                 refine hK.out _ _ ?k25_12s (fun hH => ?k25_12r)
                 case k25_12s => trivial
                 clear hK K
                 try simp only [Act.put,List.setIfInBounds_toArray,List.set_cons_zero,List.set_cons_succ]
                 refine readyAll (rs:=[12]) (by kernel_rfl) (by simp) ?_
                 refine readyF.cons [] (by kernel_rfl) (fun o hO K hK => ?k25_13a) ?k25_13n
                 case k25_13a =>
                  (simp only [opD] at hO);subst hO
                  go_simp
                  refine hK.out _ _ ?k25_13s (fun hH => ?k25_13r)
                  case k25_13s => trivial
                  clear hK K
                  try simp only [Act.put,List.setIfInBounds_toArray,List.set_cons_zero,List.set_cons_succ]
                  refine readyDone (by kernel_rfl) ?_
                  go_wp2_with fail
                  have R9:=Lib.hid (Rd_.out.pushH (zs:=[.int .i64 0,.int .i64 0,.string ⟨#[]⟩,.slice none 0 0]) (us:=[.int .i64 h0,.int .i64 h1,.string h2,.slice h3 h4 h5]) (by decide) (by decide) (by decide) (by have:=Md.out.low.size;omega) rfl rfl HO.out HG.out HA2.out (.inl rfl))
                  have F9:=Lib.hid ((FB.out.keep RB.out.low R9.out.low (fun b cs f hb => Rd_.out.farH HG.out HA2.out (.inl rfl) ((Md.out.low.block _ (heap_lt (K8.out b cs f hb))).trans (K8.out b cs f hb)) (by decide) (by decide))).snoc (by have:=own_len RB.out.L;simpa using this) (by have:=own_len RB.out.H;simpa using this) HX.out HC7.out.choose_spec.choose_spec.choose_spec.1 HC7.out.choose_spec.choose_spec.choose_spec.2.1 HC7.out.choose_spec.choose_spec.choose_spec.2.2.1 HC7.out.choose_spec.choose_spec.choose_spec.2.2.2 HNN.out (own_stand IB.out fun b cs f hb => Rd_.out.farH HG.out HA2.out (.inl rfl) ((Md.out.low.block _ (heap_lt (K8.out b cs f hb))).trans (K8.out b cs f hb)) (by decide) (by decide)) (show TP _ (fun b => b < w1.heap.size) x.1 (.agg #[.int .i64 h0,.int .i64 h1,.string h2,.slice h3 h4 h5]) by exact HTA.out.same R2.out.low R9.out.low))
                  go_roundw
                  case rel => exact ⟨i+1,_,_,_,_,_,_,by go_num,by omega,R9.out,F9⟩
                  case measure => simp [intOf] <;> omega
                 case k25_13n =>
                  exact readyF.nil
                case k25_12n =>
                 refine readyF.cons [] (by kernel_rfl) (fun o hO K hK => ?k25_14a) ?k25_14n
                 case k25_14a =>
                  (simp only [opD] at hO);subst hO
                  go_simp
                  refine hK.out _ _ ?k25_14s (fun hH => ?k25_14r)
                  case k25_14s => trivial
                  clear hK K
                  try simp only [Act.put,List.setIfInBounds_toArray,List.set_cons_zero,List.set_cons_succ]
                  refine readyAll (rs:=[9]) (by kernel_rfl) (by simp) ?_
                  refine readyF.cons [] (by kernel_rfl) (fun o hO K hK => ?k25_15a) ?k25_15n
                  case k25_15a =>
                   (simp only [opD] at hO);subst hO
                   go_simp
                   refine hK.out _ _ ?k25_15s (fun hH => ?k25_15r)
                   case k25_15s => trivial
                   clear hK K
                   try simp only [Act.put,List.setIfInBounds_toArray,List.set_cons_zero,List.set_cons_succ]
                   refine readyDone (by kernel_rfl) ?_
                   go_wp2_with fail
                   have R9:=Lib.hid (Rd_.out.pushH (zs:=[.int .i64 0,.int .i64 0,.string ⟨#[]⟩,.slice none 0 0]) (us:=[.int .i64 h0,.int .i64 h1,.string h2,.slice h3 h4 h5]) (by decide) (by decide) (by decide) (by have:=Md.out.low.size;omega) rfl rfl HO.out HG.out HA2.out (.inr rfl))
                   have F9:=Lib.hid ((FB.out.keep RB.out.low R9.out.low (fun b cs f hb => Rd_.out.farH HG.out HA2.out (.inr rfl) ((Md.out.low.block _ (heap_lt (K8.out b cs f hb))).trans (K8.out b cs f hb)) (by decide) (by decide))).snoc (by have:=own_len RB.out.L;simpa using this) (by have:=own_len RB.out.H;simpa using this) HX.out HC7.out.choose_spec.choose_spec.choose_spec.1 HC7.out.choose_spec.choose_spec.choose_spec.2.1 HC7.out.choose_spec.choose_spec.choose_spec.2.2.1 HC7.out.choose_spec.choose_spec.choose_spec.2.2.2 HNN.out (own_stand IB.out fun b cs f hb => Rd_.out.farH HG.out HA2.out (.inr rfl) ((Md.out.low.block _ (heap_lt (K8.out b cs f hb))).trans (K8.out b cs f hb)) (by decide) (by decide)) (show TP _ (fun b => b < w1.heap.size) x.1 (.agg #[.int .i64 h0,.int .i64 h1,.string h2,.slice h3 h4 h5]) by exact HTA.out.same R2.out.low R9.out.low))
                   go_roundw
                   case rel => exact ⟨i+1,_,_,_,_,_,_,by go_num,by omega,R9.out,F9⟩
                   case measure => simp [intOf] <;> omega
                  case k25_15n =>
                   exact readyF.nil
                 case k25_14n =>
                  exact readyF.nil
               case k25_8n =>
                exact readyF.nil
              case k25_7n =>
               exact readyF.nil
             case k24_11n =>
              exact readyF.nil
            case k24_8n =>
             exact readyF.nil
           case k24_7n =>
            exact readyF.nil
   ·obtain rfl:i=l.length:=by omega
    clear hrc
    go_wp2_with fail
    refine bodyPost_ret (v:=.tuple #[.pointer (some ⟨w1.heap.size,0,none⟩),.int .i64 0,.int .i64 0]) (by simp [results,go_sem]) rfl ?_
    exact ⟨⟨_,_,_,_,_,_,_,_,rfl,RR.out,HFC.out,B1.out.size⟩,BR.out⟩
end Go.Proofs.YtdgpmpccfjmmcaaGreatDoor
