/- The program's parser on texts of facts:Read. -/
import Derived.Test.YtdgpmpccfjmmcaaGreatDoorKJBb
set_option linter.unusedVariables false
set_option linter.unusedSimpArgs false
namespace Go.Proofs.YtdgpmpccfjmmcaaGreatDoor
open Go.RowKit
structure ZL (c:Rdc) (w:World) (ss:List (T × List ByteArray)) (wr:World) (j:Nat) (o:Value) (xs:List Value) (done:List (T × List ByteArray)):Prop where
 bx:By w wr w.heap.size o
 rd:RdI c w wr j o xs done
 res:∃ rest,done++rest=ss∧ReadS c j rest
theorem ZL.drew {c:Rdc} {w wr:World} {ss:List (T × List ByteArray)} {j:Nat} {o:Value} {xs:List Value} {done:List (T × List ByteArray)} (h:ZL c w ss wr j o xs done):ZL c w ss wr.drew j o xs done:=
 ⟨h.bx.on ((Below.refl _ _).drew),h.rd.below ((Below.refl _ _).drew),h.res⟩
set_option maxHeartbeats 8000000 in
set_option maxRecDepth 100000 in
theorem zread_any (s:ByteArray) (w:World) {mx:Int} {ss:List (T × List ByteArray)} (hrd:RdAs s ss) (hmx:w.cell? ⟨2,0,none⟩=some (.int .i64 mx)) (htab:TabX w) (herr:ErrX w) (hops:TableX w):Calls Tryz.prog 11 #[.string s] w fun e w' =>
 (∃ (v:Value) (xs:List Value),e=.returned (.tuple #[v,.int .i64 0,.int .i64 0])∧w'.ownsRow w.heap.size 54 5 v ss.length xs∧SenR w' w.heap.size xs ss)∧Below w.heap.size w w':=by
 obtain ⟨l,hl,hrs⟩:=hrd
 obtain ⟨sen,hi1,hi2,hi3,hi4⟩:=info_parts Tryz.info_sen
 have hmf:∀ (fn:Fn) (first cap:Array Value) (w:World),(Instr.makeFunc fn first cap).run Tryz.prog w=.ok (.func fn first cap) w:=fun _ _ _ _ => rfl
 have hw0:=World.block_lt_of_cell? w _ hmx
 dsimp only at hw0
 have HTB:=Lib.hid htab
 have HER:=Lib.hid herr
 have HOP:=Lib.hid hops
 have HRS:=Lib.hid hrs
 have HL:=Lib.hid hl
 obtain ⟨W0,hW0⟩:∃ W0,W0=(((w.alloc (Obj.cells #[.slice none 0 0] 43)).alloc (Obj.cells #[.int .i64 0] 3)).alloc (Obj.cells #[.int .i64 0] 34)):=⟨_,rfl⟩
 have BY:=Lib.hid (show By w W0 w.heap.size (.slice none 0 0) by rw [hW0];exact by_new w)
 have hsz:W0.heap.size=w.heap.size+3:=by rw [hW0];simp
 have CT:=Lib.hid (ptokens_any s W0 ((BY.out.low.cell (p:=⟨2,0,none⟩) hw0).trans hmx))
 have HW0:=Lib.hid hW0
 clear hmx htab herr hops hW0 hrs hl
 go_enter_defers Tryz.func11,Tryz.ntmps11
 go_wp2_with fail
 rw [← HW0.out]
 refine CT.out.mono ?_
 rintro e w1 ⟨⟨v,p,er,rfl,hq⟩,hb1⟩
 rw [hsz] at hq hb1
 have B1:=Lib.hid (BY.out.on hb1)
 obtain ⟨c0,g0,c1,g1,c2,g2⟩:=B1.out.cells
 clear CT BY
 unfold TokQ at hq
 rw [HL.out] at hq
 obtain ⟨rfl,rfl,hown0,hlen,hs,hok⟩:=hq
 have B1s:=Lib.hid (B1.out.zero)
 have hown:=own_keep (w':=w1.setCell ⟨w.heap.size+1+1,0,none⟩ (.int .i64 0)) hown0 fun g hg => Below.heap_setCell _ _ _ _ (by have:=(hown0.lt g hg).1;show g≠w.heap.size+1+1;omega)
 obtain ⟨A,tc,rfl,hc,hA,hcm,hx⟩:=own_open hown
 clear hown0
 have hb1s:=hb1.size
 have hB1s:=B1.out.lt
 obtain ⟨c,hcc⟩:∃ c:Rdc,c=⟨w1.heap.size,w1.heap.size,s,A,l.length,tc,l,0⟩:=⟨_,rfl⟩
 have hss:(w1.setCell ⟨w.heap.size+1+1,0,none⟩ (.int .i64 0)).heap.size=w1.heap.size:=World.size_setCell _ _ _
 have AL:=(Below.refl w1.heap.size (w1.setCell ⟨w.heap.size+1+1,0,none⟩ (.int .i64 0))).alloc (Nat.le_of_eq hss.symm) (Obj.cells #[.string s,.slice A l.length tc,.slice none 0 0] 104)
 have R0:=Lib.hid (show ZL c w ss ((w1.setCell ⟨w.heap.size+1+1,0,none⟩ (.int .i64 0)).alloc (Obj.cells #[.string s,.slice A l.length tc,.slice none 0 0] 104)) 0 (.slice none 0 0) [] [] by
  have hrs:=HRS.out c (by rw [hcc]) (by rw [hcc])
  subst hcc
  refine ⟨B1s.out.on (AL.mono (by omega)),⟨⟨[],⟨rfl,hlen,hs,hok,hc,hA,Nat.le_refl _,lexN_names HL.out,fun h0 => ?_⟩,fun x hx => lex_fine HL.out x hx,.slice A l.length tc,.slice none 0 0,0,heap_at _ _ (by simp),⟨A,tc,rfl,hc,fun h0 g hg => by rw [Nat.zero_mul];exact hg⟩,World.ownsRow_nil _ _ _ _,Nat.zero_le _,Nat.le_refl _⟩,B1s.out.low.trans (AL.mono (by omega)),World.ownsRow_nil _ _ _ _,fun k x hx => by simp at hx,Nat.le_refl _⟩,ss,rfl,hrs⟩
  obtain ⟨g,cur,hg,_,hh,hcur⟩:=hx h0
  exact ⟨g,cur,hg,(AL.block g (by have:=heap_lt hh;omega)).trans hh,fun j hj => hcur j hj⟩)
 have hR:w1.heap.size=c.R:=by rw [hcc]
 have hlo:w.heap.size≤c.B:=by rw [hcc];show w.heap.size≤w1.heap.size;omega
 have hB3:w.heap.size+3≤c.B:=by rw [hcc];show w.heap.size+3≤w1.heap.size;omega
 have hN:c.N=0:=by rw [hcc]
 have hcn:c.tn=l.length:=by rw [hcc]
 clear hcc hx hown hok hb1 AL
 go_wp2_with fail
 generalize ((w1.setCell ⟨w.heap.size+1+1,0,none⟩ (.int .i64 0)).alloc (Obj.cells #[.string s,.slice A l.length tc,.slice none 0 0] 104))=w2 at*
 rw [hR] at*
 go_loopg [] c.tn (fun g wr => ∃ (j:Nat) (o:Value) (xs:List Value) (done:List (T × List ByteArray)),j+g=c.tn∧ZL c w ss wr j o xs done)
 case atStart => exact ⟨0,_,_,_,Nat.zero_add _,R0.out⟩
 case round =>
  clear R0
  obtain ⟨j,o,xs,done,hjg,hrl⟩:=hrel
  have R:=Lib.hid hrl
  obtain ⟨A3,m3,y1,hup,htn⟩:=hrl.rd.cells
  obtain ⟨c0,g0,c1,g1,c2,g2⟩:=hrl.bx.cells
  have hfw:=hrl.rd.few
  have hlt:=hrl.bx.lt
  clear hrl
  obtain ⟨rest,hre,hrs⟩:=R.out.res
  cases rest with
  | cons x rest =>
   obtain ⟨j2,hj2,hj3,hsn,hrs2⟩:=hrs
   have hj':(0:Int) < ((c.tn - j:Nat):Int):=by omega
   have RD:=Lib.hid R.out.drew
   obtain ⟨ns0,hpd⟩:=RD.out.rd.rd
   have CS:=Lib.hid (zsent_any _ _ _ hsn hpd (RD.out.rd.ev HTB.out HER.out HOP.out hlo hN))
   have HRE:=Lib.hid hre
   have HR2:=Lib.hid hrs2
   clear hpd hsn hre hrs2
   go_wp2_with fail
   refine wp_region_noPanic ?_
   refine regionF (fun k u => match k with | 0 => u.cell? ⟨w.heap.size,0,none⟩=some o | _ => True) [0] (by kernel_rfl) ⟨c0,trivial⟩ (fun hH => ?_)
   refine takeL 0 (v:=o) (by kernel_rfl) ?y0 (by rfl) (fun _ _ _ h => h) (by assumption) ?_
   case y0 => (intro u hF;have hc:u.cell? ⟨w.heap.size,0,none⟩=some o:=hF;simp only [opD];go_simp;try with_reducible rfl)
   try simp only [opD,Act.put,sA,sB,sC]
   refine readyAll (rs:=[1]) (by kernel_rfl) (by simp) ?_
   refine readyF.cons [0] (by kernel_rfl) (fun oo hO K hK => ?_) readyF.nil
   (simp only [opD] at hO);subst hO
   go_simp
   refine hK.out _ _ ⟨c0,trivial⟩ (fun hH1 => ?_)
   clear hK K
   try simp only [Act.put,sA,sB,sC]
   refine readyAll (rs:=[2]) (by kernel_rfl) (by simp) ?_
   refine readyF.cons [0] (by kernel_rfl) (fun oo hO K hK => ?_) readyF.nil
   (simp only [opD] at hO);subst hO
   go_simp
   refine CS.out.mono ?_
   rintro e w2 hq
   obtain ⟨f2,v2,rfl,h2,_,k0,k1,k2,A2,m2,cc2,NA,nc,rfl,ht2,hg2,hn2,ho2⟩:=hq.ok rfl
   have B2:=Lib.hid (RD.out.bx.on (f2.low.mono hB3))
   have O2:=Lib.hid (RD.out.rd.row f2).1
   have hs2:=f2.size
   clear hq
   obtain ⟨c0,g0,c1,g1,c2,g2⟩:=B2.out.cells
   have hl2:w.heap.size < w2.heap.size:=by have:=B2.out.lt;omega
   go_wp2_with fail
   refine hK.out _ _ ⟨c0,trivial⟩ (fun hH2 => ?_)
   clear hK K
   try simp only [Act.put,sA,sB,sC]
   refine readyAll (rs:=[3]) (by kernel_rfl) (by simp) ?_
   refine readyF.cons [0] (by kernel_rfl) (fun oo hO K hK => ?_) readyF.nil
   (simp only [opD] at hO);subst hO
   go_simp
   refine hK.out _ _ ⟨(B2.out.on ((Below.refl _ _).alloc (by have:=B2.out.lt;omega) _)).cells.1,trivial⟩ (fun hH3 => ?_)
   clear hK K
   try simp only [Act.put,sA,sB,sC]
   refine readyAll (rs:=[4]) (by kernel_rfl) (by simp) ?_
   refine readyF.cons [] (by kernel_rfl) (fun oo hO K hK => ?_) readyF.nil
   (simp only [opD] at hO);subst hO
   refine step_append_lies _ rfl _ _ _ rfl w.heap.size 54 sen (.agg #[.int .i64 0,.int .i64 0,.string ⟨#[]⟩,.slice none 0 0,.slice none 0 0]) 5 80 Tryz.underlying43 hi1 hi2 hi3 hi4 rfl (by omega) _ done.length xs rfl (own_below O2.out ((Below.refl _ _).alloc (Nat.le_refl _) _)) ⟨w2.heap.size,0,none⟩ 1 1 [.int .i64 k0,.int .i64 k1,.string k2,.slice A2 m2 cc2,.slice NA x.2.length nc] rfl rfl (World.news_of_block (heap_alloc_new _ _)) ?sm (by omega) (by unfold maxLen;omega) (by omega) (by have:=B2.out.lt;simp;omega) _ rfl ?_
   case sm => (intro u hu;simp only [List.mem_cons,List.not_mem_nil,or_false] at hu;rcases hu with rfl | rfl | rfl | rfl | rfl <;> rfl)
   intro g9 cap9 w9 hown9 hg9 hat9 hlt9
   have B9:=Lib.hid ((B2.out.on ((Below.refl _ _).alloc (by have:=B2.out.lt;omega) _)).grown hg9 (own_below O2.out ((Below.refl _ _).alloc (Nat.le_refl _) _)))
   have R9:=Lib.hid (RdI.push RD.out.rd f2 hN hlo h2 ht2 hg2 hn2 rfl ho2 ((Below.refl _ _).alloc (Nat.le_refl _) _) hown9 hg9)
   clear hown9 hg9 hat9
   obtain ⟨c0,g0,c1,g1,c2,g2⟩:=B9.out.cells
   refine hK.out _ _ trivial (fun hH4 => ?_)
   clear hK K
   try simp only [Act.put,sA,sB,sC]
   refine readyAll (rs:=[5]) (by kernel_rfl) (by simp) ?_
   refine readyF.cons [] (by kernel_rfl) (fun oo hO K hK => ?_) readyF.nil
   (simp only [opD] at hO);subst hO
   go_simp
   refine hK.out _ _ trivial (fun hH5 => ?_)
   clear hK K
   try simp only [Act.put,sA,sB,sC]
   refine readyDone (by kernel_rfl) ?_
   refine NoPanic.normal ?_
   have hgj:c.tn - j2 < gk:=by omega
   have RN:=Lib.hid (show ZL c w ss (w9.setCell ⟨w.heap.size,0,none⟩ (.slice (some ⟨g9,0,none⟩) (done.length+1) cap9)) j2 (.slice (some ⟨g9,0,none⟩) (done.length+1) cap9) (xs++[.int .i64 k0,.int .i64 k1,.string k2,.slice A2 m2 cc2,.slice NA x.2.length nc]) (done++[x]) from
    ⟨B9.out.set _,R9.out.set B9.out.b0 (by decide) (Nat.le_refl _) _ _,rest,by rw [List.append_assoc];exact HRE.out,HR2.out⟩)
   go_wp2_with fail
   go_roundg (c.tn - j2)
   case measure => exact hgj
   case rel => exact ⟨j2,_,_,_,by omega,RN.out⟩
  | nil =>
   have hj':¬ (0:Int) < ((c.tn - j:Nat):Int):=by have h9:c.tn≤j:=hrs;omega
   obtain rfl:done=ss:=by rw [← hre,List.append_nil]
   obtain ⟨A4,m4,rfl,_⟩:=own_open R.out.rd.own
   have hB2:=R.out.bx.lt
   have hB0:w.heap.size < wr.heap.size:=by omega
   have hB1:w.heap.size+1 < wr.heap.size:=by omega
   have hB4:w.heap.size+1+1 < wr.heap.size:=by omega
   clear hre hrs
   go_wp2_with fail
   show Leaves _ _ _ _ _ _ _
   refine leaves_cons (f:=33) (args:=#[.pointer (some ⟨w.heap.size,0,none⟩),.pointer (some ⟨w.heap.size+1,0,none⟩),.pointer (some ⟨w.heap.size+1+1,0,none⟩)]) (by simp) (by simp [go_sem]) ?_
   refine (rcatch_idle _ _ _ _).mono ?_
   rintro e u' w'' ⟨rfl,rfl,rfl⟩
   have HE:=Lib.hid (((R.out.bx.low.setCell (p:=⟨w.heap.size,0,none⟩) (Nat.le_refl _) (.slice A4 done.length m4)).setCell (p:=⟨w.heap.size+1,0,none⟩) (by simp) (.int .i64 0)).setCell (p:=⟨w.heap.size+1+1,0,none⟩) (by simp;omega) (.int .i64 0))
   have hk:∀ g (cs:Array Value) (t:TypeId) (m:Nat × Nat),wr.heap[g]? =some (Obj.cells cs t m)→t≠43→t≠3→t≠34→(((wr.setCell ⟨w.heap.size,0,none⟩ (.slice A4 done.length m4)).setCell ⟨w.heap.size+1,0,none⟩ (.int .i64 0)).setCell ⟨w.heap.size+1+1,0,none⟩ (.int .i64 0)).heap[g]? =some (Obj.cells cs t m):=fun g cs t m hg h1 h2 h3 =>
    ((Below.heap_setCell _ _ _ _ (heap_ne hg R.out.bx.b2 h3)).trans ((Below.heap_setCell _ _ _ _ (heap_ne hg R.out.bx.b1 h2)).trans (Below.heap_setCell _ _ _ _ (heap_ne hg R.out.bx.b0 h1)))).trans hg
   have HT:=Lib.hid (own_keep R.out.rd.own fun g hg => by
    obtain ⟨cs,m,hh⟩:=Go.Lib.ownsRow_kind R.out.rd.own g hg
    exact (hk g cs _ m hh (by decide) (by decide) (by decide)).trans hh.symm)
   have HS:=Lib.hid (R.out.rd.sr.keep fun b cs t f hb ht => hk b cs t f hb (by rcases ht with rfl | rfl <;> decide) (by rcases ht with rfl | rfl <;> decide) (by rcases ht with rfl | rfl <;> decide))
   clear hk
   simp [Leaves,settle,results,Tryz.results11,go_sem,World.cell?_setCell_other,World.cell?_setCell_same,c0,c1,c2]
   exact ⟨⟨_,HT.out,HS.out⟩,HE.out⟩
end Go.Proofs.YtdgpmpccfjmmcaaGreatDoor
