/- The program's store:occurs. One pair of terms,and rows of pairs,in words of the sides' kinds:plain lemmas. The program's store:what a run of bindings leaves;what it leaves alone. -/
import Derived.Test.YtdgpmpccfjmmcaaGreatDoorKJAk
import Derived.Test.YtdgpmpccfjmmcaaGreatDoorKJAj
set_option linter.unusedVariables false
set_option linter.unusedSimpArgs false
namespace Go.Proofs.YtdgpmpccfjmmcaaGreatDoor
open Go.RowKit
theorem SM.but {b:Nat} {w w':World} {B sb:Nat} {C:List CV} {R:List (CV × Nat)} {M:List (Nat × Nat)} (h:SM w B sb C R M) (hb:But b w w') (hm:IsMapAt w b):SM w' B sb C R M:=
 h.keep fun _ _ _ _ hh _ => hb.cells hm hh
theorem CL.but {b:Nat} {w w':World} {C:List CV} {L:Bs} (h:CL w C L) (hb:But b w w') (hm:IsMapAt w b):CL w' C L:=h.keep fun ht => ht.but hb hm
structure So (w:World) (B sb mb:Nat) (C:List CV) (R:List (CV × Nat)) (M:List (Nat × Nat)) (L:Bs) (S:List Int):Prop where
 sm:SM w B sb C R M
 cl:CL w C L
 seen:IM w mb S.length (seenM S)
 nd:S.Nodup
 inr:∀ i ∈ S,0≤i∧i < 1000
theorem So.few {w:World} {B sb mb:Nat} {C:List CV} {R:List (CV × Nat)} {M:List (Nat × Nat)} {L:Bs} {S:List Int} (h:So w B sb mb C R M L S):S.length≤1000:=nodup_few 1000 S h.nd h.inr
theorem So.below {w w':World} {B sb mb:Nat} {C:List CV} {R:List (CV × Nat)} {M:List (Nat × Nat)} {L:Bs} {S:List Int} (h:So w B sb mb C R M L S) (hb:Below w.heap.size w w'):So w' B sb mb C R M L S:=
 ⟨h.sm.below hb,h.cl.below hb,h.seen.keep (hb.block mb h.seen.lt),h.nd,h.inr⟩
theorem So.asked {w:World} {B sb mb:Nat} {C:List CV} {R:List (CV × Nat)} {M:List (Nat × Nat)} {L:Bs} {S:List Int} (h:So w B sb mb C R M L S) {i:Int} (h0:0≤i) (h1:i < 1000) (nq:Nat) :
 (Instr.lookup 155 (.map (some mb)) (.int .i64 i) false).run Tryz.prog (w.drewN nq)=.ok (.bool (decide (i ∈ S))) (w.drewN nq):=by
 have:=(h.seen.keep (w':=w.drewN nq) rfl).look1 Tryz.underlying155 (zeroB (w.drewN nq)) (i:=i) ⟨by omega,by omega⟩
 rw [this]
 by_cases hi:i ∈ S <;> simp [seenM,hi]
theorem So.mark {w:World} {B sb mb:Nat} {C:List CV} {R:List (CV × Nat)} {M:List (Nat × Nat)} {L:Bs} {S:List Int} (h:So w B sb mb C R M L S) {i:Int} (h0:0≤i) (h1:i < 1000) (hi:i ∉ S) :
 ∃ w',(Instr.mapUpdate 155 (.map (some mb)) (.int .i64 i) (.bool true)).run Tryz.prog w=.ok () w'∧So w' B sb mb C R M L (i ::S)∧But mb w w':=by
 obtain ⟨w',hrun,hM,ht⟩:=h.seen.store Tryz.underlying155 (by have:=h.few;unfold maxLen;omega) (i:=i) ⟨by omega,by omega⟩ (.bool true)
 have hbut:=But.turned ht
 have his:=h.seen.is
 rw [seenM_put] at hM
 exact ⟨w',hrun,⟨h.sm.but hbut his,h.cl.but hbut his,hM,List.nodup_cons.mpr ⟨hi,h.nd⟩,fun j hj => by
  rcases List.mem_cons.mp hj with rfl | hj
  ·exact ⟨h0,h1⟩
  ·exact h.inr j hj⟩,hbut⟩
theorem So.re {w w':World} {B sb mb:Nat} {C:List CV} {R:List (CV × Nat)} {M:List (Nat × Nat)} {L:Bs} {S S':List Int} (h:So w B sb mb C R M L S) (hb:But mb w w') (hM:IM w' mb S'.length (seenM S')) (hn:S'.Nodup) (hi:∀ i ∈ S',0≤i∧i < 1000):So w' B sb mb C R M L S':=
 ⟨h.sm.but hb h.seen.is,h.cl.but hb h.seen.is,hM,hn,hi⟩
def OccP (L:Bs) (n:Int) (t:T) (w:World) (B sb mb:Nat) (C:List CV) (R:List (CV × Nat)) (M:List (Nat × Nat)) (S:List Int) (e:Ending) (w':World):Prop:=
 ∃ b,e=.returned (.bool b)∧(b=true↔Reach L n t)∧∃ S',So w' B sb mb C R M L S'∧But mb w w'∧(b=false→∀ u ∈ S',u ∈ S∨¬ Reach L n (varT u))
def OccC (r:Int→Nat) (L:Bs) (n:Int) (K:Nat) (t:T):Prop:=∀ (w:World) (B sb mb:Nat) (C:List CV) (R:List (CV × Nat)) (M:List (Nat × Nat)) (S:List Int) (v:Value),So w B sb mb C R M L S→TP w (fun _ => True) t v→t.ok→allV t (C.length:Int)→(∀ u,t.hasV u→r u < K)→
 (∀ u ∈ S,¬ Reach L n (varT u)∨K≤r u)→
 Calls Tryz.prog 203 #[.pointer (some ⟨sb,0,none⟩),.int .i64 n,v,.map (some mb)] w fun e w' => OccP L n t w B sb mb C R M S e w'
structure OLoop (r:Int→Nat) (L:Bs) (n:Int) (K:Nat) (t:T) (w:World) (B sb mb:Nat) (C:List CV) (R:List (CV × Nat)) (M:List (Nat × Nat)) (S:List Int) (wr:World) (u:T) (k' n':Int) (s':ByteArray) (A':Option Addr) (m' c':Nat) (S1:List Int) (K1:Nat):Prop where
 box:wr.heap[w.heap.size]? =some (.cells #[.int .i64 k',.int .i64 n',.string s',.slice A' m' c'] 51 (0,0))
 tp:TP wr (fun b => b < w.heap.size) u (.agg #[.int .i64 k',.int .i64 n',.string s',.slice A' m' c'])
 ok:u.ok
 kn:allV u (C.length:Int)
 oc:So wr B sb mb C R M L S1
 but:But mb w wr
 rk:∀ v,u.hasV v→r v < K1
 old:∀ v ∈ S1,¬ Reach L n (varT v)∨K1≤r v
 lex:K1 < K∨(K1=K∧u=t)
 iff:Reach L n t↔Reach L n u
 new:∀ v ∈ S1,v ∈ S∨(Reach L n (varT v)→Reach L n u)
structure OArgs (r:Int→Nat) (L:Bs) (n:Int) (w:World) (B sb mb:Nat) (C:List CV) (R:List (CV × Nat)) (M:List (Nat × Nat)) (S:List Int) (u:T) (au:Nat→T) (K1:Nat) (wq:World) (i:Nat) (S2:List Int):Prop where
 oc:So wq B sb mb C R M L S2
 but:But mb w wq
 no:∀ q,q < i→¬ Reach L n (au q)
 old:∀ v ∈ S2,¬ Reach L n (varT v)∨K1≤r v
 new:∀ v ∈ S2,v ∈ S∨(Reach L n (varT v)→Reach L n u)
theorem reach_old {L:Bs} {n n':Int} {u x:T} (hv:u.var? =some n') (hne:n'≠n) (hx:findB L n'=some x) (h:Reach L n u):Reach L n x:=by
 cases h with
 | var e => rw [hv] at e;injection e with e;exact absurd e hne
 | bind e hf hx' => rw [hv] at e;injection e with e;subst e;rw [hx] at hf;injection hf with hf;subst hf;exact hx'
 | arg hi hx' => rw [var_iff] at hv;exact absurd hv.1 (by decide)
theorem reach_end {L:Bs} {n n':Int} {u:T} (hv:u.var? =some n') (hne:n'≠n) (hx:findB L n'=none) (h:Reach L n u):False:=by
 cases h with
 | var e => rw [hv] at e;injection e with e;exact hne e
 | bind e hf hx' => rw [hv] at e;injection e with e;subst e;rw [hx] at hf;cases hf
 | arg hi hx' => rw [var_iff] at hv;exact absurd hv.1 (by decide)
set_option maxRecDepth 100000 in
set_option maxHeartbeats 8000000 in
theorem occ_step {r:Int→Nat} {L:Bs} {n:Int} {K:Nat} {t:T} (hr:∀ p ∈ L,∀ v,p.2.hasV v→r v < r p.1) (ihK:∀ K' < K,∀ u,OccC r L n K' u) (ihT:∀ k' n' s m a,t=.mk k' n' s m a→∀ i,i < m→OccC r L n K (a i)):OccC r L n K t:=by
 intro w B sb mb C R M S v hoc hv ht hkn hrk hS
 obtain ⟨k,nn,s,A,m,c,rfl⟩:=hv.agg
 have H:=Lib.hid hoc
 have HV:=Lib.hid hv
 have HR:=Lib.hid hr
 have IK:=Lib.hid ihK
 have IT:=Lib.hid ihT
 have HRK:=Lib.hid hrk
 have HS:=Lib.hid hS
 have HKN:=Lib.hid hkn
 clear hoc hv hr ihK ihT hrk hS hkn
 go_enter Tryz.func203,Tryz.ntmps203
 go_wp2_with fail
 go_loopw [13] (fun _ wr => ∃ u k' n' s' A' m' c' S1 K1,OLoop r L n K t w B sb mb C R M S wr u k' n' s' A' m' c' S1 K1) (fun _ wr => msrW L r w.heap.size wr)
 case atStart =>
  have B0:=(Below.refl w.heap.size w).alloc (Nat.le_refl _) (Obj.cells #[.int .i64 k,.int .i64 nn,.string s,.slice A m c] 51)
  exact ⟨t,k,nn,s,A,m,c,S,K,heap_alloc_new _ _,HV.out.old.keep fun b cs f hS hh => ⟨(B0.block b hS.2).trans hh,hS.2⟩,ht,HKN.out,H.out.below B0,But.of B0,HRK.out,HS.out,.inr ⟨rfl,rfl⟩,Iff.rfl,fun v hv => .inl hv⟩
 case round =>
  obtain ⟨u,k',n',s',A',m',c',S1,K1,hl⟩:=hrel
  have RR:=Lib.hid hl
  obtain ⟨x0,x1,x2,x3⟩:=box4 hl.box
  have hgl:=heap_lt hl.box
  have xf:=unfrozen hl.box
  clear hl
  cases hk:(k' == 1) with
  | true =>
   obtain rfl:k'=1:=by simpa using hk
   obtain ⟨hv1,i,rfl,hi⟩:=RR.out.tp.var_of RR.out.ok
   have HV1:=Lib.hid hv1
   have HM:=Lib.hid (show msrW L r w.heap.size wr=cntR L r (r (i:Int)+1) by rw [msrW_of RR.out.box,if_pos rfl])
   have hin:i < C.length:=by have:=RR.out.kn _ (var_has hv1);omega
   obtain ⟨c1,hc1⟩:=at_of_lt hin
   obtain ⟨g0,c0,cs,b0,hl,hh0,hcc,hel⟩:=RR.out.oc.sm.cellAt hc1
   have hbb:=RR.out.oc.cl.bound hc1
   have hcell:=RR.out.oc.cl.cell i c1 hc1
   obtain ⟨q,⟨tk,tn,ts,tA,tm,tc⟩,⟨ak,an,as_,aA,am,ac⟩⟩:=c1
   have o0:=hel 0 _ rfl
   have o1:=hel 1 _ rfl
   have o2:=hel 2 _ rfl
   have o3:=hel 3 _ rfl
   have o4:=hel 4 _ rfl
   simp only [Nat.add_zero] at o0
   have hl0:=heap_lt hh0
   have hini:(i:Int) < (C.length:Int):=by omega
   have RS:=RR.out.oc.asked (i:=(i:Int)) (by omega) (by omega)
   have RS0:=RS 0
   rw [show wr.drewN 0=wr from rfl] at RS0
   have HBB:=Lib.hid hbb
   have HCELL:=Lib.hid hcell
   have HH0:=Lib.hid hh0
   have HC1:=Lib.hid hc1
   clear hel hv1 hbb hcell hh0 hc1
   by_cases hnn:(i:Int)=n
   ·have hnb:((i:Int) == n)=true:=by simpa using hnn
    have RE:=Lib.hid (show Reach L n t from RR.out.iff.mpr (.var (by rw [HV1.out,hnn])))
    clear hnn
    go_wp2_with fail
    go_ret
    exact ⟨true,rfl,⟨fun _ => RE.out,fun _ => rfl⟩,S1,RR.out.oc,RR.out.but,fun h => by cases h⟩
   ·have hnb:((i:Int) == n)=false:=by simpa using hnn
    cases hin1:decide ((i:Int) ∈ S1) with
    | true =>
     have hmem:(i:Int) ∈ S1:=by simpa using hin1
     have NR:=Lib.hid (show ¬ Reach L n u from fun h => by
      rcases RR.out.old _ hmem with h1 | h1
      ·exact h1 (reach_var HV1.out (varT_var _) h)
      ·have:=RR.out.rk _ (var_has HV1.out);omega)
     rw [hin1] at RS0
     simp only [hin1] at RS
     clear hnn hmem hin1
     go_wp2_with fail
     go_quiet (fail)
     go_wp2_with fail
     go_ret
     exact ⟨false,rfl,⟨(fun h => by cases h),fun h => absurd (RR.out.iff.mp h) NR.out⟩,S1,RR.out.oc.below (bel_drewN (Below.refl _ _) _),RR.out.but.trans (But.of (bel_drewN (Below.refl _ _) _)),fun _ v hv => (RR.out.new v hv).imp id fun h h' => NR.out (h h')⟩
    | false =>
     have hmem:¬ (i:Int) ∈ S1:=by simpa using hin1
     rw [hin1] at RS0
     simp only [hin1] at RS
     clear hin1
     cases q with
     | false =>
      have NR:=Lib.hid (show ¬ Reach L n u from fun h => reach_end HV1.out hnn (by
       cases hf:findB L (i:Int) with
       | none => rfl
       | some x => have:=HBB.out;rw [hf] at this;cases this) h)
      clear hnn hmem
      go_wp2_with fail
      go_quiet (fail)
      go_wp2_with fail
      go_ret
      exact ⟨false,rfl,⟨(fun h => by cases h),fun h => absurd (RR.out.iff.mp h) NR.out⟩,S1,RR.out.oc.below (bel_drewN (Below.refl _ _) _),RR.out.but.trans (But.of (bel_drewN (Below.refl _ _) _)),fun _ v hv => (RR.out.new v hv).imp id fun h h' => NR.out (h h')⟩
     | true =>
      obtain ⟨x,hx⟩:∃ x,findB L (i:Int)=some x:=by
       cases hf:findB L (i:Int) with
       | none => have:=HBB.out;rw [hf] at this;cases this
       | some x => exact ⟨x,rfl⟩
      have HX:=Lib.hid hx
      have HXT:=Lib.hid (HCELL.out.2 x hx).2
      have HL:=Lib.hid (msr_step HR.out hx HXT.out)
      have HNN:=Lib.hid hnn
      have HMEM:=Lib.hid hmem
      clear hx hnn hmem
      go_wp2_with fail
      go_quiet (fail)
      have BQ:=Lib.hid (bel_drewN (Below.refl wr.heap.size wr) nq)
      obtain ⟨w2,hrun2,hoc2,hbut2⟩:=(RR.out.oc.below BQ.out).mark (i:=(i:Int)) (by omega) (by omega) HMEM.out
      have HB2:=Lib.hid (RR.out.but.trans ((But.of BQ.out).trans hbut2))
      have hi1:=RR.out.oc.seen.is
      have HO2:=Lib.hid hoc2
      have X2:=Lib.hid (hbut2.cells hi1 (g:=w.heap.size) RR.out.box)
      obtain ⟨p0,p1,p2,p3⟩:=box4 X2.out
      have pf:=unfrozen X2.out
      have pl:=heap_lt X2.out
      obtain ⟨g1,c1',cs1,e0,el,eh0,ecc,eel⟩:=hoc2.sm.cellAt HC1.out
      have q0:=eel 0 _ rfl
      have q1:=eel 1 _ rfl
      have q2:=eel 2 _ rfl
      have q3:=eel 3 _ rfl
      have q4:=eel 4 _ rfl
      have el0:=heap_lt eh0
      have P:=Lib.hid (put_new0 X2.out (Nat.le_refl _) (Below.refl w.heap.size w2) (.int .i64 tk) (.int .i64 tn) (.string ts) (.slice tA tm tc))
      have BN:=Lib.hid (HB2.out.low P.out.2.2 (Nat.le_refl _))
      clear eel eh0 hoc2 hbut2 xf b0 o0 o1 o2 o3 o4 hi1
      have RELP:Hid (∃ u k' n' s' A' m' c' S1 K1,OLoop r L n K t w B sb mb C R M S ((((w2.setCell ⟨w.heap.size,0,none⟩ (.int .i64 tk)).setCell ⟨w.heap.size,1,none⟩ (.int .i64 tn)).setCell ⟨w.heap.size,2,none⟩ (.string ts)).setCell ⟨w.heap.size,3,none⟩ (.slice tA tm tc)).drew u k' n' s' A' m' c' S1 K1):=Lib.hid (by
       refine ⟨x,tk,tn,ts,tA,tm,tc,(i:Int) ::S1,r (i:Int),P.out.1,?_,(H.out.cl.ok.find HX.out).2.2,(fun v hv => H.out.cl.kn _ (findB_mem HX.out) v hv),?_,BN.out.trans (But.of (Below.refl _ _).drew),fun v hv => HR.out _ (findB_mem HX.out) v hv,fun v hv => ?_,?_,?_,fun v hv => ?_⟩
       ·have hxt:=((H.out.cl.cell i _ HC1.out).2 x HX.out).2
        exact (hxt.old.keep fun b cs f hS hh => ⟨BN.out.cells H.out.seen.is hh,hS.2⟩).below (Below.refl _ _).drew
       ·exact (H.out.re BN.out (HO2.out.seen.keep (P.out.2.1 mb (by have:=H.out.seen.lt;omega))) HO2.out.nd HO2.out.inr).below (Below.refl _ _).drew
       ·have hlt:=RR.out.rk _ (var_has HV1.out)
        rcases List.mem_cons.mp hv with rfl | hv
        ·exact .inr (Nat.le_refl _)
        ·exact (RR.out.old v hv).imp id fun h => by omega
       ·have hlt:=RR.out.rk _ (var_has HV1.out)
        rcases RR.out.lex with h | ⟨h,_⟩
        ·exact .inl (by omega)
        ·exact .inl (by omega)
       ·exact RR.out.iff.trans ⟨fun h => reach_old HV1.out HNN.out HX.out h,fun h => .bind HV1.out HX.out h⟩
       ·have hu:Reach L n u→Reach L n x:=fun h => reach_old HV1.out HNN.out HX.out h
        rcases List.mem_cons.mp hv with rfl | hv
        ·exact .inr fun h => hu (reach_var (varT_var _) HV1.out h)
        ·exact (RR.out.new v hv).imp id fun h h' => hu (h h'))
      simp only [Nat.add_zero] at q0
      go_wp2_with fail
      go_region
      go_wp2_with fail
      go_roundw
      case rel => exact RELP.out
      case measure => rw [HM.out];exact Nat.lt_of_le_of_lt (Nat.le_of_eq (msrW_of P.out.1)) HL.out
  | false =>
   have hk1:k'≠1:=by simpa using hk
   obtain ⟨ku,nu,su,mu,au,rfl⟩:∃ ku nu su mu au,u=.mk ku nu su mu au:=by
    have htp:=RR.out.tp
    cases u with
    | nil => exact htp.elim
    | mk ku nu su mu au => exact ⟨_,_,_,_,_,rfl⟩
   obtain ⟨a0,a1,a2,rfl,hmc,hA,_⟩:=RR.out.tp.args
   injection a0 with _ a0
   injection a1 with _ a1
   injection a2 with a2
   subst a0;subst a1;subst a2
   have hfew:=RR.out.ok.few
   have hk4:0 < m'→k'=4:=fun h => Classical.byContradiction fun e => by have:=RR.out.ok.plain e;omega
   have hnv:∀ v,(T.mk k' n' s' m' au).var?≠some v:=fun v h => hk1 (var_iff.mp h).1
   have HNV:=Lib.hid hnv
   have A0:=Lib.hid (show OArgs r L n w B sb mb C R M S (.mk k' n' s' m' au) au K1 wr 0 S1 from ⟨RR.out.oc,RR.out.but,fun q hq => absurd hq (by omega),RR.out.old,RR.out.new⟩)
   have HK4:=Lib.hid hk4
   clear hnv hk4 hk1
   go_wp2_with fail
   go_loopw [49] (fun iv wq => ∃ (i:Nat) (S2:List Int),iv=.int .i64 (i:Int)∧i≤m'∧OArgs r L n w B sb mb C R M S (.mk k' n' s' m' au) au K1 wq i S2) (fun iv _ => m' - (intOf iv).toNat)
   case atStart => exact ⟨0,S1,rfl,Nat.zero_le _,A0.out⟩
   case round =>
    clear A0 x0 x1 x2 x3 xf
    obtain ⟨i,S2,rfl,hi,ha⟩:=hrel
    have Q:=Lib.hid ha
    have hsz:=ha.but.size
    clear ha
    by_cases him:i < m'
    ·have him':(i:Int) < (m':Int):=by omega
     have TPq:TP wr (fun b => b < w.heap.size) (.mk k' n' s' m' au) (.agg #[.int .i64 k',.int .i64 n',.string s',.slice A' m' c']):=RR.out.tp.keep fun b cs f hS hh => by
      have hne:b≠mb:=by
       rintro rfl
       obtain ⟨es,clock,h2⟩:=RR.out.oc.seen.is
       rw [h2] at hh;cases hh
      exact ⟨(Q.out.but.block b hS hne).trans ((RR.out.but.block b hS hne).symm.trans hh),hS⟩
     obtain ⟨_,_,_,_,_,_,hargs⟩:=TPq.args
     obtain ⟨b,k0,k1,k2,B0,m0,c0,rfl,hbw,hbl,d0,d1,d2,d3,hti⟩:=hargs i him
     have HTI:=Lib.hid hti
     have HNO:=Lib.hid (show ∀ h:OccC r L n K1 (au i),Calls Tryz.prog 203 #[.pointer (some ⟨sb,0,none⟩),.int .i64 n,.agg #[.int .i64 k0,.int .i64 k1,.string k2,.slice B0 m0 c0],.map (some mb)] (wr.alloc (Obj.cells #[.int .i64 k0,.int .i64 k1,.string k2,.slice B0 m0 c0] 51)) fun e w' => OccP L n (au i) (wr.alloc (Obj.cells #[.int .i64 k0,.int .i64 k1,.string k2,.slice B0 m0 c0] 51)) B sb mb C R M S2 e w' from fun h =>
      h _ B sb mb C R M S2 _ (Q.out.oc.below ((Below.refl _ _).alloc (Nat.le_refl _) _)) ((HTI.out.below ((Below.refl _ _).alloc (Nat.le_refl _) _)).more fun _ _ => trivial) (RR.out.ok.arg him) (fun v hv => RR.out.kn v (.inr ⟨HK4.out (by omega),i,him,hv⟩)) (fun v hv => RR.out.rk v (.inr ⟨HK4.out (by omega),i,him,hv⟩)) Q.out.old)
     have HI:Hid (OccC r L n K1 (au i)):=Lib.hid (by
      rcases RR.out.lex with h | ⟨h1,h2⟩
      ·exact IK.out K1 h _
      ·subst h1;exact IT.out _ _ _ _ _ h2.symm i him)
     clear hti hargs TPq
     go_wp2_with fail
     refine (HNO.out HI.out).mono ?_
     rintro e w5 ⟨bb,rfl,hbb,S3,hoc3,hbut3,hnew3⟩
     have BB:=Lib.hid hbb
     have O3:=Lib.hid hoc3
     have U3:=Lib.hid (Q.out.but.trans ((But.of ((Below.refl _ _).alloc (Nat.le_refl _) (Obj.cells #[.int .i64 k0,.int .i64 k1,.string k2,.slice B0 m0 c0] 51))).trans hbut3))
     have N3:=Lib.hid hnew3
     clear hbb hoc3 hbut3 hnew3 HNO
     cases bb with
     | true =>
      go_wp2_with fail
      go_ret
      have h4:=HK4.out (by omega)
      subst h4
      exact ⟨true,rfl,⟨fun _ => RR.out.iff.mpr (.arg him (BB.out.mp (by simp))),fun _ => rfl⟩,S3,O3.out,U3.out,fun h => by cases h⟩
     | false =>
      have hno:¬ Reach L n (au i):=fun h => by have:=BB.out.mpr h;cases this
      have HN:=Lib.hid hno
      clear hno
      go_wp2_with fail
      go_roundw
      case rel =>
       refine ⟨i+1,S3,by go_num,him,O3.out,U3.out,fun q hq => ?_,fun v hv => ?_,fun v hv => ?_⟩
       ·by_cases hqi:q=i
        ·subst hqi;exact HN.out
        ·exact Q.out.no q (by omega)
       ·rcases N3.out (by simp) v hv with h | h
        ·exact Q.out.old v h
        ·exact .inl h
       ·rcases N3.out (by simp) v hv with h | h
        ·exact Q.out.new v h
        ·exact .inr fun h' => absurd h' h
      case measure => simp [intOf];omega
    ·obtain rfl:i=m':=by omega
     have NR:=Lib.hid (show ¬ Reach L n (.mk k' n' s' i au) from fun h => by
      cases h with
      | var e => exact HNV.out _ e
      | bind e _ _ => exact HNV.out _ e
      | arg hi hx => exact Q.out.no _ hi hx)
     go_wp2_with fail
     go_ret
     exact ⟨false,rfl,⟨(fun h => by cases h),fun h => absurd (RR.out.iff.mp h) NR.out⟩,S2,Q.out.oc,Q.out.but,fun _ v hv => (Q.out.new v hv).imp id fun h h' => NR.out (h h')⟩
theorem occ_any {r:Int→Nat} {L:Bs} {n:Int} (hr:∀ p ∈ L,∀ v,p.2.hasV v→r v < r p.1):∀ K t,OccC r L n K t:=by
 intro K
 induction K using Nat.strongRecOn with
 | _ K ihK =>
  intro t
  induction t with
  | nil => intro w B sb mb C R M S v _ hv;exact hv.elim
  | mk k n' s m a ih => exact occ_step hr ihK fun k2 n2 s2 m2 a2 e i _ => by injection e with _ _ _ _ e;subst e;exact ih i
end Go.Proofs.YtdgpmpccfjmmcaaGreatDoor
namespace Go.Proofs.YtdgpmpccfjmmcaaGreatDoor
open Go.RowKit
def pairsFrom (i m:Nat) (g h:Nat→T):List (T × T):=(pairsOf m g h).drop i
theorem pairsFrom_step {i m:Nat} (hi:i < m) (g h:Nat→T):pairsFrom i m g h=(g i,h i) ::pairsFrom (i+1) m g h:=by
 unfold pairsFrom pairsOf
 rw [List.drop_eq_getElem_cons (by simpa using hi)]
 simp
theorem pairsFrom_end (m:Nat) (g h:Nat→T):pairsFrom m m g h=[]:=by
 unfold pairsFrom pairsOf
 rw [List.drop_eq_nil_iff]
 simp
theorem uniF_cons (f:Nat) (L:Bs) (p:T × T) (xs:List (T × T)):uniF f L (p ::xs)=(uniF f L [p]).then xs:=uniF_append f L [p] xs
theorem uniF_one (f:Nat) (L:Bs) (a b:T):uniF (f+1) L [(a,b)]=match stepU L (walkN L a) (walkN L b) with
 | .fail => .unlike
 | .bind n t => .ok (L++[(n,t)]) f
 | .args m g h => uniF f L (pairsOf m g h):=by
 simp only [uniF]
 cases stepU L (walkN L a) (walkN L b) with
 | fail => rfl
 | bind n t => exact uniF_nil _ _
 | args m g h => simp
theorem stepU_vv {L:Bs} {na nb:Int} {sa sb:ByteArray} {ma mb:Nat} {fa fb:Nat→T}:stepU L (.mk 1 na sa ma fa) (.mk 1 nb sb mb fb)=if na=nb then .args 0 fa fb else if na < nb then .bind nb (.mk 1 na sa ma fa) else .bind na (.mk 1 nb sb mb fb):=by
 simp [stepU]
theorem stepU_v_no {L:Bs} {ka kb na nb:Int} {sa sb:ByteArray} {ma mb:Nat} {fa fb:Nat→T} (ha:ka=1) (hb:kb≠1) (hr:¬ Reach L na (.mk kb nb sb mb fb)):stepU L (.mk ka na sa ma fa) (.mk kb nb sb mb fb)=.bind na (.mk kb nb sb mb fb):=by
 simp [stepU,ha,hb,hr]
theorem stepU_v_yes {L:Bs} {ka kb na nb:Int} {sa sb:ByteArray} {ma mb:Nat} {fa fb:Nat→T} (ha:ka=1) (hb:kb≠1) (hr:Reach L na (.mk kb nb sb mb fb)):stepU L (.mk ka na sa ma fa) (.mk kb nb sb mb fb)=.fail:=by
 simp [stepU,ha,hb,hr]
theorem stepU_w_no {L:Bs} {ka kb na nb:Int} {sa sb:ByteArray} {ma mb:Nat} {fa fb:Nat→T} (ha:ka≠1) (hb:kb=1) (hr:¬ Reach L nb (.mk ka na sa ma fa)):stepU L (.mk ka na sa ma fa) (.mk kb nb sb mb fb)=.bind nb (.mk ka na sa ma fa):=by
 simp [stepU,ha,hb,hr]
theorem stepU_w_yes {L:Bs} {ka kb na nb:Int} {sa sb:ByteArray} {ma mb:Nat} {fa fb:Nat→T} (ha:ka≠1) (hb:kb=1) (hr:Reach L nb (.mk ka na sa ma fa)):stepU L (.mk ka na sa ma fa) (.mk kb nb sb mb fb)=.fail:=by
 simp [stepU,ha,hb,hr]
theorem stepU_no {L:Bs} {ka kb na nb:Int} {sa sb:ByteArray} {ma mb:Nat} {fa fb:Nat→T} (ha:ka≠1) (hb:kb≠1) (h:ka≠kb∨(ka=2∧na≠nb)∨sa≠sb∨ma≠mb):stepU L (.mk ka na sa ma fa) (.mk kb nb sb mb fb)=.fail:=by
 simp only [stepU,if_neg ha,if_neg hb,if_pos h]
theorem stepU_yes {L:Bs} {ka kb na nb:Int} {sa sb:ByteArray} {ma mb:Nat} {fa fb:Nat→T} (ha:ka≠1) (hb:kb≠1) (h1:ka=kb) (h2:ka=2→na=nb) (h3:sa=sb) (h4:ma=mb):stepU L (.mk ka na sa ma fa) (.mk kb nb sb mb fb)=.args ma fa fb:=by
 have h:¬ (ka≠kb∨(ka=2∧na≠nb)∨sa≠sb∨ma≠mb):=by
  rintro (h | ⟨h,h'⟩ | h | h)
  ·exact h h1
  ·exact h' (h2 h)
  ·exact h h3
  ·exact h h4
 simp only [stepU,if_neg ha,if_neg hb,if_neg h]
theorem bytes_eq {a b:ByteArray} (h:a.toList=b.toList):a=b:=by
 rw [ByteArray.toList_eq,ByteArray.toList_eq] at h
 exact ByteArray.ext (Array.ext' h)
def FailB (ka na:Int) (sa:ByteArray) (ma:Nat) (kb nb:Int) (sb:ByteArray) (mb:Nat) (bb:Bool):Prop:=
 (bb=true→ka≠kb∨(ka=2∧na≠nb)∨sa≠sb∨ma≠mb)∧(bb=false→ka=kb∧(ka=2→na=nb)∧sa=sb∧ma=mb)
theorem TP.shape {w:World} {S:Nat→Prop} {t:T} {k n:Int} {s:ByteArray} {A:Option Addr} {m c:Nat} (h:TP w S t (.agg #[.int .i64 k,.int .i64 n,.string s,.slice A m c])):∃ a,t=.mk k n s m a:=by
 cases t with
 | nil => exact h.elim
 | mk ku nu su mu au =>
  obtain ⟨a0,a1,a2,rfl,_,_,_⟩:=h.args
  injection a0 with _ a0
  injection a1 with _ a1
  injection a2 with a2
  subst a0;subst a1;subst a2
  exact ⟨au,rfl⟩
end Go.Proofs.YtdgpmpccfjmmcaaGreatDoor
namespace Go.Proofs.YtdgpmpccfjmmcaaGreatDoor
open Go.RowKit
theorem backC_append (C:List CV) (X Y:List (CV × Nat)):backC C (X++Y)=backC (backC C Y) X:=by
 unfold backC;rw [List.foldr_append]
structure Grew (C C':List CV) (R R':List (CV × Nat)) (Ns:Bs):Prop where
 ex:∃ R2,R'=R++R2∧backC C' R2=C∧R2.map (fun e => (e.2:Int))=Ns.map Prod.fst∧∀ e ∈ R2,e.2 < C.length
 len:C'.length=C.length
 at_:∀ (i:Nat) (c':CV),C'[i]? =some c'→∃ c:CV,C[i]? =some c∧c'.attr=c.attr
theorem Grew.refl (C:List CV) (R:List (CV × Nat)):Grew C C R R []:=⟨⟨[],by simp,rfl,rfl,fun _ h => by cases h⟩,rfl,fun i c h => ⟨c,h,rfl⟩⟩
theorem Grew.trans {C C1 C2:List CV} {R R1 R2:List (CV × Nat)} {N1 N2:Bs} (h:Grew C C1 R R1 N1) (k:Grew C1 C2 R1 R2 N2):Grew C C2 R R2 (N1++N2):=by
 obtain ⟨X,rfl,hX,hXn,hXi⟩:=h.ex
 obtain ⟨Y,rfl,hY,hYn,hYi⟩:=k.ex
 refine ⟨⟨X++Y,by simp,by rw [backC_append,hY,hX],by simp [hXn,hYn],fun e he => ?_⟩,k.len.trans h.len,fun i c hc => ?_⟩
 ·rcases List.mem_append.mp he with he | he
  ·exact hXi e he
  ·have:=hYi e he;rw [h.len] at this;exact this
 ·obtain ⟨c1,h1,e1⟩:=k.at_ i c hc
  obtain ⟨c2,h2,e2⟩:=h.at_ i c1 h1
  exact ⟨c2,h2,e1.trans e2⟩
theorem Grew.bind {C:List CV} {R:List (CV × Nat)} {n:Nat} {c:CV} (hc:C[n]? =some c) (tv:TV) (t:T):Grew C (C.set n ⟨true,tv,c.attr⟩) R (R++[(c,n)]) [((n:Int),t)]:=by
 have hn:=lt_of_at hc
 refine ⟨⟨[(c,n)],rfl,?_,rfl,fun e he => by simp at he;subst he;exact hn⟩,by simp,fun i c' h => ?_⟩
 ·show (C.set n _).set n c=C
  rw [List.set_set]
  apply List.ext_getElem?
  intro j
  rw [List.getElem?_set]
  by_cases e:n=j
  ·subst e;rw [if_pos rfl,if_pos hn];exact hc.symm
  ·simp [e]
 ·rw [List.getElem?_set] at h
  by_cases e:n=i
  ·subst e
   simp [hn] at h
   subst h
   exact ⟨c,hc,rfl⟩
  ·simp [e] at h
   exact ⟨c',h,rfl⟩
theorem Grew.trail {C C':List CV} {R R':List (CV × Nat)} {N:Bs} (h:Grew C C' R R' N):R'.length=R.length+N.length:=by
 obtain ⟨X,rfl,_,hX,_⟩:=h.ex
 have:=congrArg List.length hX
 simp at this
 simp [this]
structure SX (B lb:Nat) (w w':World):Prop where
 low:Below B w w'
 far:∀ (k:Nat) (o:Obj),k≠lb→w.heap[k]? =some o→NotSt o→w'.heap[k]? =some o
theorem SX.refl (B lb:Nat) (w:World):SX B lb w w:=⟨Below.refl _ _,fun _ _ _ h _ => h⟩
theorem SX.trans {B lb:Nat} {a b c:World} (h:SX B lb a b) (k:SX B lb b c):SX B lb a c:=⟨h.low.trans k.low,fun g o h0 h1 h2 => k.far g o h0 (h.far g o h0 h1 h2) h2⟩
theorem SX.sf {B lb:Nat} {w w':World} (h:SF B w w'):SX B lb w w':=⟨h.low,fun k o _ h1 h2 => h.far k o h1 h2⟩
theorem SX.but {B lb:Nat} {w w':World} (h:But lb w w') (hB:B≤lb) (hs:B≤w.heap.size):SX B lb w w':=⟨h.below hB hs,fun k _ h0 h1 _ => (h.block k (heap_lt h1) h0).trans h1⟩
def IBox (w:World) (lb:Nat) (f:Int):Prop:=w.heap[lb]? =some (.cells #[.int .i64 f] 3 (0,0))
theorem notSt_of {cs:Array Value} {ty:TypeId} {f:Nat × Nat} (h:ty≠121∧ty≠220∧ty≠222∧ty≠276):NotSt (.cells cs ty f):=fun _ _ _ e => by injection e with _ e;subst e;exact h
theorem But.apart {lb:Nat} {f:Int} {w w':World} (h:But lb w w') (hb:IBox w lb f) {g:Nat} {cs:Array Value} {ty:TypeId} {m:Nat × Nat} (hg:w.heap[g]? =some (.cells cs ty m)) (hne:ty≠3):w'.heap[g]? =some (.cells cs ty m):=by
 refine (h.block g (heap_lt hg) ?_).trans hg
 rintro rfl
 rw [show w.heap[_]? =_ from hb] at hg
 injection hg with hg
 injection hg with _ hg
 exact hne hg.symm
theorem SM.butI {lb:Nat} {f:Int} {w w':World} {B sb:Nat} {C:List CV} {R:List (CV × Nat)} {M:List (Nat × Nat)} (h:SM w B sb C R M) (hb:But lb w w') (hi:IBox w lb f):SM w' B sb C R M:=
 h.keep fun _ _ _ _ hh hty => hb.apart hi hh (by rcases hty with rfl | rfl | rfl | rfl <;> decide)
theorem TP.butI {lb:Nat} {f:Int} {w w':World} {S:Nat→Prop} {t:T} {v:Value} (ht:TP w S t v) (hb:But lb w w') (hi:IBox w lb f):TP w' S t v:=
 ht.keep fun _ _ _ hS hh => ⟨hb.apart hi hh (by decide),hS⟩
theorem CL.butI {lb:Nat} {f:Int} {w w':World} {C:List CV} {L:Bs} (h:CL w C L) (hb:But lb w w') (hi:IBox w lb f):CL w' C L:=h.keep fun ht => ht.butI hb hi
theorem SX.apart {B lb:Nat} {f:Int} {w w':World} (h:SX B lb w w') (hb:IBox w lb f) {g:Nat} {cs:Array Value} {ty:TypeId} {m:Nat × Nat} (hg:w.heap[g]? =some (.cells cs ty m)) (hne:ty≠3) (hn:ty≠121∧ty≠220∧ty≠222∧ty≠276):w'.heap[g]? =some (.cells cs ty m):=by
 refine h.far g _ ?_ hg (notSt_of hn)
 rintro rfl
 rw [show w.heap[_]? =_ from hb] at hg
 injection hg with hg
 injection hg with _ hg
 exact hne hg.symm
theorem TP.sx {B lb:Nat} {f:Int} {w w':World} {S:Nat→Prop} {t:T} {v:Value} (ht:TP w S t v) (h:SX B lb w w') (hi:IBox w lb f):TP w' S t v:=
 ht.keep fun _ _ _ hS hh => ⟨h.apart hi hh (by decide) (by decide),hS⟩
theorem allV_arg {k n:Int} {s:ByteArray} {m:Nat} {a:Nat→T} {N:Int} (h:allV (.mk k n s m a) N) (hk:0 < m→k=4) {i:Nat} (hi:i < m):allV (a i) N:=fun u hu => h u (.inr ⟨hk (by omega),i,hi,hu⟩)
theorem CL.step_known {w:World} {C:List CV} {L:Bs} (h:CL w C L) {t:T} (ht:allV t (C.length:Int)):allV (stepW L t) (C.length:Int):=by
 unfold stepW
 split
 ·split
  ·rename_i n _ x hx;exact fun u hu => h.kn _ (findB_mem hx) u hu
  ·exact ht
 ·exact ht
theorem CL.walk_known {w:World} {C:List CV} {L:Bs} (h:CL w C L) {t:T} (ht:allV t (C.length:Int)):allV (walkN L t) (C.length:Int):=by
 unfold walkN
 have:∀ j,allV (walkF L j t) (C.length:Int):=by
  intro j
  induction j with
  | zero => exact ht
  | succ j ih => exact h.step_known ih
 exact this _
theorem CL.bindAt {w w':World} {C:List CV} {L:Bs} (h:CL w C L) (hk:∀ {t:T} {v:Value},TP w (fun _ => True) t v→TP w' (fun _ => True) t v) {n:Nat} {c:CV} (hc:C[n]? =some c) {t:T} (hn:findB L (n:Int)=none) (hok:EnvOk (L++[((n:Int),t)])) (hkn:allV t (C.length:Int)) {tv:TV} (a:TV)
 (htp:TP w (fun _ => True) t (.agg #[.int .i64 tv.k,.int .i64 tv.n,.string tv.s,.slice tv.A tv.m tv.c])):CL w' (C.set n ⟨true,tv,a⟩) (L++[((n:Int),t)]):=by
 have hnl:=lt_of_at hc
 refine ⟨hok,fun p hp => ?_,fun p hp v hv => ?_,fun i c' hi => ?_⟩
 ·rw [List.length_set]
  rcases List.mem_append.mp hp with hp | hp
  ·exact h.inn p hp
  ·simp at hp;subst hp;simp only;omega
 ·rw [List.length_set]
  rcases List.mem_append.mp hp with hp | hp
  ·exact h.kn p hp v hv
  ·simp at hp;subst hp;exact hkn v hv
 ·rw [List.getElem?_set] at hi
  rw [findB_append]
  by_cases e:n=i
  ·subst e
   simp [hnl] at hi
   subst hi
   rw [hn]
   exact ⟨(fun h => by simp at h),fun t' ht' => by simp at ht';subst ht';exact ⟨rfl,hk htp⟩⟩
  ·simp only [if_neg e] at hi
   have hne:¬ ((n:Int)=(i:Int)):=by omega
   have:=h.cell i c' hi
   cases hf:findB L (i:Int) with
   | none => simp only [if_neg hne];exact ⟨fun _ => this.1 hf,fun t' ht' => by cases ht'⟩
   | some x => exact ⟨(fun h => by cases h),fun t' ht' => by injection ht' with ht';subst ht';exact ⟨(this.2 x hf).1,hk (this.2 x hf).2⟩⟩
theorem TP.leaf0 (w:World) (S:Nat→Prop) (k n:Int) (s:ByteArray) (a:Nat→T):TP w S (.mk k n s 0 a) (.agg #[.int .i64 k,.int .i64 n,.string s,.slice none 0 0]):=
 ⟨none,0,rfl,Nat.le_refl _,fun _ => rfl,fun h => absurd h (Nat.lt_irrefl 0)⟩
structure SameQ (r:Res) (L:Bs) (f:Nat) (w:World) (B sb lb:Nat) (C:List CV) (R:List (CV × Nat)) (M:List (Nat × Nat)) (w':World) (er f':Int) (C':List CV) (R':List (CV × Nat)) (Ns:Bs):Prop where
 sm:SM w' B sb C' R' M
 cl:CL w' C' (L++Ns)
 gr:Grew C C' R R' Ns
 fr:SX B lb w w'
 bx:IBox w' lb f'
 few:R'.length≤R.length+f
 out:(er=0∧∃ f1:Nat,f'=(f1:Int)∧r=.ok (L++Ns) f1∧R'.length+f1≤R.length+f∧f1≤f)∨(er=34∧r=.many)∨(er=80∧r=.unlike)
def SameP (r:Res) (L:Bs) (f:Nat) (w:World) (B sb lb:Nat) (C:List CV) (R:List (CV × Nat)) (M:List (Nat × Nat)) (e:Ending) (w':World):Prop:=
 ∃ (er f':Int) (C':List CV) (R':List (CV × Nat)) (Ns:Bs),e=.returned (.int .i64 er)∧SameQ r L f w B sb lb C R M w' er f' C' R' Ns
def SameC (f:Nat):Prop:=∀ (w:World) (B sb lb:Nat) (C:List CV) (R:List (CV × Nat)) (M:List (Nat × Nat)) (L:Bs) (ta tb:T) (va vb:Value),SM w B sb C R M→CL w C L→IBox w lb (f:Int)→B≤lb→f≤2000→R.length+f≤1000000→
 TP w (fun _ => True) ta va→TP w (fun _ => True) tb vb→ta.ok→tb.ok→allV ta (C.length:Int)→allV tb (C.length:Int)→
 Calls Tryz.prog 129 #[.pointer (some ⟨sb,0,none⟩),va,vb,.pointer (some ⟨lb,0,none⟩)] w fun e w' => SameP (uniF f L [(ta,tb)]) L f w B sb lb C R M e w'
end Go.Proofs.YtdgpmpccfjmmcaaGreatDoor
