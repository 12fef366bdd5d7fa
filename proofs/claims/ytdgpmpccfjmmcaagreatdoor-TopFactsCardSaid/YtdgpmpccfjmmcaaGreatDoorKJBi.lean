/- A number's digits. One run of the top:Consult of facts,then Run. The walk of TopFacts. The walk of TopFacts,whole. -/
import Derived.Test.YtdgpmpccfjmmcaaGreatDoorKJAc
import Derived.Test.YtdgpmpccfjmmcaaGreatDoorKJBh
import Derived.Test.YtdgpmpccfjmmcaaGreatDoorKOrd
set_option linter.unusedVariables false
set_option linter.unusedSimpArgs false
namespace Go.Proofs.YtdgpmpccfjmmcaaGreatDoor
open Go.RowKit
theorem digits_any (a:Int) (w:World) (ha:I64 a):Calls Tryz.prog 5 #[.int .i64 a] w fun e w' => e=.returned (.string (ba (Lib.itoa a)))∧w=w':=by
 have CP:=Lib.hid (rprint_any a w ha.1 ha.2)
 go_enter Tryz.func5,Tryz.ntmps5
 go_wp2_with fail
 refine CP.out.mono ?_
 rintro e w1 ⟨⟨t,rfl,ht⟩,rfl⟩
 obtain rfl:t=ba (Lib.itoa a):=by
  rw [← ht]
  rfl
 go_wp2_with fail
 go_ret
 exact ⟨rfl,rfl⟩
theorem limits_any (n:Int) (w:World):Calls Tryz.prog 10 #[.int .i64 n] w fun e w' => e=.returned (.agg #[.int .i64 4000,.int .i64 900,.int .i64 200,.int .i64 n])∧Below w.heap.size w w':=by
 go_enter Tryz.func10,Tryz.ntmps10
 go_wp2_with fail
 have B:=Lib.hid (show Below w.heap.size w (w.alloc (Obj.cells #[.int .i64 4000,.int .i64 900,.int .i64 200,.int .i64 n] 40)) from (Below.refl _ _).alloc (Nat.le_refl _) _)
 refine bodyPost_ret (v:=.agg #[.int .i64 4000,.int .i64 900,.int .i64 200,.int .i64 n]) (by simp [results,go_sem]) rfl ?_
 exact ⟨rfl,B.out⟩
end Go.Proofs.YtdgpmpccfjmmcaaGreatDoor
namespace Go.Proofs.YtdgpmpccfjmmcaaGreatDoor
open Go.RowKit
def Small (x:Int):Prop:=-128≤x∧x≤127
theorem itoa_small {x:Int} (h:Small x):(Lib.itoa x).length≤4:=by
 have:∀ k:Fin 256,(Lib.itoa ((k.val:Int) - 128)).length≤4:=by decide+kernel
 obtain ⟨h1,h2⟩:=h
 have:=this ⟨(x+128).toNat,by omega⟩
 rwa [show (((x+128).toNat:Int)) - 128=x by omega] at this
theorem small64 {x:Int} (h:Small x):I64 x:=⟨by have:=h.1;omega,by have:=h.2;omega⟩
def fcFrom:Nat→List Int→List Fc
 | _,[] => []
 | k,x ::l => ⟨[112],.i x,.i (k:Int)⟩ ::fcFrom (k+1) l
def fcQ (a:Int):Fc:=⟨[112],.i a,.v 0⟩
def progF (l:List Int):List Fc:=⟨[113],nobody,.i 0⟩ ::(if l=[] then [⟨[112],nobody,nobody⟩] else fcFrom 0 l)
def Fc.good (f:Fc):Prop:=f.ok∧atomP f.a=true∧atomP f.b=true∧(f.s=[112]∨f.s=[113])
theorem Fc.good.v {f:Fc} (h:f.good):vOk f.a []∧vOk f.b (nsA f.a [])∧f.ns=[]:=by
 obtain ⟨s,a,b⟩:=f
 obtain ⟨_,h1,h2,_⟩:=h
 cases a <;> cases b <;> first | exact ⟨trivial,trivial,rfl⟩ | (cases h1;done) | (cases h2;done)
theorem small_w (s:List UInt8) (h:s=[112]∨s=[113]∨s=[110,111,98,111,100,121]):smallW s:=by
 rcases h with rfl | rfl | rfl <;> exact ⟨_,_,rfl,by decide,by decide⟩
theorem nobody_at:nobody.at_:=⟨small_w _ (.inr (.inr rfl)),by decide+kernel⟩
theorem from_good:∀ (l:List Int) (k:Nat),(∀ x ∈ l,I64 x)→k+l.length≤1000→∀ f ∈ fcFrom k l,f.good
 | [],_,_,_,_,h => by cases h
 | x ::l,k,hx,hk,f,h => by
  simp only [List.length_cons] at hk
  rcases List.mem_cons.1 h with rfl | h
  ·exact ⟨⟨small_w _ (.inl rfl),hx x (List.mem_cons_self ..),show I64 (k:Int) from ⟨by omega,by omega⟩⟩,rfl,rfl,.inl rfl⟩
  ·exact from_good l (k+1) (fun y hy => hx y (List.mem_cons_of_mem _ hy)) (by omega) f h
theorem prog_good {l:List Int} (hx:∀ x ∈ l,I64 x) (hl:l.length≤1000):∀ f ∈ progF l,f.good:=fun f h => by
 unfold progF at h
 rcases List.mem_cons.1 h with rfl | h
 ·exact ⟨⟨small_w _ (.inr (.inl rfl)),nobody_at,show I64 (0:Int) from ⟨by decide,by decide⟩⟩,rfl,rfl,.inr rfl⟩
 ·split at h
  ·rw [List.mem_singleton] at h
   subst h
   exact ⟨⟨small_w _ (.inl rfl),nobody_at,nobody_at⟩,rfl,rfl,.inl rfl⟩
  ·exact from_good l 0 hx (by omega) f h
theorem good_fact {f:Fc} (h:f.good):FactX (f.x,f.ns)∧AsCl (f.x,f.ns) ⟨.c f.s [f.a,f.b],0,[]⟩:=⟨te_fact (fc_te f) h.v.2.2 h.2.2.2 h.2.1 h.2.2.1,as_cl (fc_te f) h.v.2.2 h.2.1 h.2.2.1⟩
theorem from_cls:∀ (l:List Int) (k:Nat),(fcFrom k l).map (fun f => (⟨.c f.s [f.a,f.b],0,[]⟩:Cl0))=factsFrom k l
 | [],_ => rfl
 | x ::l,k => by
  show _ ::(fcFrom (k+1) l).map _=factC x k ::factsFrom (k+1) l
  rw [from_cls l (k+1)]
  rfl
theorem prog_cls (l:List Int):(progF l).map (fun f => (⟨.c f.s [f.a,f.b],0,[]⟩:Cl0))=factsP l:=by
 unfold progF factsP
 split
 ·rfl
 ·show _ ::(fcFrom 0 l).map _=_
  rw [from_cls]
theorem from_len:∀ (l:List Int) (k:Nat),(fcFrom k l).length=l.length
 | [],_ => rfl
 | _ ::l,k => by rw [fcFrom,List.length_cons,from_len l (k+1),List.length_cons]
theorem prog_lens (l:List Int):(progF l).length≤l.length+2:=by
 unfold progF
 split
 ·simp
 ·rw [List.length_cons,from_len]
  omega
theorem from_size:∀ (l:List Int) (k:Nat),(∀ x ∈ l,Small x)→k+l.length≤100→(progX (fcFrom k l)).length≤16*l.length
 | [],_,_,_ => Nat.zero_le _
 | x ::l,k,hx,hk => by
  simp only [List.length_cons] at hk
  have h1:=from_size l (k+1) (fun y hy => hx y (List.mem_cons_of_mem _ hy)) (by omega)
  have h2:=itoa_small (hx x (List.mem_cons_self ..))
  have h3:=itoa_small (x:=(k:Int)) ⟨by omega,by omega⟩
  simp only [fcFrom,progX,Fc.tx,atX,List.length_append,List.length_cons,List.length_nil]
  omega
theorem prog_size {l:List Int} (hx:∀ x ∈ l,Small x) (hl:l.length≤30):(progX (progF l)).length≤600:=by
 unfold progF
 split
 ·decide+kernel
 ·have h1:=from_size l 0 hx (by omega)
  have h2:(progX (⟨[113],nobody,.i 0⟩ ::fcFrom 0 l)).length=14+(progX (fcFrom 0 l)).length:=by
   simp only [progX,List.length_append,List.length_cons]
   rw [show (Fc.tx ⟨[113],nobody,.i 0⟩).length=12 by decide+kernel]
   omega
  omega
theorem prog_rdas {l:List Int} (hx:∀ x ∈ l,Small x) (hl:l.length≤30):RdAs (ba (progX (progF l))) ((progF l).map fun f => (f.x,f.ns)):=
 rdas_prog (fun f hf => have h:=prog_good (fun x h => small64 (hx x h)) (by omega) f hf;⟨h.1,h.v.1,h.v.2.1⟩) (by simp [progF]) (by have:=prog_lens l;omega) (by have:=prog_size hx hl;omega)
theorem query_oneas {a:Int} (ha:Small a):OneAs (ba (fcQ a).tx) ((fcQ a).x,[ba [65]]):=
 oneas_query (f:=fcQ a) ⟨⟨small_w _ (.inl rfl),small64 ha,rfl⟩,trivial,rfl⟩ (by
  have:=itoa_small ha
  simp only [fcQ,Fc.tx,atX,List.length_append,List.length_cons,List.length_nil]
  omega)
theorem query_lq {a:Int} (ha:I64 a):(factQ a).lq:=⟨by decide+kernel,by simp,ha,show P.lq (.v 0) by simp [P.lq],trivial⟩
set_option maxRecDepth 100000 in
set_option maxHeartbeats 4000000 in
theorem toprun_any {vs:List Int} {a:Int} (hv:∀ x ∈ vs,Small x) (hl:vs.length≤30) (ha:Small a) (w:World) {mx:Int} (hmx:w.cell? ⟨2,0,none⟩=some (.int .i64 mx)) (htab:TabX w) (herr:ErrX w) (hops:TableX w) (hgo:GoalsX w) (hgl:2 < w.heap.size∧3 < w.heap.size∧0 < w.heap.size) :
 Calls Tryz.prog 6 #[.string (ba (progX (progF vs))),.string (ba (fcQ a).tx),.int .i64 40] w fun e w' => (∃ v:Value,e=.returned (.tuple #[v,.bool true])∧w'.ownsRow w.heap.size 31 2 v (hitsF a 0 vs).length ((hitsF a 0 vs).flatMap fun j:Nat => outC (j:Int)))∧Below w.heap.size w w':=by
 have h64:∀ x ∈ vs,I64 x:=fun x h => small64 (hv x h)
 have CC:=Lib.hid (fconsult_any (ba (progX (progF vs))) w (prog_rdas hv hl) (by rw [List.length_map];have:=prog_lens vs;omega) (fun k x hx => by
  rw [List.getElem?_map] at hx
  obtain ⟨f,hf,rfl⟩:=Option.map_eq_some_iff.1 hx
  exact (good_fact (prog_good h64 (by omega) f (List.mem_of_getElem? hf))).1) hmx htab herr hops hgo ⟨hgl.1,hgl.2.2⟩)
 have HMX:=Lib.hid hmx
 have HTB:=Lib.hid htab
 have HER:=Lib.hid herr
 have HOP:=Lib.hid hops
 have HGO:=Lib.hid hgo
 have HLT:=Lib.hid hgl
 have RF:=Lib.hid (run_facts vs a hl)
 have H64:=Lib.hid h64
 have HA:=Lib.hid ha
 clear hmx htab herr hops hgo hgl h64 hv ha
 go_enter Tryz.func6,Tryz.ntmps6
 go_wp2_with fail
 refine CC.out.mono ?_
 rintro e w1 ⟨⟨w0,g,LA,lc,HA',hc,us,ys,rfl,hrc,hfr,hge⟩,b1⟩
 have B1:=Lib.hid b1
 have PM1:=Lib.hid (fun s => conf_prm hrc hfr (by rw [List.length_map];have:=prog_lens vs;omega) (pr:=factsP vs) (by rw [← prog_cls,List.length_map,List.length_map]) (fun k x c hx hc => by
  rw [← prog_cls,List.getElem?_map] at hc
  rw [List.getElem?_map] at hx
  obtain ⟨f,hf,rfl⟩:=Option.map_eq_some_iff.1 hx
  rw [hf] at hc
  injection hc with hc
  subst hc
  exact (good_fact (prog_good H64.out (by omega) f (List.mem_of_getElem? hf))).2) s)
 clear hrc hfr b1 CC
 go_wp2_with fail
 refine (limits_any 40 _).mono ?_
 rintro e w2 ⟨rfl,b2⟩
 have PM2:=Lib.hid (fun s => (PM1.out s).keep (KeepT.of b2))
 have B2:=Lib.hid (B1.out.trans (b2.mono B1.out.size))
 clear b2 PM1
 have hs2:=B2.out.size
 have CR:=Lib.hid (prun_any (s:=ba (fcQ a).tx) (q:=factQ a) (fun s _ => PM2.out s) (facts_clsQ H64.out (by omega)) (facts_goals vs) ((B2.out.cell (p:=⟨2,0,none⟩) HLT.out.1).trans HMX.out) (HTB.out.below B2.out) (HER.out.below B2.out) (HOP.out.below B2.out) (fun n hn => (B2.out.cell (p:=⟨0,n,none⟩) HLT.out.2.2).trans (HGO.out n hn)) ⟨Nat.lt_of_lt_of_le HLT.out.2.1 hs2,Nat.lt_of_lt_of_le HLT.out.2.2 hs2⟩
  ⟨_,query_oneas HA.out,(fc_te (fcQ a)).teq⟩ (query_lq (small64 HA.out)) RF.out rfl)
 clear hs2
 go_wp2_with fail
 refine CR.out.mono ?_
 rintro e w3 ⟨⟨v,st,rfl,ho⟩,b3⟩
 have HO:=Lib.hid (ownsRow_more ho B2.out.size)
 have B3:=Lib.hid (B2.out.trans (b3.mono B2.out.size))
 clear ho b3 CR
 go_wp2_with fail
 go_ret2
 refine ⟨⟨v,rfl,?_⟩,B3.out⟩
 have h:=HO.out
 rw [List.length_map,List.flatMap_map] at h
 exact h
end Go.Proofs.YtdgpmpccfjmmcaaGreatDoor
namespace Go.Proofs.YtdgpmpccfjmmcaaGreatDoor
open Go.RowKit
def SIn (w:World) (S:Nat) (l:List Int) (v:Value):Prop:=∃ A c,v=.slice A l.length c∧(0 < l.length→∃ g o,A=some ⟨g,o,none⟩∧g < S∧∀ i x,l[i]? =some x→w.cell? ⟨g,o+i,none⟩=some (.int .i8 x))
def upto (l:List Int) (i:Nat):List Value:=(l.take i).map (Value.int .i64)
def IntsQ (l:List Int) (w w':World) (v:Value):Prop:=w'.ownsRow w.heap.size 3 1 v (l.take 30).length (upto l 30)
set_option maxRecDepth 100000 in
set_option maxHeartbeats 4000000 in
theorem ints_any {l:List Int} {v:Value} (w:World) (h:SIn w w.heap.size l v) (hx:∀ x ∈ l,Small x) (hlen:(l.length:Int)≤9223372036854775807):Calls Tryz.prog 4 #[v,.int .i64 30] w fun e w' => ∃ v':Value,e=.returned v'∧IntsQ l w w' v'∧Below w.heap.size w w':=by
 obtain ⟨A,c,rfl,hA⟩:=h
 obtain ⟨iI,ii1,ii2,ii3,ii4⟩:=info_parts Tryz.info_int
 have R0:=Lib.hid (show (w.alloc (Obj.cells #[] 3)).ownsRow w.heap.size 3 1 (.slice (some ⟨w.heap.size,0,none⟩) 0 0) 0 (upto l 0)∧Below w.heap.size w (w.alloc (Obj.cells #[] 3)) from
  ⟨⟨rfl,.inr ⟨w.heap.size,0,#[],rfl,Nat.le_refl _,heap_alloc_new _ _,Nat.le_refl _,by unfold maxLen;omega,rfl,rfl⟩⟩,belA (Below.refl _ _) _⟩)
 have HX:=Lib.hid hx
 have HAA:=Lib.hid hA
 clear hx hA
 go_enter Tryz.func4,Tryz.ntmps4
 go_wp2_with fail
 go_loopw [5,6] (fun r5 r6 wr => ∃ i:Nat,r6=.int .i64 (i:Int)∧i≤l.length∧i≤30∧Hid (wr.ownsRow w.heap.size 3 1 r5 i (upto l i)∧Below w.heap.size w wr)) (fun _ r6 _ => 31 - (intOf r6).toNat)
 case atStart => exact ⟨0,rfl,Nat.zero_le _,Nat.zero_le _,R0⟩
 case round =>
  clear R0
  obtain ⟨i,rfl,hil,hi30,hr⟩:=hrel
  by_cases hi:i < l.length
  ·have hi':(i:Int) < (l.length:Int):=by omega
   by_cases h30:i < 30
   ·have h30':(i:Int) < 30:=by omega
    obtain ⟨g,o,rfl,hg,hcell⟩:=HAA.out (by omega)
    have hget:=List.getElem?_eq_getElem hi
    obtain ⟨x,hxe⟩:∃ x,l[i]=x:=⟨_,rfl⟩
    rw [hxe] at hget
    have hsm:=HX.out x (by rw [← hxe];exact List.getElem_mem hi)
    have hlo: -128≤x:=hsm.1
    have hhi:x≤127:=hsm.2
    have hc:=(hr.out.2.cell (p:=⟨g,o+i,none⟩) hg).trans (hcell i x hget)
    have HT:=Lib.hid (show upto l (i+1)=upto l i++[.int .i64 x] by
     unfold upto
     rw [List.take_add_one,hget,List.map_append];rfl)
    obtain ⟨A5,c5,rfl,_⟩:=own_open hr.out.1
    have hsz:=hr.out.2.size
    clear hget hxe hsm hcell
    go_wp2_with (at_builtin;go_must (refine wpList_append_lies _ rfl _ _ _ rfl w.heap.size 3 iI (.int .i64 0) 1 8 Tryz.underlying24 ii1 ii2 ii3 ii4 rfl (by omega) _ i _ rfl (own_below hr.out.1 ((Below.refl _ _).alloc (Nat.le_refl _) _)) ⟨wr.heap.size,0,none⟩ 1 1 [.int .i64 x] rfl rfl ?_ ?_ (by omega) (by unfold maxLen;omega) (by omega) (by simp;omega) _ rfl ?_))
    ·intro k u hu
     rw [show (⟨wr.heap.size,0,none⟩:Addr).add k=⟨wr.heap.size,k,none⟩ by unfold Addr.add;split <;> simp_all]
     rw [cell_of_row _ _ k _ _ _ (heap_alloc_new _ _)]
     simpa using hu
    ·intro u hu
     simp only [List.mem_cons,List.not_mem_nil,or_false] at hu
     subst hu
     rfl
    intro g1 cap1 w5 hown1 hg1 hat _
    have RR:=Lib.hid (show w5.ownsRow w.heap.size 3 1 (.slice (some ⟨g1,0,none⟩) (i+1) cap1) (i+1) (upto l (i+1))∧Below w.heap.size w w5 from
     ⟨by rw [HT.out];exact hown1,((belA hr.out.2 _).grown hg1 (by simp;omega) fun k hk => (hr.out.1.lt k hk).1)⟩)
    clear hown1 hg1 hat
    go_wp2_with fail
    go_roundw
    case rel => exact ⟨i+1,rfl,by omega,by omega,RR⟩
    case measure => simp [intOf];omega
   ·have h30':¬ (i:Int) < 30:=by omega
    obtain rfl:i=30:=by omega
    go_wp2_with fail
    go_ret
    exact ⟨_,rfl,(show wr.ownsRow _ _ _ _ _ _ by rw [List.length_take,Nat.min_eq_left (by omega)];exact hr.out.1),hr.out.2⟩
  ·have hi':¬ (i:Int) < (l.length:Int):=by omega
   obtain rfl:i=l.length:=by omega
   go_wp2_with fail
   go_ret
   refine ⟨_,rfl,?_,hr.out.2⟩
   have h:=hr.out.1
   unfold IntsQ
   rw [List.take_of_length_le (by omega),show upto l 30=upto l l.length by unfold upto;rw [List.take_length,List.take_of_length_le (by omega)]]
   exact h
theorem progX_app:∀ (r s:List Fc),progX (r++s)=progX r++progX s
 | [],_ => rfl
 | f ::r,s => by
  show f.tx++46 ::32 ::progX (r++s)=(f.tx++46 ::32 ::progX r)++progX s
  rw [progX_app r s]
  simp
theorem from_app:∀ (l r:List Int) (k:Nat),fcFrom k (l++r)=fcFrom k l++fcFrom (k+l.length) r
 | [],_,_ => rfl
 | x ::l,r,k => by
  show _ ::fcFrom (k+1) (l++r)=_ ::fcFrom (k+1) l++_
  rw [from_app l r (k+1),List.length_cons,show k+1+l.length=k+(l.length+1) by omega]
  rfl
theorem hits_app (a:Int):∀ (l r:List Int) (k:Nat),hitsF a k (l++r)=hitsF a k l++hitsF a (k+l.length) r
 | [],_,_ => rfl
 | x ::l,r,k => by
  simp only [List.cons_append,hitsF,List.length_cons,hits_app a l r (k+1),show k+1+l.length=k+(l.length+1) by omega]
  split <;> rfl
def upX (l:List Int):ByteArray:=ba (progX (⟨[113],nobody,.i 0⟩ ::fcFrom 0 l))
theorem ba_app (a b:List UInt8):ba (a++b)=ba a++ba b:=by
 apply ByteArray.ext
 apply Array.toList_inj.1
 simp [ba]
theorem up_snoc {l:List Int} {x:Int}:upX (l++[x])=((((upX l++⟨#[112,40]⟩)++ba (Lib.itoa x))++⟨#[44,32]⟩)++ba (Lib.itoa (l.length:Int)))++⟨#[41,46,32]⟩:=by
 unfold upX
 rw [from_app,← List.cons_append,progX_app,ba_app,Nat.zero_add]
 rw [show progX (fcFrom l.length [x])=((([112,40]++Lib.itoa x)++[44,32])++Lib.itoa (l.length:Int))++[41,46,32] by simp [fcFrom,progX,Fc.tx,atX]]
 rw [ba_app,ba_app,ba_app,ba_app]
 simp only [ByteArray.append_assoc]
 rfl
theorem up_prog {l:List Int} (h:l≠[]):upX l=ba (progX (progF l)):=by
 unfold upX progF
 rw [if_neg h]
theorem up_none:upX []++⟨#[112,40,110,111,98,111,100,121,44,32,110,111,98,111,100,121,41,46,32]⟩=ba (progX (progF [])):=by
 decide+kernel
theorem q_text {a:Int}:(⟨#[112,40]⟩++ba (Lib.itoa a))++⟨#[44,32,65,41]⟩=ba (fcQ a).tx:=by
 rw [show (fcQ a).tx=([112,40]++Lib.itoa a)++[44,32,65,41] by simp [fcQ,Fc.tx,atX],ba_app,ba_app]
 rfl
theorem ba_size (l:List UInt8):(ba l).size=l.length:=by rw [← len_u,ba_data]
theorem up_size {l:List Int} (h:∀ x ∈ l,Small x) (hl:l.length≤30):(upX l).size≤600:=by
 unfold upX
 rw [ba_size]
 have h1:=from_size l 0 h (by omega)
 have h2:(progX (⟨[113],nobody,.i 0⟩ ::fcFrom 0 l)).length=14+(progX (fcFrom 0 l)).length:=by
  simp only [progX,List.length_append,List.length_cons]
  rw [show (Fc.tx ⟨[113],nobody,.i 0⟩).length=12 by decide+kernel]
  omega
 omega
theorem outs_at {l:List Nat} {i:Nat} {j:Nat} (h:l[i]? =some j):(l.flatMap fun j:Nat => outC (j:Int))[i*2]? =some (.int .i64 1)∧(l.flatMap fun j:Nat => outC (j:Int))[i*2+1]? =some (.string (outS (j:Int))):=by
 induction l generalizing i with
 | nil => simp at h
 | cons y l ih =>
  rw [List.flatMap_cons]
  cases i with
  | zero =>
   simp at h
   subst h
   exact ⟨rfl,rfl⟩
  | succ i =>
   simp at h
   have e:∀ k,(outC (y:Int)++l.flatMap fun j:Nat => outC (j:Int))[(i+1)*2+k]? =(l.flatMap fun j:Nat => outC (j:Int))[i*2+k]?:=fun k => by
    rw [List.getElem?_append_right (by simp [outC];omega)]
    congr 1
    simp [outC]
    omega
   exact ⟨(e 0).trans (ih h).1,(e 1).trans (ih h).2⟩
end Go.Proofs.YtdgpmpccfjmmcaaGreatDoor
namespace Go.Proofs.YtdgpmpccfjmmcaaGreatDoor
open Go.RowKit
set_option maxRecDepth 100000 in
set_option maxHeartbeats 8000000 in
theorem topfacts_any {l:List Int} {v:Value} {a:Int} (w:World) (h:SIn w w.heap.size l v) (hx:∀ x ∈ l,Small x) (hlen:(l.length:Int)≤9223372036854775807) (ha:Small a) {mx:Int} (hmx:w.cell? ⟨2,0,none⟩=some (.int .i64 mx)) (htab:TabX w) (herr:ErrX w) (hops:TableX w) (hgo:GoalsX w)
 (hgl:2 < w.heap.size∧3 < w.heap.size∧0 < w.heap.size):Calls Tryz.prog 3 #[v,.int .i8 a] w fun e w' => e=.returned (.bool true)∧Below w.heap.size w w':=by
 have CI:=Lib.hid (ints_any w h hx hlen)
 obtain ⟨vs,hvs⟩:∃ vs,l.take 30=vs:=⟨_,rfl⟩
 have hvl:vs.length≤30:=by rw [← hvs,List.length_take];omega
 have HVS:=Lib.hid (show ∀ x ∈ vs,Small x from fun x hm => hx x (by rw [← hvs] at hm;exact List.mem_of_mem_take hm))
 have CR:=Lib.hid (fun (W:World) (hb:Below w.heap.size w W) => toprun_any (vs:=vs) (a:=a) HVS.out hvl ha W ((hb.cell (p:=⟨2,0,none⟩) hgl.1).trans hmx) (htab.below hb) (herr.below hb) (hops.below hb) (fun n hn => (hb.cell (p:=⟨0,n,none⟩) hgl.2.2).trans (hgo n hn)) ⟨Nat.lt_of_lt_of_le hgl.1 hb.size,Nat.lt_of_lt_of_le hgl.2.1 hb.size,Nat.lt_of_lt_of_le hgl.2.2 hb.size⟩)
 have halo: -128≤a:=ha.1
 have hahi:a≤127:=ha.2
 have CD:=Lib.hid (fun (x:Int) (W:World) (hx:I64 x) => digits_any x W hx)
 have QT:=Lib.hid (q_text (a:=a))
 have HVE:=Lib.hid hvs
 clear h hx hlen ha hmx htab herr hops hgo hgl hvs
 go_enter Tryz.func3,Tryz.ntmps3
 go_wp2_with fail
 refine CI.out.mono ?_
 rintro e w1 ⟨v5,rfl,ho,hb⟩
 have HO:=Lib.hid (show w1.ownsRow w.heap.size 3 1 v5 vs.length (vs.map (Value.int .i64)) by
  have h:=ho
  unfold IntsQ upto at h
  rw [HVE.out] at h
  exact h)
 have B1:=Lib.hid hb
 obtain ⟨A5,c5,rfl,hc5,_,_,hx5⟩:=own_open HO.out
 have HX5:=Lib.hid hx5
 clear ho hb CI hx5
 have U0:=Lib.hid (show (⟨#[113,40,110,111,98,111,100,121,44,32,48,41,46,32]⟩:ByteArray)=upX (vs.take 0) by rw [List.take_zero];decide+kernel)
 go_wp2_with fail
 go_loopw [6,7] (fun r6 r7 wr => ∃ (i:Nat) (P:ByteArray),r6=.string P∧r7=.int .i64 (i:Int)∧i≤vs.length∧P.size≤600∧Hid (P=upX (vs.take i))∧w1=wr) (fun _ r7 _ => 31 - (intOf r7).toNat)
 case atStart => exact ⟨0,_,rfl,rfl,Nat.zero_le _,by decide,U0,rfl⟩
 case round =>
  clear U0
  obtain ⟨i,P,rfl,rfl,hi,hP,HP,rfl⟩:=hrel
  by_cases hlt:i < vs.length
  ·have hlt':(i:Int) < (vs.length:Int):=by omega
   obtain ⟨g,cur,rfl,_,hh,hcur⟩:=HX5.out (by omega)
   have hget:=List.getElem?_eq_getElem hlt
   obtain ⟨x,hxe⟩:∃ x,vs[i]=x:=⟨_,rfl⟩
   rw [hxe] at hget
   have hsm:=HVS.out x (by rw [← hxe];exact List.getElem_mem hlt)
   have hc:w1.cell? ⟨g,i,none⟩=some (.int .i64 x):=by
    rw [cell_of_row _ g i _ _ _ hh,hcur i (by omega),List.getElem?_map,hget]
    rfl
   have D1:=Lib.hid (CD.out x w1 (small64 hsm))
   have D2:=Lib.hid (CD.out (i:Int) w1 ⟨by omega,by omega⟩)
   obtain ⟨X1,hX1⟩:∃ X1,ba (Lib.itoa x)=X1:=⟨_,rfl⟩
   obtain ⟨X2,hX2⟩:∃ X2,ba (Lib.itoa (i:Int))=X2:=⟨_,rfl⟩
   have hs1:X1.size≤4:=by rw [← hX1,ba_size];exact itoa_small hsm
   have hs2:X2.size≤4:=by rw [← hX2,ba_size];exact itoa_small ⟨by omega,by omega⟩
   have HT:=Lib.hid (show ((((P++⟨#[112,40]⟩)++X1)++⟨#[44,32]⟩)++X2)++⟨#[41,46,32]⟩=upX (vs.take (i+1)) by
    rw [List.take_add_one,hget,HP.out,← hX1,← hX2]
    have:=up_snoc (l:=vs.take i) (x:=x)
    rw [List.length_take,Nat.min_eq_left (by omega)] at this
    exact this.symm)
   have HS:=Lib.hid (show (upX (vs.take (i+1))).size≤600 from up_size (fun y hy => HVS.out y (List.mem_of_mem_take hy)) (by rw [List.length_take];omega))
   rw [hX1] at D1
   rw [hX2] at D2
   clear hget hxe hsm hX1 hX2 hcur
   go_wp2_with fail
   refine D1.out.mono ?_
   rintro e w2 ⟨rfl,rfl⟩
   go_wp2_with fail
   refine D2.out.mono ?_
   rintro e w2 ⟨rfl,rfl⟩
   go_wp2_with fail
   go_roundw
   case rel => exact ⟨i+1,_,rfl,rfl,by omega,by rw [HT.out];exact HS.out,HT,trivial⟩
   case measure => simp [intOf];omega
  ·have hlt':¬ (i:Int) < (vs.length:Int):=by omega
   obtain rfl:i=vs.length:=by omega
   have D3:=Lib.hid (CD.out a w1 ⟨by omega,by omega⟩)
   obtain ⟨X3,hX3⟩:∃ X3,ba (Lib.itoa a)=X3:=⟨_,rfl⟩
   have hs3:X3.size≤4:=by rw [← hX3,ba_size];exact itoa_small ⟨halo,hahi⟩
   have HQ:=Lib.hid (show (⟨#[112,40]⟩++X3)++⟨#[44,32,65,41]⟩=ba (fcQ a).tx by rw [← hX3];exact QT.out)
   rw [hX3] at D3
   clear hX3
   obtain ⟨KK,hKK⟩:∃ KK,(hitsF a 0 vs).length=KK:=⟨_,rfl⟩
   obtain ⟨OC,hOC⟩:∃ OC,((hitsF a 0 vs).flatMap fun j:Nat => outC (j:Int))=OC:=⟨_,rfl⟩
   have CR1:=Lib.hid (CR.out w1 B1.out)
   rw [hKK,hOC,← HQ.out] at CR1
   have HKK:=Lib.hid hKK
   have HOC:=Lib.hid hOC
   clear hKK hOC CR
   go_upto_if 35 with fail
   go_cut [6] (fun s6 wx => ∃ PP:ByteArray,s6=.string PP∧PP.size≤600∧Hid (PP=ba (progX (progF vs)))∧w1=wx)
   case first =>
    by_cases h0:vs.length=0
    ·have h0':((vs.length:Int) == 0)=true:=by simp [h0]
     have HE:=Lib.hid (show P++⟨#[112,40,110,111,98,111,100,121,44,32,110,111,98,111,100,121,41,46,32]⟩=ba (progX (progF vs)) by
      have h9:vs=[]:=List.length_eq_zero_iff.1 h0
      rw [HP.out,h9,List.take_nil]
      exact up_none)
     have HS:=Lib.hid (show (ba (progX (progF vs))).size≤600 by rw [ba_size];exact prog_size HVS.out hvl)
     clear h0
     go_wp2_with fail
     go_meet
     exact ⟨_,rfl,by rw [HE.out];exact HS.out,HE,rfl⟩
    ·have h0':((vs.length:Int) == 0)=false:=by rw [beq_eq_false_iff_ne];omega
     have HE:=Lib.hid (show P=ba (progX (progF vs)) by
      rw [HP.out,List.take_length]
      exact up_prog fun e => h0 (by rw [e];rfl))
     clear h0
     go_wp2_with fail
     go_meet
     exact ⟨_,rfl,hP,HE,rfl⟩
   case rest =>
    obtain ⟨PP,rfl,hPP,HPP,rfl⟩:=hcut
    rw [← HPP.out] at CR1
    go_wp2_with fail
    refine D3.out.mono ?_
    rintro e w2 ⟨rfl,rfl⟩
    go_wp2_with fail
    refine CR1.out.mono ?_
    rintro e w3 ⟨⟨v8,rfl,ho8⟩,b3⟩
    obtain ⟨A8,c8,rfl,hc8,_,_,hx8⟩:=own_open ho8
    have HX8:=Lib.hid hx8
    have B13:=Lib.hid b3
    have B3:=Lib.hid (B1.out.trans (b3.mono B1.out.size))
    clear ho8 hx8 b3 CR1
    go_wp2_with fail
    go_loopw [10,11] (fun r10 r11 wr => ∃ i n:Nat,r10=.int .i64 (n:Int)∧r11=.int .i64 (i:Int)∧i≤vs.length∧n≤i∧Hid (n=(hitsF a 0 (vs.take i)).length)∧Below w3.heap.size w3 wr) (fun _ r11 _ => 31 - (intOf r11).toNat)
    case atStart => exact ⟨0,0,rfl,rfl,Nat.zero_le _,Nat.le_refl _,Lib.hid rfl,Below.refl _ _⟩
    case round =>
     obtain ⟨i,n,rfl,rfl,hi,hn,HN,hbw⟩:=hrel
     have BW:=Lib.hid hbw
     clear hbw
     by_cases hlt:i < vs.length
     ·have hlt':(i:Int) < (vs.length:Int):=by omega
      obtain ⟨g,cur,rfl,_,hh,hcur⟩:=HX5.out (by omega)
      have hget:=List.getElem?_eq_getElem hlt
      obtain ⟨x,hxe⟩:∃ x,vs[i]=x:=⟨_,rfl⟩
      rw [hxe] at hget
      have hg1:=heap_lt hh
      have hc1:w1.cell? ⟨g,i,none⟩=some (.int .i64 x):=by
       rw [cell_of_row _ g i _ _ _ hh,hcur i (by omega),List.getElem?_map,hget]
       rfl
      have hc:=(BW.out.cell (p:=⟨g,i,none⟩) (Nat.lt_of_lt_of_le hg1 B13.out.size)).trans ((B13.out.cell (p:=⟨g,i,none⟩) hg1).trans hc1)
      have HT:=Lib.hid (show hitsF a 0 (vs.take (i+1))=hitsF a 0 (vs.take i)++(if x=a then [i] else []) by
       rw [List.take_add_one,hget]
       show hitsF a 0 (vs.take i++[x])=_
       rw [hits_app,List.length_take,Nat.min_eq_left (by omega),Nat.zero_add]
       rfl)
      have HR:=Lib.hid (show hitsF a 0 vs=hitsF a 0 (vs.take (i+1))++hitsF a (i+1) (vs.drop (i+1)) by
       conv => lhs;rw [← List.take_append_drop (i+1) vs]
       rw [hits_app,List.length_take,Nat.min_eq_left (by omega),Nat.zero_add])
      clear hget hxe hcur hh hc1 hg1
      cases hxa:(x == a) with
      | false =>
       have HN2:=Lib.hid (show n=(hitsF a 0 (vs.take (i+1))).length by
        rw [HT.out,if_neg (by simpa using hxa),List.append_nil]
        exact HN.out)
       go_wp2_with fail
       go_roundw
       case rel => exact ⟨i+1,n,rfl,rfl,by omega,by omega,HN2,BW.out⟩
       case measure => simp [intOf];omega
      | true =>
       have hat:(hitsF a 0 vs)[n]? =some i:=by
        rw [HR.out,HT.out,if_pos (by simpa using hxa),HN.out]
        simp
       have HN2:=Lib.hid (show n+1=(hitsF a 0 (vs.take (i+1))).length by
        rw [HT.out,if_pos (by simpa using hxa),List.length_append,← HN.out]
        rfl)
       have hnK:n < KK:=by rw [← HKK.out];exact (List.getElem?_eq_some_iff.1 hat).1
       have hnK':¬ ((n:Int)≥(KK:Int)):=by omega
       obtain ⟨o0,o1⟩:=outs_at hat
       rw [HOC.out] at o0 o1
       obtain ⟨g8,cur8,rfl,_,hh8,hcur8⟩:=HX8.out (by omega)
       have hg8:=heap_lt hh8
       have c0:=(BW.out.cell (p:=⟨g8,n*2,none⟩) hg8).trans ((cell_of_row _ g8 (n*2) _ _ _ hh8).trans ((hcur8 _ (by omega)).trans o0))
       have c1:=(BW.out.cell (p:=⟨g8,n*2+1,none⟩) hg8).trans ((cell_of_row _ g8 (n*2+1) _ _ _ hh8).trans ((hcur8 _ (by omega)).trans o1))
       obtain ⟨X4,hX4⟩:∃ X4,ba (Lib.itoa (i:Int))=X4:=⟨_,rfl⟩
       have hs4:X4.size≤4:=by rw [← hX4,ba_size];exact itoa_small ⟨by omega,by omega⟩
       have D4:=Lib.hid (fun W => CD.out (i:Int) W ⟨by omega,by omega⟩)
       rw [hX4] at D4
       rw [show outS (i:Int)=⟨#[65,32,61,32]⟩++X4 by unfold outS;rw [ba_app,hX4];rfl] at c1
       clear o0 o1 hat hh8 hcur8 hX4 hc8
       go_wp2_with fail
       refine wp_region_held_drew (S:=fun u => u.cell? ⟨g8,n*2,none⟩=some (.int .i64 1)∧u.cell? ⟨g8,n*2+1,none⟩=some (.string (⟨#[65,32,61,32]⟩++X4))∧True∧True∧True∧True∧True) (by kernel_rfl) ?S0 (fun hH0 => ?_)
       case S0 => exact ⟨c0,c1,trivial,trivial,trivial,trivial,trivial⟩
       refine tkH 0 ?_
       try simp only [opD,Act.put,sA,sB,sC]
       refine tkH 1 ?_
       try simp only [opD,Act.put,sA,sB,sC]
       refine tkH 2 ?_
       try simp only [opD,Act.put,sA,sB,sC]
       refine tkH 3 (v:=.bool false) ?_ (hy:=?h3)
       case h3 => (intro w hSw;simp only [opD];go_simp;try simp;try omega)
       try simp only [opD,Act.put,sA,sB,sC]
       refine tkH 4 ?_
       try simp only [opD,Act.put,sA,sB,sC]
       refine tkH 5 ?_
       try simp only [opD,Act.put,sA,sB,sC]
       refine tkH 6 ?_
       try simp only [opD,Act.put,sA,sB,sC]
       refine tkH 7 ?_
       try simp only [opD,Act.put,sA,sB,sC]
       refine tkH 8 ?_
       try simp only [opD,Act.put,sA,sB,sC]
       refine tkH 9 ?_
       try simp only [opD,Act.put,sA,sB,sC]
       refine tkH 10 ?_
       try simp only [opD,Act.put,sA,sB,sC]
       refine tkH 11 ?_
       try simp only [opD,Act.put,sA,sB,sC]
       refine tkH 12 ?_
       try simp only [opD,Act.put,sA,sB,sC]
       refine tkH 13 ?_
       try simp only [opD,Act.put,sA,sB,sC]
       refine tkH 14 ?_
       try simp only [opD,Act.put,sA,sB,sC]
       refine tkH 15 ?_
       try simp only [opD,Act.put,sA,sB,sC]
       refine tkH 16 ?_
       try simp only [opD,Act.put,sA,sB,sC]
       refine tkH 17 ?_
       try simp only [opD,Act.put,sA,sB,sC]
       refine tkH 18 ?_
       try simp only [opD,Act.put,sA,sB,sC]
       refine wpAnyH_ready (rs:=[19]) (by kernel_rfl) (by simp) ?_
       refine rdH (fun K hK => ?_) AllReadyH.nil
       go_simp
       refine (D4.out _).mono ?_
       rintro e w9 ⟨rfl,rfl⟩
       go_wp2_with fail
       refine hK.out _ _ hH0 (fun hH1 => ?_)
       clear hK K
       try simp only [Act.put,sA,sB,sC]
       refine tkH 20 (v:=.string (⟨#[65,32,61,32]⟩++X4)) ?_ (hy:=?h20)
       case h20 => (intro w hSw;simp only [opD];go_simp;omega)
       try simp only [opD,Act.put,sA,sB,sC]
       refine tkH 21 ?_
       try simp only [opD,Act.put,sA,sB,sC]
       refine tkH 22 ?_
       try simp only [opD,Act.put,sA,sB,sC]
       refine wpAnyH_done (by kernel_rfl) ?_ _
       have BD:=Lib.hid (BW.out.drew)
       go_wp2_with fail
       go_roundw
       case rel => exact ⟨i+1,n+1,rfl,rfl,by omega,by omega,HN2,BD.out⟩
       case measure => simp [intOf];omega
     ·have hlt':¬ (i:Int) < (vs.length:Int):=by omega
      obtain rfl:i=vs.length:=by omega
      obtain rfl:n=KK:=by
       have h9:=HN.out
       rw [List.take_length] at h9
       rw [h9]
       exact HKK.out
      go_wp2_with fail
      go_ret
      exact ⟨rfl,B3.out.trans (BW.out.mono B3.out.size)⟩
end Go.Proofs.YtdgpmpccfjmmcaaGreatDoor
