/- The program's parser on texts of facts:rows of terms;what begins with an atom. The program's parser on texts of facts:an operand;a term. The program's parser:a term. The program's parser:a term at any depth;a sentence. -/
import Derived.Test.YtdgpmpccfjmmcaaGreatDoorKJAw
import Derived.Test.YtdgpmpccfjmmcaaGreatDoorKOrd
set_option linter.unusedVariables false
set_option linter.unusedSimpArgs false
namespace Go.Proofs.YtdgpmpccfjmmcaaGreatDoor
open Go.RowKit
def TermS (c:Rdc) (D:Nat) (most:Int) (i:Nat) (ns:List ByteArray) (t:T) (j:Nat) (ns':List ByteArray):Prop:=∀ w,Pd w c i ns→Ev c w→
 Calls Tryz.prog 70 #[.pointer (some ⟨c.R,0,none⟩),.int .i64 most,.int .i64 (D:Int)] w fun e w' => PQ c w i (.ok (t,j,ns')) (RelT w i) e w'
inductive RowS (c:Rdc) (D:Nat) (lf:List T) (jf:Nat) (nf:List ByteArray):List T→Nat→List ByteArray→Prop
 | stop:isM c.tk c.s.size jf ⟨#[44]⟩=false→RowS c D lf jf nf lf jf nf
 | go {l:List T} {j:Nat} {ns:List ByteArray} (t:T) (j':Nat) (ns':List ByteArray):isM c.tk c.s.size j ⟨#[44]⟩=true→TermS c (D+1) 999 (j+1) ns t j' ns'→RowS c D lf jf nf (l++[t]) j' ns'→RowS c D lf jf nf l j ns
set_option maxRecDepth 100000 in
set_option maxHeartbeats 4000000 in
theorem zrow_any {c:Rdc} {D:Nat} (hD:D≤64) {i j1 jf:Nat} {ns ns1 nf:List ByteArray} {t1:T} {lf:List T} (h1:TermS c (D+1) 999 i ns t1 j1 ns1) (h2:RowS c D lf jf nf [t1] j1 ns1) (w:World) (h:Pd w c i ns) (hev:Ev c w) :
 Calls Tryz.prog 232 #[.pointer (some ⟨c.R,0,none⟩),.int .i64 (D:Int)] w fun e w' => PQ c w i (.ok (lf,jf,nf)) (RelRow w i) e w':=by
 have hB:=h.base
 have HE:=Lib.hid hev
 have CA:=Lib.hid (h1 w h hev)
 rw [show ((D+1:Nat):Int)=(D:Int)+1 from rfl] at CA
 have H2:=Lib.hid h2
 clear h hev h1 h2
 obtain ⟨item,hi1,hi2,hi3,hi4⟩:=elTerm.hi
 go_enter Tryz.func232,Tryz.ntmps232
 go_wp2_with fail
 refine CA.out.mono ?_
 rintro e w1 hq
 obtain ⟨f1,v,rfl,h1,hj,ht,hgood,hnod⟩:=hq.ok rfl
 obtain ⟨k0,k1,k2,A0,m0,c0,rfl⟩:=ht.agg
 have R0:PRowI c w i (.slice (some ⟨w1.heap.size,0,none⟩) 1 1) (w1.alloc (Obj.cells #[.int .i64 k0,.int .i64 k1,.string k2,.slice A0 m0 c0] 51)) j1 1 w1.heap.size 1 #[.int .i64 k0,.int .i64 k1,.string k2,.slice A0 m0 c0] (fun k => [t1].getD k .nil) ns1:=
  ⟨rfl,by omega,by omega,by unfold maxLen;omega,rfl,heap_alloc_new _ _,f1.size,fun k hk => by
   obtain rfl:k=0:=by omega
   exact ⟨_,_,_,_,rfl,rfl,rfl,rfl,(show TP w1 _ ([t1].getD 0 .nil) _ from ht).keep fun b cs f hS hb => ⟨(Below.heap_alloc _ _ _ (heap_lt hb)).trans hb,hS,by have:=heap_lt hb;omega⟩⟩,h1.alloc _,f1.newalloc hB _,hj,by omega,fun k hk => by
    obtain rfl:k=0:=by omega
    exact hgood,by
    show i+(0+t1.nodes)+(1 - 1)≤j1
    omega⟩
 have RR:=Lib.hid R0
 clear R0 h1 f1 ht hgood hnod hq CA
 go_wp2_with fail
 go_loopw [5] (fun v wr => ∃ (j:Nat) (l:List T) (g cap:Nat) (cs:Array Value) (ns':List ByteArray),PRowI c w i v wr j l.length g cap cs (fun k => l.getD k .nil) ns'∧Hid (RowS c D lf jf nf l j ns')) (fun _ wr => leftOf c wr)
 case atStart => exact ⟨_,[t1],_,_,_,_,RR.out,H2⟩
 case round =>
  clear RR H2
  obtain ⟨j,l,g,cap,cs,ns',hr,hk⟩:=hrel
  obtain ⟨n,hn⟩:∃ n,n=l.length:=⟨_,rfl⟩
  obtain ⟨ts,hts⟩:∃ ts,ts=fun k => l.getD k .nil:=⟨_,rfl⟩
  rw [← hn,← hts] at hr
  have HNL:=Lib.hid hn
  have HTS:=Lib.hid hts
  clear hn hts
  obtain rfl:=hr.hv
  have R:=Lib.hid hr
  have hfew:=hr.few
  have hlo:=hr.lo
  obtain ⟨hup,htn⟩:=hr.rd.few
  have hn0:=hr.hn
  have hcap:=hr.hcap
  clear hr
  go_wp2_with fail
  refine (pmark_any _ _ R.out.rd).mono ?_
  rintro e w2 ⟨b,rfl,hM,h2,f2,hlt⟩
  cases b with
  | false =>
   replace h2:Pd w2 c j ns':=h2
   have R2:=Lib.hid (R.out.stand f2 h2 (Nat.le_refl _))
   obtain ⟨rfl,rfl,rfl⟩:l=lf∧j=jf∧ns'=nf:=by
    cases hk.out with
    | stop _ => exact ⟨rfl,rfl,rfl⟩
    | go _ _ _ h _ _ => rw [hM] at h;cases h
   clear h2 f2 hlt hM
   go_wp2_with fail
   refine (clip_any hn0 hcap _).mono ?_
   rintro e w3 ⟨rfl,rfl⟩
   go_wp2_with fail
   go_ret
   refine ⟨R2.out.fr,_,rfl,R2.out.rd,R2.out.lo,g,cs,(0,0),by rw [← HNL.out];rfl,by rw [← HNL.out];exact hn0,by rw [← HNL.out];exact hfew,R2.out.hg,R2.out.blk,?_⟩
   rw [← HNL.out,← HTS.out]
   exact ⟨R2.out.tp,by rw [HTS.out] at R2;exact R2.out.ok.1,by rw [HTS.out] at R2;exact R2.out.ok.2⟩
  | true =>
   replace h2:Pd w2 c (j+1) ns':=h2
   have R3:=Lib.hid (R.out.stand f2 h2 (Nat.le_succ _))
   obtain ⟨t,j4,ns4,CT,KK⟩:∃ t j4 ns4,Hid (TermS c (D+1) 999 (j+1) ns' t j4 ns4)∧Hid (RowS c D lf jf nf (l++[t]) j4 ns4):=by
    cases hk.out with
    | stop h => rw [hM] at h;cases h
    | go t j4 ns4 _ h1 h2 => exact ⟨t,j4,ns4,Lib.hid h1,Lib.hid h2⟩
   have CA:=Lib.hid (CT.out w2 h2 (HE.out.fr R3.out.fr))
   rw [show ((D+1:Nat):Int)=(D:Int)+1 from rfl] at CA
   have hjlt:=hlt rfl
   clear h2 f2 hlt hM CT
   go_wp2_with fail
   refine CA.out.mono ?_
   rintro e w4 hq
   obtain ⟨f4,v1,rfl,h4,hj4,ht,hgood,hnod⟩:=hq.ok rfl
   obtain ⟨k0,k1,k2,A0,m0,c0,rfl⟩:=ht.agg
   have R4:=Lib.hid (R3.out.stand f4 h4 hj4)
   have HT:=Lib.hid (ht.keep (S':=fun b => w.heap.size≤b∧b≠g) (w':=w4) fun b cs' f' hS hb => ⟨hb,by
    have h5:=R3.out.fr.size
    have h6:=heap_lt R3.out.blk
    omega⟩)
   have HOK:=Lib.hid (show t.good∧i+(sumTo n fun k => (ts k).nodes)+n+t.nodes≤j4 from ⟨hgood,by have:=R.out.ok.2;omega⟩)
   have hsz4:=R4.out.fr.size
   clear h4 f4 ht hgood hnod hq CA
   go_wp2_with (at_builtin;go_must (refine wpList_append_lies _ rfl _ _ _ rfl w.heap.size 51 item (.agg #[.int .i64 0,.int .i64 0,.string ⟨#[]⟩,.slice none 0 0]) 4 56 Tryz.underlying47 hi1 hi2 hi3 hi4 rfl (by omega) _ n _ rfl (own_below R4.out.own ((Below.refl _ _).alloc (Nat.le_refl _) _)) ⟨w4.heap.size,0,none⟩ 1 1 [.int .i64 k0,.int .i64 k1,.string k2,.slice A0 m0 c0] rfl rfl ?_ ?_ (by omega) (by unfold maxLen;omega) (by omega) (by simp;omega) _ rfl ?_))
   ·intro k u hu
    rw [show (⟨w4.heap.size,0,none⟩:Addr).add k=⟨w4.heap.size,k,none⟩ by unfold Addr.add;split <;> simp_all]
    rw [cell_of_row _ _ k _ _ _ (heap_alloc_new _ _)]
    simpa using hu
   ·intro u hu
    simp only [List.mem_cons,List.not_mem_nil,or_false] at hu
    rcases hu with rfl | rfl | rfl | rfl <;> rfl
   intro g1 cap1 w5 hown1 hg1 hat _
   obtain ⟨cs',R5⟩:=PRowI.push R4.out ((Below.refl _ _).alloc (Nat.le_refl _) _) HT.out HOK.out (by omega) hown1 hg1 (hat.imp id fun e => e.trans (by simp)) hB
   have RR:=Lib.hid R5
   clear R5 hown1 hg1 hat
   go_wp2_with fail
   go_roundw
   case rel => exact ⟨_,l++[t],_,_,_,_,by rw [← snoc_get,List.length_append,← HNL.out,← HTS.out];exact RR.out,KK⟩
   case measure => rw [RR.out.rd.left_eq,R.out.rd.left_eq];omega
inductive NmS (c:Rdc) (D:Nat) (y:Tk) (i:Nat) (ns:List ByteArray):T→Nat→List ByteArray→Prop
 | cmp (t1:T) (j1:Nat) (ns1:List ByteArray) (lf:List T) (jf:Nat) (nf:List ByteArray):(nx c i).k=4→TermS c (D+1) 999 (i+1) ns t1 j1 ns1→RowS c D lf jf nf [t1] j1 ns1→isM c.tk c.s.size jf ⟨#[41]⟩=true→NmS c D y i ns (cmpT y.t lf) (jf+1) nf
 | int (n:Int):(nx c i).k=3→(y.t.toList == [45])=true→(nx c i).a=y.b→intN (nx c i).t true=some n→NmS c D y i ns (inT n) (i+1) ns
 | atom:(nx c i).k=5→(y.t.toList == [45])=false→opPre y.t=none→NmS c D y i ns (atT y.t) i ns
set_option maxRecDepth 100000 in
set_option maxHeartbeats 8000000 in
theorem znamed_any {c:Rdc} {D:Nat} (hD:D≤64) (most:Int) (y:Tk) (hy:nameOk y.t) {i0 j:Nat} {ns ns':List ByteArray} {t:T} (hn:NmS c D y (i0+1) ns t j ns') (w:World) (h:Pd w c (i0+1) ns) (hev:Ev c w) :
 Calls Tryz.prog 160 #[.pointer (some ⟨c.R,0,none⟩),.agg #[.int .i64 y.k,.string y.t,.int .i64 (y.a:Int),.int .i64 (y.b:Int)],.int .i64 most,.int .i64 (D:Int)] w fun e w' => PQ c w (i0+1) (.ok ((t,0),j,ns')) (RelT2 w i0) e w':=by
 have hB:=h.base
 have H:=Lib.hid h
 have HE:=Lib.hid hev
 have HY:=Lib.hid hy
 have HN:=Lib.hid hn
 clear h hev hy hn
 obtain ⟨x,hx⟩:∃ x,nx c (i0+1)=x:=⟨_,rfl⟩
 have HX:=Lib.hid hx
 obtain ⟨ky,ty,ya,yb⟩:=y
 have B1:=Lib.hid (belP (belP (Below.refl w.heap.size w) (Obj.cells #[.int .i64 ky,.string ty,.int .i64 (ya:Int),.int .i64 (yb:Int)] 116)) (Obj.cells #[.int .i64 0,.int .i64 0,.string ⟨#[]⟩,.slice none 0 0] 51))
 have F1:=Lib.hid (Frp.of_below B1.out hB)
 have H1:=Lib.hid (H.out.below B1.out)
 have T1:=Lib.hid ((Below.heap_alloc (w.alloc (Obj.cells #[.int .i64 ky,.string ty,.int .i64 (ya:Int),.int .i64 (yb:Int)] 116)) (Obj.cells #[.int .i64 0,.int .i64 0,.string ⟨#[]⟩,.slice none 0 0] 51) w.heap.size (by simp)).trans (heap_alloc_new w _))
 have X1:=Lib.hid (show ((w.alloc (Obj.cells #[.int .i64 ky,.string ty,.int .i64 (ya:Int),.int .i64 (yb:Int)] 116)).alloc (Obj.cells #[.int .i64 0,.int .i64 0,.string ⟨#[]⟩,.slice none 0 0] 51)).heap[w.heap.size+1]? =some (Obj.cells #[.int .i64 0,.int .i64 0,.string ⟨#[]⟩,.slice none 0 0] 51) from heap_at _ _ (by simp))
 have PK:=Lib.hid (ppeek_any _ H1.out)
 rw [hx] at PK
 clear hx
 go_enter Tryz.func160,Tryz.ntmps160
 go_wp2_with fail
 refine PK.out.mono ?_
 rintro e w2 ⟨rfl,hb2⟩
 have ha2:=hb2.size
 have hs2:w.heap.size+2≤w2.heap.size:=by simpa using ha2
 have B2:=Lib.hid ((B1.out.trans (hb2.mono B1.out.size)).alloc (by omega) (Obj.cells #[.int .i64 x.k,.string x.t,.int .i64 (x.a:Int),.int .i64 (x.b:Int)] 116))
 have H2:=Lib.hid ((H1.out.below hb2).alloc (Obj.cells #[.int .i64 x.k,.string x.t,.int .i64 (x.a:Int),.int .i64 (x.b:Int)] 116))
 have F2:=Lib.hid (Frp.of_below B2.out hB)
 have K2:=Lib.hid (heap_alloc_new w2 (Obj.cells #[.int .i64 x.k,.string x.t,.int .i64 (x.a:Int),.int .i64 (x.b:Int)] 116))
 have T2:=Lib.hid ((Below.heap_alloc w2 (Obj.cells #[.int .i64 x.k,.string x.t,.int .i64 (x.a:Int),.int .i64 (x.b:Int)] 116) w.heap.size (by omega)).trans ((hb2.block _ (heap_lt T1.out)).trans T1.out))
 have X2:=Lib.hid ((Below.heap_alloc w2 (Obj.cells #[.int .i64 x.k,.string x.t,.int .i64 (x.a:Int),.int .i64 (x.b:Int)] 116) (w.heap.size+1) (by omega)).trans ((hb2.block _ (heap_lt X1.out)).trans X1.out))
 obtain ⟨t0,t1,t2,t3⟩:=box4t T2.out
 obtain ⟨s0,s1,s2,s3⟩:=box4t K2.out
 have hlw:w.heap.size < w2.heap.size:=by omega
 clear hb2 ha2 PK
 cases HN.out with
 | cmp tz jz nz lf jf nf k4 q1 q2 q3 =>
  rw [HX.out] at k4
  have b4:(x.k == 4)=true:=by simpa using k4
  have CT:=Lib.hid (ptake_any _ H2.out (by rw [HX.out,k4];decide))
  rw [HX.out] at CT
  have CR:=Lib.hid (zrow_any hD q1 q2)
  have HM:=Lib.hid q3
  clear k4 q1 q2 q3
  go_wp2_with fail
  refine CT.out.mono ?_
  rintro e w3 ⟨rfl,h3,f3⟩
  have H3:=Lib.hid h3
  have F3:=Lib.hid (F2.out.trans f3)
  have T3:=Lib.hid (f3.boxp H2.out T2.out (by decide) (by decide))
  have X3:=Lib.hid (f3.boxp H2.out X2.out (by decide) (by decide))
  clear h3 f3 CT
  go_wp2_with fail
  refine (CR.out _ H3.out (HE.out.fr F3.out)).mono ?_
  rintro e w4 hq
  obtain ⟨f4,v,rfl,h4,hj,g,cs,fg,rfl,hl0,hl1,hg0,hblk,hcs,hgd,hnd⟩:=hq.ok rfl
  have H4:=Lib.hid h4
  have F4:=Lib.hid (F3.out.trans f4)
  have T4:=Lib.hid (f4.boxp H3.out T3.out (by decide) (by decide))
  have X4:=Lib.hid (f4.boxp H3.out X3.out (by decide) (by decide))
  have hs3:=F3.out.size
  have hs4:=f4.size
  have hx3:=heap_lt X3.out
  have TPc:=Lib.hid (show TP w4 (fun b => w.heap.size≤b∧b≠w.heap.size+1) (cmpT ty lf) (.agg #[.int .i64 4,.int .i64 0,.string ty,.slice (some ⟨g,0,none⟩) lf.length lf.length]) from
   ⟨_,_,rfl,Nat.le_refl _,(fun h => by cases h),fun _ => ⟨g,cs,fg,rfl,⟨by omega,by omega⟩,hblk,fun k hk => by
    obtain ⟨v0,v1,v2,v3,q0,q1,q2,q3,ht⟩:=hcs k hk
    exact ⟨v0,v1,v2,v3,q0,q1,q2,q3,ht.more fun b hb => ⟨by omega,by omega⟩⟩⟩⟩)
  have HGD:=Lib.hid (pcmp_good (show nameOk ty from HY.out) hl0 hgd)
  have HND:=Lib.hid (show i0+(cmpT ty lf).nodes+1≤jf+1 by rw [pcmp_nodes];omega)
  obtain ⟨n,hn⟩:∃ n,lf.length=n:=⟨_,rfl⟩
  rw [hn] at TPc ⊢
  clear hq h4 f4 hl0 hl1 hg0 hblk hcs hgd hnd hn CR
  go_wp2_with fail
  refine (pmust_any ⟨#[41]⟩ _ H4.out).mono ?_
  rintro e w5 hq
  obtain ⟨f5,v,rfl,h5,hj5,rfl,_⟩:=hq.ok (show mustN c.tk c.s.size ⟨#[41]⟩ () jf ns'=.ok ((),jf+1,ns') by unfold mustN;rw [if_pos HM.out])
  have H5:=Lib.hid h5
  have F5:=Lib.hid (F4.out.trans f5)
  have T5:=Lib.hid (f5.boxp H4.out T4.out (by decide) (by decide))
  have X5:=Lib.hid (f5.boxp H4.out X4.out (by decide) (by decide))
  have TP5:=Lib.hid (TPc.out.frp f5 H4.out)
  clear t0 t1 t2 t3
  obtain ⟨t0,t1,t2,t3⟩:=box4t T5.out
  clear hq h5 f5
  go_wp2_with fail
  refine (pcell_any ty _ n n _).mono ?_
  rintro e w6 ⟨rfl,hb6⟩
  have H6:=Lib.hid (H5.out.below hb6)
  have F6:=Lib.hid (F5.out.trans (Frp.of_below hb6 H5.out.base))
  have X6:=Lib.hid ((hb6.block _ (heap_lt X5.out)).trans X5.out)
  have TP6:=Lib.hid (TP5.out.below hb6)
  obtain ⟨x0,x1,x2,x3⟩:=box4t X6.out
  have xf:∀ j,w6.frozen? ⟨w.heap.size+1,j,none⟩=false:=fun j => by simp [World.frozen?,X6.out]
  clear hb6 t0 t1 t2 t3
  go_wp2_with fail
  obtain ⟨p0,p1,p2,p3⟩:=box4t (box_put4 X6.out (.int .i64 4) (.int .i64 0) (.string ty) (.slice (some ⟨g,0,none⟩) n n) rfl).1
  refine bodyPost_ret (v:=.tuple #[.agg #[.int .i64 4,.int .i64 0,.string ty,.slice (some ⟨g,0,none⟩) n n],.int .i64 0]) (by simp [results,go_sem,p0,p1,p2,p3]) rfl ?_
  exact ret_box2 H6.out F6.out hB X6.out (by omega) TP6.out (by omega) HGD.out (by have:=HND.out;omega) rfl
 | int n k3 c45 hab hi =>
  rw [HX.out] at k3 hab hi
  have b4:(x.k == 4)=false:=by rw [k3];rfl
  have c3:(x.k == 3)=true:=by simpa using k3
  have cab:((x.a:Int) == (yb:Int))=true:=by rw [hab];simp
  have hk3:(nx c (i0+1)).k≠0:=by rw [HX.out];omega
  have CT:=Lib.hid (ptake_any _ H2.out hk3)
  have hfx:=nx_fine H2.out hk3
  rw [HX.out] at CT hfx
  have HFX:=Lib.hid (And.intro (hfx.1.2 k3).1 hfx.2)
  have HI:=Lib.hid hi
  dsimp only at c45
  clear hk3 hfx k3 hab hi
  go_wp2_with fail
  refine CT.out.mono ?_
  rintro e w3 ⟨rfl,h3,f3⟩
  have F3:=Lib.hid (F2.out.trans f3)
  have X3:=Lib.hid (f3.boxp H2.out X2.out (by decide) (by decide))
  have H3:=Lib.hid h3
  have CI:=Lib.hid (show Calls Tryz.prog 158 #[.pointer (some ⟨c.R,0,none⟩),.agg #[.int .i64 x.k,.string x.t,.int .i64 (x.a:Int),.int .i64 (x.b:Int)],.string ⟨#[45]⟩] w3 fun e w' => PQ c w3 (i0+1+1) (intP x true (i0+1+1) ns) (fun t _ v _ => ∃ n,t=inT n∧I64 n∧v=.agg #[.int .i64 2,.int .i64 n,.string ⟨#[]⟩,.slice none 0 0]) e w' from
   pinteger_any x true w3 h3 (HE.out.fr F3.out) (by omega) HFX.out.2 HFX.out.1)
  clear h3 f3 CT
  go_wp2_with fail
  refine CI.out.mono ?_
  rintro e w4 hq
  obtain ⟨f4,v,rfl,h4,hj,n',hn',hn,rfl⟩:=hq.ok (show intP x true (i0+1+1) ns=.ok (inT n,i0+1+1,ns) by unfold intP;rw [HI.out])
  obtain rfl:n=n':=by injection hn'
  have H4:=Lib.hid h4
  have F4:=Lib.hid (F3.out.trans f4)
  have X4:=Lib.hid (f4.boxp H3.out X3.out (by decide) (by decide))
  have HNN:=Lib.hid hn
  obtain ⟨x0,x1,x2,x3⟩:=box4t X4.out
  have xf:∀ j,w4.frozen? ⟨w.heap.size+1,j,none⟩=false:=fun j => by simp [World.frozen?,X4.out]
  clear hq h4 f4 hn hn' hj CI
  go_wp2_with fail
  obtain ⟨p0,p1,p2,p3⟩:=box4t (box_put4 X4.out (.int .i64 2) (.int .i64 n) (.string ⟨#[]⟩) (.slice none 0 0) rfl).1
  refine bodyPost_ret (v:=.tuple #[.agg #[.int .i64 2,.int .i64 n,.string ⟨#[]⟩,.slice none 0 0],.int .i64 0]) (by simp [results,go_sem,p0,p1,p2,p3]) rfl ?_
  exact ret_box2 H4.out F4.out hB X4.out (by omega) (TP.leaf _ _ 2 n _) (by omega) ⟨.inr (.inl ⟨rfl,HNN.out,rfl,rfl⟩),fun i hi => absurd hi (by omega)⟩ (by rw [leaf_nodes];omega) rfl
 | atom k5 c45 ho =>
  rw [HX.out] at k5
  have b4:(x.k == 4)=false:=by rw [k5];rfl
  dsimp only at c45 ho
  have CP:=Lib.hid (pprefix_any ty _ (HE.out.fr F2.out).ops)
  have HO:=Lib.hid ho
  clear k5 ho
  go_wp2_with fail
  refine CP.out.mono ?_
  rintro e w3 ⟨⟨p,m,is,rfl,hr⟩,hb3⟩
  have H3:=Lib.hid (H2.out.below hb3)
  have F3:=Lib.hid (F2.out.trans (Frp.of_below hb3 H2.out.base))
  have X3:=Lib.hid ((hb3.block _ (heap_lt X2.out)).trans X2.out)
  have T3:=Lib.hid ((hb3.block _ (heap_lt T2.out)).trans T2.out)
  have hs3:w.heap.size+2≤w3.heap.size:=by have h9:=hb3.size;simp at h9;omega
  clear t0 t1 t2 t3
  obtain ⟨t0,t1,t2,t3⟩:=box4t T3.out
  obtain rfl:is=false:=by
   rcases hr.out with ⟨_,h⟩ | ⟨h,_⟩
   ·rw [HO.out] at h;cases h
   ·exact h
  clear hb3 hr CP s0 s1 s2 s3
  go_wp2_with fail
  refine (pconst_any ty _).mono ?_
  rintro e w6 ⟨rfl,hb6⟩
  have H6:=Lib.hid (H3.out.below hb6)
  have F6:=Lib.hid (F3.out.trans (Frp.of_below hb6 H3.out.base))
  have X6:=Lib.hid ((hb6.block _ (heap_lt X3.out)).trans X3.out)
  obtain ⟨x0,x1,x2,x3⟩:=box4t X6.out
  have xf:∀ j,w6.frozen? ⟨w.heap.size+1,j,none⟩=false:=fun j => by simp [World.frozen?,X6.out]
  clear hb6
  go_wp2_with fail
  obtain ⟨p0,p1,p2,p3⟩:=box4t (box_put4 X6.out (.int .i64 3) (.int .i64 0) (.string ty) (.slice none 0 0) rfl).1
  refine bodyPost_ret (v:=.tuple #[.agg #[.int .i64 3,.int .i64 0,.string ty,.slice none 0 0],.int .i64 0]) (by simp [results,go_sem,p0,p1,p2,p3]) rfl ?_
  exact ret_box2 H6.out F6.out hB X6.out (by omega) (TP.leaf _ _ 3 0 _) (Nat.le_refl _) (atom_good _ HY.out) (by rw [leaf_nodes];omega) rfl
end Go.Proofs.YtdgpmpccfjmmcaaGreatDoor
namespace Go.Proofs.YtdgpmpccfjmmcaaGreatDoor
open Go.RowKit
inductive OpS (c:Rdc) (D:Nat) (i:Nat) (ns:List ByteArray):T→Nat→List ByteArray→Prop
 | int (n:Int):(nx c i).k=3→intN (nx c i).t false=some n→OpS c D i ns (inT n) (i+1) ns
 | var (y:Tk):nx c i=y→y.k=2→OpS c D i ns (vrT (varN y.t ns).1) (i+1) (varN y.t ns).2
 | named (t:T) (j:Nat) (ns':List ByteArray):(nx c i).k=1→NmS c D (nx c i) (i+1) ns t j ns'→OpS c D i ns t j ns'
set_option maxRecDepth 100000 in
set_option maxHeartbeats 8000000 in
theorem zoperand_any {c:Rdc} {D:Nat} (hD:D≤64) (most:Int) {i j:Nat} {ns ns':List ByteArray} {t:T} (ho:OpS c D i ns t j ns') (w:World) (h:Pd w c i ns) (hev:Ev c w) :
 Calls Tryz.prog 112 #[.pointer (some ⟨c.R,0,none⟩),.int .i64 most,.int .i64 (D:Int)] w fun e w' => PQ c w i (.ok ((t,0),j,ns')) (RelT2 w i) e w':=by
 have hB:=h.base
 have HNL:=Lib.hid h.names
 have H:=Lib.hid h
 have HE:=Lib.hid hev
 have HO:=Lib.hid ho
 clear h hev ho
 obtain ⟨x,hx⟩:∃ x,nx c i=x:=⟨_,rfl⟩
 have HX:=Lib.hid hx
 have B1:=Lib.hid (belP (Below.refl w.heap.size w) (Obj.cells #[.int .i64 0,.int .i64 0,.string ⟨#[]⟩,.slice none 0 0] 51))
 have H1:=Lib.hid (H.out.below B1.out)
 have X1:=Lib.hid (heap_alloc_new w (Obj.cells #[.int .i64 0,.int .i64 0,.string ⟨#[]⟩,.slice none 0 0] 51))
 have PK:=Lib.hid (ppeek_any _ H1.out)
 rw [hx] at PK
 clear hx
 go_enter Tryz.func112,Tryz.ntmps112
 go_wp2_with fail
 refine PK.out.mono ?_
 rintro e w2 ⟨rfl,hb2⟩
 have ha2:=hb2.size
 have hs2:w.heap.size+1≤w2.heap.size:=by simpa using ha2
 have B2:=Lib.hid ((B1.out.trans (hb2.mono B1.out.size)).alloc (by omega) (Obj.cells #[.int .i64 x.k,.string x.t,.int .i64 (x.a:Int),.int .i64 (x.b:Int)] 116))
 have H2:=Lib.hid ((H1.out.below hb2).alloc (Obj.cells #[.int .i64 x.k,.string x.t,.int .i64 (x.a:Int),.int .i64 (x.b:Int)] 116))
 have F2:=Lib.hid (Frp.of_below B2.out hB)
 have K2:=Lib.hid (heap_alloc_new w2 (Obj.cells #[.int .i64 x.k,.string x.t,.int .i64 (x.a:Int),.int .i64 (x.b:Int)] 116))
 have X2:=Lib.hid ((Below.heap_alloc w2 (Obj.cells #[.int .i64 x.k,.string x.t,.int .i64 (x.a:Int),.int .i64 (x.b:Int)] 116) w.heap.size (by omega)).trans ((hb2.block _ (heap_lt X1.out)).trans X1.out))
 obtain ⟨s0,s1,s2,s3⟩:=box4t K2.out
 have HK:=Lib.hid (nx_ltp H2.out)
 have HTK:=Lib.hid (ptake_any _ H2.out)
 have HNO:=Lib.hid (nx_sizep H2.out)
 have HFN:=Lib.hid (nx_fine H2.out)
 clear hb2 ha2 PK
 cases HO.out with
 | int n k3 hi =>
  rw [HX.out] at k3 hi
  have b3:(x.k == 3)=true:=by simpa using k3
  have hk:(nx c i).k≠0:=by rw [HX.out,k3];decide
  have CT:=Lib.hid (HTK.out hk)
  have hfx:=HFN.out hk
  rw [HX.out] at CT hfx
  have HFX:=Lib.hid (And.intro (hfx.1.2 k3).1 hfx.2)
  have HI:=Lib.hid hi
  clear k3 hi hk hfx HFN HTK HO
  go_wp2_with fail
  refine CT.out.mono ?_
  rintro e w3 ⟨rfl,h3,f3⟩
  have H3:=Lib.hid h3
  have F3:=Lib.hid (F2.out.trans f3)
  have X3:=Lib.hid (f3.boxp H2.out X2.out (by decide) (by decide))
  clear h3 f3 CT
  have CI:=Lib.hid (show Calls Tryz.prog 158 #[.pointer (some ⟨c.R,0,none⟩),.agg #[.int .i64 x.k,.string x.t,.int .i64 (x.a:Int),.int .i64 (x.b:Int)],.string ⟨#[]⟩] w3 fun e w' => PQ c w3 (i+1) (intP x false (i+1) ns) (fun t _ v _ => ∃ n,t=inT n∧I64 n∧v=.agg #[.int .i64 2,.int .i64 n,.string ⟨#[]⟩,.slice none 0 0]) e w' from
   pinteger_any x false w3 H3.out (HE.out.fr F3.out) (by omega) HFX.out.2 HFX.out.1)
  go_wp2_with fail
  refine CI.out.mono ?_
  rintro e w4 hq
  obtain ⟨f4,v,rfl,h4,hj,n',hn',hn,rfl⟩:=hq.ok (show intP x false (i+1) ns=.ok (inT n,i+1,ns) by unfold intP;rw [HI.out])
  obtain rfl:n=n':=by injection hn'
  have H4:=Lib.hid h4
  have F4:=Lib.hid (F3.out.trans f4)
  have X4:=Lib.hid (f4.boxp H3.out X3.out (by decide) (by decide))
  have HNN:=Lib.hid hn
  clear hq h4 f4 hn hn' hj CI
  obtain ⟨x0,x1,x2,x3⟩:=box4t X4.out
  have xf:∀ j,w4.frozen? ⟨w.heap.size,j,none⟩=false:=fun j => by simp [World.frozen?,X4.out]
  go_wp2_with fail
  obtain ⟨p0,p1,p2,p3⟩:=box4t (box_put4 X4.out (.int .i64 2) (.int .i64 n) (.string ⟨#[]⟩) (.slice none 0 0) rfl).1
  refine bodyPost_ret (v:=.tuple #[.agg #[.int .i64 2,.int .i64 n,.string ⟨#[]⟩,.slice none 0 0],.int .i64 0]) (by simp [results,go_sem,p0,p1,p2,p3]) rfl ?_
  exact ret_box2 H4.out F4.out hB X4.out (Nat.le_refl _) (TP.leaf _ _ 2 n _) (by omega) ⟨.inr (.inl ⟨rfl,HNN.out,rfl,rfl⟩),fun i hi => absurd hi (by omega)⟩ (by rw [leaf_nodes];omega) rfl
 | var y hy k2 =>
  obtain rfl:x=y:=HX.out.symm.trans hy
  clear hy
  have b3:(x.k == 3)=false:=by rw [k2];rfl
  have b2:(x.k == 2)=true:=by simpa using k2
  have hk:(nx c i).k≠0:=by rw [HX.out,k2];decide
  have CT:=Lib.hid (HTK.out hk)
  have HUP:=Lib.hid (HK.out hk)
  rw [HX.out] at CT
  clear k2 hk HFN HTK HO
  go_wp2_with fail
  refine CT.out.mono ?_
  rintro e w3 ⟨rfl,h3,f3⟩
  have H3:=Lib.hid h3
  have F3:=Lib.hid (F2.out.trans f3)
  have X3:=Lib.hid (f3.boxp H2.out X2.out (by decide) (by decide))
  clear h3 f3 CT
  have fl:=fld_tok1
  have hup3:=H3.out.few
  go_wp2_with fail
  refine (pvariable_any x.t _ H3.out HNL.out (HE.out.fr F3.out).1).mono ?_
  rintro e w4 ⟨rfl,h4,f4⟩
  have H4:=Lib.hid h4
  have F4:=Lib.hid (F3.out.trans f4)
  have X4:=Lib.hid (f4.boxp H3.out X3.out (by decide) (by decide))
  have HVN:=Lib.hid (show (varN x.t ns).1 < 1000 by
   have hv:=H4.out.names
   have:=var_lt x.t ns
   have:=HUP.out
   have:=HNL.out
   omega)
  obtain ⟨vn,hvn⟩:∃ vn,(varN x.t ns).1=vn:=⟨_,rfl⟩
  have HVE:=Lib.hid hvn
  rw [hvn] at HVN ⊢
  clear h4 f4 hvn
  obtain ⟨x0,x1,x2,x3⟩:=box4t X4.out
  have xf:∀ j,w4.frozen? ⟨w.heap.size,j,none⟩=false:=fun j => by simp [World.frozen?,X4.out]
  go_wp2_with fail
  obtain ⟨p0,p1,p2,p3⟩:=box4t (box_put4 X4.out (.int .i64 1) (.int .i64 (vn:Int)) (.string ⟨#[]⟩) (.slice none 0 0) rfl).1
  refine bodyPost_ret (v:=.tuple #[.agg #[.int .i64 1,.int .i64 (vn:Int),.string ⟨#[]⟩,.slice none 0 0],.int .i64 0]) (by simp [results,go_sem,p0,p1,p2,p3]) rfl ?_
  exact ret_box2 H4.out F4.out hB X4.out (Nat.le_refl _) (TP.leaf _ _ 1 (vn:Int) _) (by omega) (leaf_good _ (by omega) (by have:=HVN.out;omega)) (by rw [leaf_nodes];omega) (by rw [HVE.out];rfl)
 | named t j ns' k1 hn =>
  rw [HX.out] at k1 hn
  have b3:(x.k == 3)=false:=by rw [k1];rfl
  have b2:(x.k == 2)=false:=by rw [k1];rfl
  have b1:(x.k == 1)=true:=by simpa using k1
  have hk:(nx c i).k≠0:=by rw [HX.out,k1];decide
  have CT:=Lib.hid (HTK.out hk)
  rw [HX.out] at CT HNO
  have CN:=Lib.hid (znamed_any hD most x HNO.out hn)
  clear k1 hk HFN HTK HO hn
  go_wp2_with fail
  refine CT.out.mono ?_
  rintro e w3 ⟨rfl,h3,f3⟩
  have H3:=Lib.hid h3
  have F3:=Lib.hid (F2.out.trans f3)
  have X3:=Lib.hid (f3.boxp H2.out X2.out (by decide) (by decide))
  clear h3 f3 CT
  go_wp2_with fail
  refine (CN.out _ H3.out (HE.out.fr F3.out)).mono ?_
  rintro e w4 hq
  obtain ⟨f4,v,rfl,h4,hj,tv,rfl,ht,hgood,hnod⟩:=hq.ok rfl
  obtain ⟨k0,k1,k2,A0,m0,c0,rfl⟩:=ht.agg
  have H4:=Lib.hid h4
  have F4:=Lib.hid (F3.out.trans f4)
  have X4:=Lib.hid (f4.boxp H3.out X3.out (by decide) (by decide))
  have hs6:=F3.out.size
  have hx6:=heap_lt X3.out
  have TP7:=Lib.hid (ht.more (S':=fun b => w.heap.size≤b∧b≠w.heap.size) fun b hb => ⟨by omega,by omega⟩)
  have HJ:=Lib.hid (And.intro hj (And.intro hgood hnod))
  clear hq h4 f4 ht hj hgood hnod hs6 hx6 CN
  obtain ⟨x0,x1,x2,x3⟩:=box4t X4.out
  have xf:∀ j,w4.frozen? ⟨w.heap.size,j,none⟩=false:=fun j => by simp [World.frozen?,X4.out]
  go_wp2_with fail
  obtain ⟨p0,p1,p2,p3⟩:=box4t (box_put4 X4.out (.int .i64 k0) (.int .i64 k1) (.string k2) (.slice A0 m0 c0) rfl).1
  refine bodyPost_ret (v:=.tuple #[.agg #[.int .i64 k0,.int .i64 k1,.string k2,.slice A0 m0 c0],.int .i64 0]) (by simp [results,go_sem,p0,p1,p2,p3]) rfl ?_
  exact ret_box2 H4.out F4.out hB X4.out (Nat.le_refl _) TP7.out (by have:=HJ.out.1;omega) HJ.out.2.1 HJ.out.2.2 rfl
set_option maxRecDepth 100000 in
set_option maxHeartbeats 8000000 in
theorem zenter_any {c:Rdc} {d5 s7 r3 m4:Nat} {D:Nat} (hD:D≤64) (most:Int) {i j:Nat} {ns ns':List ByteArray} {t:T} (ho:OpS c D i ns t j ns') (w:World) (h:Pd w c i ns) (hev:Ev c w) (hc:Cb w c d5 s7 r3 m4 (D:Int) most (.slice none 0 0)) :
 Calls Tryz.prog 111 #[.pointer (some ⟨d5,0,none⟩),.pointer (some ⟨s7,0,none⟩),.pointer (some ⟨r3,0,none⟩),.pointer (some ⟨m4,0,none⟩)] w fun e w' => PQ c w i (.ok ((t,0),j,ns')) (RelT2 w i) e w':=by
 have hB:=h.base
 have H1:=Lib.hid (h.alloc (Obj.cells #[.int .i64 0,.int .i64 0,.string ⟨#[]⟩,.slice none 0 0] 51))
 have F1:=Lib.hid (Frp.of_below (belP (Below.refl w.heap.size w) (Obj.cells #[.int .i64 0,.int .i64 0,.string ⟨#[]⟩,.slice none 0 0] 51)) hB)
 have X1:=Lib.hid (heap_alloc_new w (Obj.cells #[.int .i64 0,.int .i64 0,.string ⟨#[]⟩,.slice none 0 0] 51))
 have E1:=Lib.hid (hev.fr F1.out)
 obtain ⟨q0,q1,q2,q3⟩:=hc.cells
 obtain ⟨l0,l1,l2,l3⟩:=hc.lt
 have hDn':¬ (64:Int) < (D:Int):=by omega
 have CO:=Lib.hid (zoperand_any hD most ho _ H1.out E1.out)
 clear h hc hev ho
 go_enter Tryz.func111,Tryz.ntmps111
 go_wp2_with fail
 refine CO.out.mono ?_
 rintro e w4 hq
 obtain ⟨f4,v,rfl,h4,hj,tv,rfl,ht,hgood,hnod⟩:=hq.ok rfl
 obtain ⟨k0,k1,k2,A0,m0,c0,rfl⟩:=ht.agg
 have H4:=Lib.hid h4
 have F4:=Lib.hid (F1.out.trans f4)
 have X4:=Lib.hid (f4.boxp H1.out X1.out (by decide) (by decide))
 have hin:∀ b,(w.alloc (Obj.cells #[.int .i64 0,.int .i64 0,.string ⟨#[]⟩,.slice none 0 0] 51)).heap.size≤b→w.heap.size≤b∧b≠w.heap.size:=fun b hS => by
  simp at hS
  exact ⟨by omega,by omega⟩
 have TP7:=Lib.hid (ht.more (S':=fun b => w.heap.size≤b∧b≠w.heap.size) hin)
 have HJ:=Lib.hid (And.intro hj (And.intro hgood hnod))
 obtain ⟨x0,x1,x2,x3⟩:=box4t X4.out
 have xf:∀ j,w4.frozen? ⟨w.heap.size,j,none⟩=false:=fun j => by simp [World.frozen?,X4.out]
 clear hq h4 f4 ht hj hgood hnod hin CO
 go_wp2_with fail
 obtain ⟨p0,p1,p2,p3⟩:=box4t (box_put4 X4.out (.int .i64 k0) (.int .i64 k1) (.string k2) (.slice A0 m0 c0) rfl).1
 refine bodyPost_ret (v:=.tuple #[.agg #[.int .i64 k0,.int .i64 k1,.string k2,.slice A0 m0 c0],.int .i64 0]) (by simp [results,go_sem,p0,p1,p2,p3]) rfl ?_
 exact ret_box2 H4.out F4.out hB X4.out (Nat.le_refl _) TP7.out HJ.out.1 HJ.out.2.1 HJ.out.2.2 rfl
def EndS (c:Rdc) (most:Int) (j:Nat):Prop:=(nx c j).k=6∨((nx c j).k=5∧((nx c j).t.toList == [44])=false)∨((nx c j).k=5∧((nx c j).t.toList == [44])=true∧most=999)
set_option maxRecDepth 100000 in
set_option maxHeartbeats 16000000 in
theorem zterm_any {c:Rdc} {D:Nat} (hD:D≤64) {most:Int} {i j:Nat} {ns ns':List ByteArray} {t:T} (ho:OpS c D i ns t j ns') (he:EndS c most j):TermS c D most i ns t j ns':=by
 intro w h hev
 have hB:=h.base
 have H:=Lib.hid h
 have HE:=Lib.hid hev
 have HEND:=Lib.hid he
 clear h hev he
 have hmf:∀ (fn:Fn) (first cap:Array Value) (w:World),(Instr.makeFunc fn first cap).run Tryz.prog w=.ok (.func fn first cap) w:=fun _ _ _ _ => rfl
 obtain ⟨W5,hW5⟩:∃ W5,(((((w.alloc (Obj.cells #[.pointer (some ⟨c.R,0,none⟩)] 102)).alloc (Obj.cells #[.int .i64 most] 3)).alloc (Obj.cells #[.int .i64 (D:Int)] 3)).alloc (Obj.cells #[.int .i64 0,.int .i64 0,.string ⟨#[]⟩,.slice none 0 0] 51)).alloc (Obj.cells #[.slice none 0 0] 201))=W5:=⟨_,rfl⟩
 obtain ⟨hs5,b0,b1,b2,b3,b4,bel5⟩:=five_boxes w W5 _ _ _ _ _ _ _ _ hW5
 have F5:=Lib.hid (Frp.of_below bel5 hB)
 have H5:=Lib.hid (H.out.below bel5)
 have E5:=Lib.hid (HE.out.fr F5.out)
 have C5:=Lib.hid (show Cb W5 c (w.heap.size+1+1) (w.heap.size+1+1+1+1) w.heap.size (w.heap.size+1) (D:Int) most (.slice none 0 0) from ⟨b2,b4,b0,b1⟩)
 have R5:=Lib.hid b3
 have HW5:=Lib.hid hW5
 have CO:=Lib.hid (zenter_any hD most ho W5 H5.out E5.out C5.out)
 clear b0 b1 b2 b3 b4 bel5 hW5 ho
 go_enter Tryz.func70,Tryz.ntmps70
 go_wp2_with fail
 rw [HW5.out]
 refine CO.out.mono ?_
 rintro e w6 hq
 obtain ⟨f6,v,rfl,h6,hj,tv,rfl,ht,hgood,hnod⟩:=hq.ok rfl
 obtain ⟨a0,a1,a2,a3,a4,a5,rfl⟩:=ht.agg
 have hs6:=f6.size
 have bA:=(Below.refl w6.heap.size w6).alloc (Nat.le_refl _) (Obj.cells #[.int .i64 a0,.int .i64 a1,.string a2,.slice a3 a4 a5] 51)
 have fA:=f6.trans (Frp.of_below bA h6.base)
 have M0:=Lib.hid (show TmM c w (w6.alloc (Obj.cells #[.int .i64 a0,.int .i64 a1,.string a2,.slice a3 a4 a5] 51)) D j [] t a0 a1 a2 a3 a4 a5 most ns' none 0 w6.heap.size from
  ⟨C5.out.fr fA H5.out,fA.boxp H5.out R5.out (by decide) (by decide),heap_alloc_new _ _,by omega,ht.keep fun b cs f hS hb => ⟨(Below.heap_alloc _ _ _ (heap_lt hb)).trans hb,by omega,by have:=heap_lt hb;omega⟩,World.ownsRow_nil _ _ _ _,(fun e he => by cases he),h6.below bA,F5.out.trans fA⟩)
 have HG:=Lib.hid (And.intro hj (And.intro hgood hnod))
 clear hq f6 h6 hj ht hgood hnod bA fA CO HW5 C5 R5 E5 H5
 go_wp2_with fail
 go_loopw [10,11,12,13,14,15,16,17] (fun s10 s11 s12 s13 s14 s15 s16 s17 wr => s10=.int .i64 0∧TmM c w wr D j [] t a0 a1 a2 a3 a4 a5 most ns' none 0 w6.heap.size) (fun _ _ _ _ _ _ _ _ wr => 0)
 case atStart => exact ⟨rfl,M0.out⟩
 case round =>
  clear M0
  obtain ⟨rfl,hM⟩:=hrel
  have M:=Lib.hid hM
  clear hM
  obtain ⟨c0,c1,c2,c3⟩:=M.out.cb.cells
  obtain ⟨l0,l1,l2,l3⟩:=M.out.cb.lt
  obtain ⟨x,hx⟩:∃ x,nx c j=x:=⟨_,rfl⟩
  have PK:=Lib.hid (ppeek_any _ M.out.rd)
  have HN:=HEND.out
  unfold EndS at HN
  rw [hx] at PK HN
  clear hx
  go_wp2_with fail
  refine PK.out.mono ?_
  rintro e w7 ⟨rfl,hb7⟩
  have bA:=Lib.hid (hb7.alloc hb7.size (Obj.cells #[.int .i64 x.k,.string x.t,.int .i64 (x.a:Int),.int .i64 (x.b:Int)] 116))
  have M7:=Lib.hid (M.out.stand (Frp.of_below bA.out M.out.rd.base) (M.out.rd.below bA.out))
  have KX:=Lib.hid (heap_alloc_new w7 (Obj.cells #[.int .i64 x.k,.string x.t,.int .i64 (x.a:Int),.int .i64 (x.b:Int)] 116))
  clear hb7 PK c0 c1 c2 c3 l0 l1 l2 l3
  obtain ⟨c0,c1,c2,c3⟩:=M7.out.cb.cells
  obtain ⟨l0,l1,l2,l3⟩:=M7.out.cb.lt
  obtain ⟨q0,q1,q2,q3⟩:=box4t KX.out
  have hlq:=heap_lt KX.out
  rcases HN with k6 | ⟨k5',ktx⟩ | ⟨k5',ktx,rfl⟩
  ·have k1:(x.k == 1)=false:=by rw [k6];rfl
   have k5:(x.k == 5)=false:=by rw [k6];rfl
   clear k6
   go_upto_region 13 with fail
   generalize w7.alloc (Obj.cells #[.int .i64 x.k,.string x.t,.int .i64 (x.a:Int),.int .i64 (x.b:Int)] 116)=W8 at*
   have hc1:=M7.out.cb.cells.2.1
   obtain ⟨y0,y1,y2,y3⟩:=box4t M7.out.tbox
   obtain ⟨x0,x1,x2,x3⟩:=box4t M7.out.res
   have xf:∀ j,W8.frozen? ⟨w.heap.size+1+1+1,j,none⟩=false:=fun j => by simp [World.frozen?,M7.out.res]
   have hlj:=M7.out.fr.size
   clear c0 c1 c2
   go_wp2_with fail
   obtain ⟨p0,p1,p2,p3⟩:=box4t (box_put4 M7.out.res (.int .i64 a0) (.int .i64 a1) (.string a2) (.slice a3 a4 a5) rfl).1
   refine bodyPost_ret (v:=.agg #[.int .i64 a0,.int .i64 a1,.string a2,.slice a3 a4 a5]) (by simp [results,go_sem,p0,p1,p2,p3]) rfl ?_
   exact ret_boxp M7.out.rd M7.out.fr hB M7.out.res (by omega) (M7.out.ht.more fun b hb => ⟨by omega,by omega⟩) HG.out.1 HG.out.2.1 HG.out.2.2 rfl
  ·have k1:(x.k == 1)=false:=by rw [k5'];rfl
   have k5:(x.k == 5)=true:=by rw [k5'];rfl
   clear k5'
   go_upto_region 13 with fail
   generalize w7.alloc (Obj.cells #[.int .i64 x.k,.string x.t,.int .i64 (x.a:Int),.int .i64 (x.b:Int)] 116)=W8 at*
   have hc1:=M7.out.cb.cells.2.1
   obtain ⟨y0,y1,y2,y3⟩:=box4t M7.out.tbox
   obtain ⟨x0,x1,x2,x3⟩:=box4t M7.out.res
   have xf:∀ j,W8.frozen? ⟨w.heap.size+1+1+1,j,none⟩=false:=fun j => by simp [World.frozen?,M7.out.res]
   have hlj:=M7.out.fr.size
   clear c0 c1 c2
   go_wp2_with fail
   obtain ⟨p0,p1,p2,p3⟩:=box4t (box_put4 M7.out.res (.int .i64 a0) (.int .i64 a1) (.string a2) (.slice a3 a4 a5) rfl).1
   refine bodyPost_ret (v:=.agg #[.int .i64 a0,.int .i64 a1,.string a2,.slice a3 a4 a5]) (by simp [results,go_sem,p0,p1,p2,p3]) rfl ?_
   exact ret_boxp M7.out.rd M7.out.fr hB M7.out.res (by omega) (M7.out.ht.more fun b hb => ⟨by omega,by omega⟩) HG.out.1 HG.out.2.1 HG.out.2.2 rfl
  ·have k1:(x.k == 1)=false:=by rw [k5'];rfl
   have k5:(x.k == 5)=true:=by rw [k5'];rfl
   have CI:=Lib.hid (pinfix_any x.t _ (HE.out.fr M7.out.fr).ops)
   have HOC:=Lib.hid (show opIn x.t=some (1000,999,1000) by
    rw [show x.t=⟨#[44]⟩ from by
     apply ByteArray.ext
     apply Array.toList_inj.1
     rw [← ByteArray.toList_eq]
     simpa using ktx]
    decide+kernel)
   clear k5'
   go_wp2_with fail
   refine CI.out.mono ?_
   rintro e W8 ⟨⟨pa,pb,pc,is,rfl,hr⟩,hb8⟩
   obtain ⟨rfl,rfl⟩:is=true∧pa=1000:=by
    rcases hr.out with ⟨h1,h⟩ | ⟨_,h,_⟩
    ·rw [HOC.out] at h
     injection h with h
     injection h with h _
     exact ⟨h1,h.symm⟩
    ·rw [HOC.out] at h;cases h
   have M8:=Lib.hid (M7.out.stand (Frp.of_below hb8 M7.out.rd.base) (M7.out.rd.below hb8))
   have hc1:=M8.out.cb.cells.2.1
   obtain ⟨_,_,_,c3⟩:=M8.out.cb.cells
   obtain ⟨y0,y1,y2,y3⟩:=box4t M8.out.tbox
   obtain ⟨x0,x1,x2,x3⟩:=box4t M8.out.res
   have xf:∀ j,W8.frozen? ⟨w.heap.size+1+1+1,j,none⟩=false:=fun j => by simp [World.frozen?,M8.out.res]
   have hlj:=M8.out.fr.size
   clear c0 c1 c2 hb8 hr CI
   go_wp2_with fail
   obtain ⟨p0,p1,p2,p3⟩:=box4t (box_put4 M8.out.res (.int .i64 a0) (.int .i64 a1) (.string a2) (.slice a3 a4 a5) rfl).1
   refine bodyPost_ret (v:=.agg #[.int .i64 a0,.int .i64 a1,.string a2,.slice a3 a4 a5]) (by simp [results,go_sem,p0,p1,p2,p3]) rfl ?_
   exact ret_boxp M8.out.rd M8.out.fr hB M8.out.res (by omega) (M8.out.ht.more fun b hb => ⟨by omega,by omega⟩) HG.out.1 HG.out.2.1 HG.out.2.2 rfl
end Go.Proofs.YtdgpmpccfjmmcaaGreatDoor
namespace Go.Proofs.YtdgpmpccfjmmcaaGreatDoor
open Go.RowKit
end Go.Proofs.YtdgpmpccfjmmcaaGreatDoor
namespace Go.Proofs.YtdgpmpccfjmmcaaGreatDoor
open Go.RowKit
def Rdc.on (c:Rdc) (n:Nat):Rdc:={c with N:=n - c.B}
theorem TokW.on {w:World} {c:Rdc} (h:TokW w c) (n:Nat):TokW w (c.on n):=⟨h.len,h.few,h.long,h.ok,h.cap,h.nil,h.BR,h.nm,h.blk⟩
theorem Pd.clear {w:World} {c:Rdc} {j:Nat} {ns:List ByteArray} (h:Pd w c j ns) (n:Nat):Pd (w.setCell ⟨c.R,2,none⟩ (.slice none 0 0)) (c.on n) j []:=by
 obtain ⟨ht,hf,lv,nv,nn,hr⟩:=h
 exact ⟨(ht.setRp hr _ _).on n,hf,lv,.slice none 0 0,0,(show (w.setCell ⟨c.R,2,none⟩ (.slice none 0 0)).heap[c.R]? =some (.cells #[.string c.s,lv,.slice none 0 0] 104 (0,0)) from by simpa using blk_set hr.blk 2 (.slice none 0 0)),hr.lok,World.ownsRow_nil _ _ _ _,hr.up,Nat.zero_le _⟩
def RelS (c:Rdc) (w:World) (i:Nat):T × List ByteArray→Nat→Value→World→Prop:=fun x j v w' => ∃ k0 k1 k2 A m cc NA nc,v=.agg #[.int .i64 k0,.int .i64 k1,.string k2,.slice A m cc,.slice NA x.2.length nc]∧
 TP w' (fun b => w.heap.size≤b) x.1 (.agg #[.int .i64 k0,.int .i64 k1,.string k2,.slice A m cc])∧x.1.good∧i+x.1.nodes+1≤j∧w'.ownsRow (c.B+c.N) 9 1 (.slice NA x.2.length nc) x.2.length (x.2.map Value.string)
theorem box5p {w:World} {g:Nat} {t:TypeId} {f:Nat × Nat} {a b c d e:Value} (h:w.heap[g]? =some (.cells #[a,b,c,d,e] t f)) :
 w.cell? ⟨g,0,none⟩=some a∧w.cell? ⟨g,1,none⟩=some b∧w.cell? ⟨g,2,none⟩=some c∧w.cell? ⟨g,3,none⟩=some d∧w.cell? ⟨g,4,none⟩=some e:=
 ⟨cell_of_row w g 0 _ _ _ h,cell_of_row w g 1 _ _ _ h,cell_of_row w g 2 _ _ _ h,cell_of_row w g 3 _ _ _ h,cell_of_row w g 4 _ _ _ h⟩
theorem box_put5p {w:World} {g:Nat} {t:TypeId} {m:Nat × Nat} {u0 u1 u2 u3 u4:Value} (h:w.heap[g]? =some (.cells #[u0,u1,u2,u3,u4] t m)) (a b c d e:Value) {W:World}
 (hW:((((w.setCell ⟨g,0,none⟩ a).setCell ⟨g,1,none⟩ b).setCell ⟨g,2,none⟩ c).setCell ⟨g,3,none⟩ d).setCell ⟨g,4,none⟩ e=W) :
 W.heap[g]? =some (.cells #[a,b,c,d,e] t m)∧(∀ k,k≠g→W.heap[k]? =w.heap[k]?)∧∀ B w0,B≤g→Below B w0 w→Below B w0 W:=by
 subst hW
 refine ⟨by simpa using blk_set (blk_set (blk_set (blk_set (blk_set h 0 a) 1 b) 2 c) 3 d) 4 e,fun k hk => ?_,fun B w0 hB hw => ((((hw.setCell hB a).setCell hB b).setCell hB c).setCell hB d).setCell hB e⟩
 rw [Below.heap_setCell _ _ _ k hk,Below.heap_setCell _ _ _ k hk,Below.heap_setCell _ _ _ k hk,Below.heap_setCell _ _ _ k hk,Below.heap_setCell _ _ _ k hk]
theorem Pd.put5 {c:Rdc} {w:World} {i:Nat} {ns:List ByteArray} (h:Pd w c i ns) {g:Nat} {t:TypeId} {m:Nat × Nat} {u0 u1 u2 u3 u4:Value} (hb:w.heap[g]? =some (.cells #[u0,u1,u2,u3,u4] t m)) (x0 x1 x2 x3 x4:Value) (h1:t≠9) (h2:t≠104) (h3:t≠116) :
 Pd (((((w.setCell ⟨g,0,none⟩ x0).setCell ⟨g,1,none⟩ x1).setCell ⟨g,2,none⟩ x2).setCell ⟨g,3,none⟩ x3).setCell ⟨g,4,none⟩ x4) c i ns:=
 have b1:=blk_set hb 0 x0
 have b2:=blk_set b1 1 x1
 have b3:=blk_set b2 2 x2
 have b4:=blk_set b3 3 x3
 ((((h.set_far hb 0 x0 h1 h2 h3).set_far b1 1 x1 h1 h2 h3).set_far b2 2 x2 h1 h2 h3).set_far b3 3 x3 h1 h2 h3).set_far b4 4 x4 h1 h2 h3
end Go.Proofs.YtdgpmpccfjmmcaaGreatDoor
