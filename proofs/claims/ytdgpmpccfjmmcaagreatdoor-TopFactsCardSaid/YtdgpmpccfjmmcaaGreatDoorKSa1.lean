/- The program's store:same. -/
import Derived.Test.YtdgpmpccfjmmcaaGreatDoorKJAm
import Derived.Deep.DrawnRows
set_option linter.unusedVariables false
set_option linter.unusedSimpArgs false
namespace Go.Proofs.YtdgpmpccfjmmcaaGreatDoor
open Go.RowKit
theorem box_int {w:World} {lb:Nat} {f:Int} (h:IBox w lb f):w.cell? ⟨lb,0,none⟩=some (.int .i64 f)∧lb < w.heap.size∧∀ j,w.frozen? ⟨lb,j,none⟩=false:=
 ⟨cell_of_row w lb 0 _ _ _ (show w.heap[lb]? =_ from h),heap_lt (show w.heap[lb]? =_ from h),unfrozen (show w.heap[lb]? =_ from h)⟩
theorem box_put1 {w:World} {lb:Nat} {f:Int} (h:IBox w lb f) (f':Int):IBox (w.setCell ⟨lb,0,none⟩ (.int .i64 f')) lb f'∧But lb w (w.setCell ⟨lb,0,none⟩ (.int .i64 f'))∧(w.setCell ⟨lb,0,none⟩ (.int .i64 f')).heap.size=w.heap.size:=by
 have:=blk_set (show w.heap[lb]? =_ from h) 0 (.int .i64 f')
 exact ⟨by unfold IBox;simpa using this,⟨rfl,rfl,rfl,by simp,fun k hk hne => Below.heap_setCell _ _ _ k hne⟩,by simp⟩
theorem IBox.below {w w':World} {lb:Nat} {f:Int} (h:IBox w lb f) (hb:Below w.heap.size w w'):IBox w' lb f:=(hb.block lb (heap_lt (show w.heap[lb]? =_ from h))).trans h
set_option maxRecDepth 100000 in
set_option maxHeartbeats 4000000 in
theorem same_zero:SameC 0:=by
 intro w B sb lb C R M L ta tb va vb hsm hcl hbx hB hf hR hva hvb oa ob ka kb
 obtain ⟨k0,k1,k2,A0,m0,c0,rfl⟩:=hva.agg
 obtain ⟨j0,j1,j2,B0,n0,d0,rfl⟩:=hvb.agg
 obtain ⟨hx0,hxl,hxf⟩:=box_int hbx
 have HSM:=Lib.hid (hsm.butI (box_put1 hbx (-1)).2.1 hbx)
 have HCL:=Lib.hid (hcl.butI (box_put1 hbx (-1)).2.1 hbx)
 have HP:=Lib.hid (box_put1 hbx (-1))
 have hBs:B≤w.heap.size:=by omega
 clear hva hvb hbx hsm hcl
 go_enter Tryz.func129,Tryz.ntmps129
 go_wp2_with fail
 go_ret
 have BB:=belS (belS (Below.refl _ (w.setCell ⟨lb,0,none⟩ (.int .i64 (-1)))) (Obj.cells #[.int .i64 k0,.int .i64 k1,.string k2,.slice A0 m0 c0] 51)) (Obj.cells #[.int .i64 j0,.int .i64 j1,.string j2,.slice B0 n0 d0] 51)
 refine ⟨34,-1,C,R,[],rfl,HSM.out.below BB,?_,Grew.refl _ _,?_,HP.out.1.below BB,by omega,.inr (.inl ⟨rfl,rfl⟩)⟩
 ·rw [List.append_nil];exact HCL.out.below BB
 ·exact SX.but (HP.out.2.1.trans (But.of BB)) hB hBs
theorem belC {w w1 w2:World} (h:Below w.heap.size w w1) (k:Below w1.heap.size w1 w2):Below w.heap.size w w2:=h.trans (k.mono h.size)
theorem SameQ.undrew {r:Res} {L:Bs} {f:Nat} {w:World} {B sb lb:Nat} {C:List CV} {R:List (CV × Nat)} {M:List (Nat × Nat)} {w':World} {er f':Int} {C':List CV} {R':List (CV × Nat)} {Ns:Bs} (h:SameQ r L f w.drew B sb lb C R M w' er f' C' R' Ns):SameQ r L f w B sb lb C R M w' er f' C' R' Ns:=
 ⟨h.sm,h.cl,h.gr,SX.trans (b:=w.drew) ⟨(Below.refl _ _).drew,fun _ _ _ h _ => h⟩ h.fr,h.bx,h.few,h.out⟩
structure SLp (f:Nat) (L:Bs) (w V:World) (B sb lb:Nat) (C:List CV) (R:List (CV × Nat)) (M:List (Nat × Nat)) (ka na nb:Int) (sa:ByteArray) (Aa:Option Addr) (ma ca:Nat) (Ab:Option Addr) (cb:Nat) (fa fb:Nat→T) (wr:World) (i f1:Nat) (C1:List CV) (R1:List (CV × Nat)) (N1:Bs):Prop where
 sm:SM wr B sb C1 R1 M
 cl:CL wr C1 (L++N1)
 gr:Grew C C1 R R1 N1
 fr:SX B lb w wr
 bx:IBox wr lb (f1:Int)
 few:R1.length+f1≤R.length+f
 le:f1≤f
 ba:wr.heap[V.heap.size]? =some (.cells #[.int .i64 ka,.int .i64 na,.string sa,.slice Aa ma ca] 51 (0,0))
 bb:wr.heap[V.heap.size+1]? =some (.cells #[.int .i64 ka,.int .i64 nb,.string sa,.slice Ab ma cb] 51 (0,0))
 ta:TP wr (fun _ => True) (.mk ka na sa ma fa) (.agg #[.int .i64 ka,.int .i64 na,.string sa,.slice Aa ma ca])
 tb:TP wr (fun _ => True) (.mk ka nb sa ma fb) (.agg #[.int .i64 ka,.int .i64 nb,.string sa,.slice Ab ma cb])
 eq:uniF f L (pairsOf ma fa fb)=uniF f1 (L++N1) (pairsFrom i ma fa fb)
structure SSt (w:World) (a b:T) (W:World) (ka na:Int) (sa:ByteArray) (Aa:Option Addr) (ma ca:Nat) (kb nb:Int) (sb:ByteArray) (Ab:Option Addr) (mb cb:Nat):Prop where
 low:Below w.heap.size w W
 ba:W.heap[w.heap.size]? =some (.cells #[.int .i64 ka,.int .i64 na,.string sa,.slice Aa ma ca] 51 (0,0))
 bb:W.heap[w.heap.size+1]? =some (.cells #[.int .i64 kb,.int .i64 nb,.string sb,.slice Ab mb cb] 51 (0,0))
 ta:TP w (fun _ => True) a (.agg #[.int .i64 ka,.int .i64 na,.string sa,.slice Aa ma ca])
 tb:TP w (fun _ => True) b (.agg #[.int .i64 kb,.int .i64 nb,.string sb,.slice Ab mb cb])
theorem occursNew {w:World} {B sb:Nat} {C:List CV} {R:List (CV × Nat)} {M:List (Nat × Nat)} {L:Bs} (h:SM w B sb C R M) (hc:CL w C L) {t:T} {v:Value} (hv:TP w (fun _ => True) t v) (ht:t.ok) (hk:allV t (C.length:Int)) (n:Int) {m:Nat} (hm:w.heap.size=m) :
 Calls Tryz.prog 203 #[.pointer (some ⟨sb,0,none⟩),.int .i64 n,v,.map (some m)] (w.alloc (.map #[] 0)) fun e w' => (∃ b,e=.returned (.bool b)∧(b=true↔Reach L n t))∧Below w.heap.size w w':=by
 subst hm
 have BW:=belS (Below.refl w.heap.size w) (.map #[] 0)
 obtain ⟨r,hr⟩:=hc.ok.acyc
 obtain ⟨K,hK⟩:=rank_bound r t
 have O:So (w.alloc (.map #[] 0)) B sb w.heap.size C R M L []:=⟨h.below BW,hc.below BW,(show (fun _ => none)=seenM [] by funext i;simp [seenM]) ▸ IM.made w,List.Pairwise.nil,fun _ h => absurd h List.not_mem_nil⟩
 refine (occ_any hr K t _ _ _ _ _ _ _ _ _ O (hv.below BW) ht hk hK (fun u hu => absurd hu List.not_mem_nil)).mono ?_
 rintro e w' ⟨b,rfl,hb,S',_,hbut,_⟩
 exact ⟨⟨b,rfl,hb⟩,BW.trans (hbut.below (Nat.le_refl _) (by simp))⟩
theorem SSt.make {V X:World} {a b:T} {ka na:Int} {sa:ByteArray} {Aa:Option Addr} {ma ca:Nat} {kb nb:Int} {sb:ByteArray} {Ab:Option Addr} {mb cb:Nat} {u0 u1 u2 u3 v0 v1 v2 v3:Value} (hb:Below V.heap.size V X)
 (hx:X.heap[V.heap.size]? =some (.cells #[u0,u1,u2,u3] 51 (0,0))) (hy:X.heap[V.heap.size+1]? =some (.cells #[v0,v1,v2,v3] 51 (0,0)))
 (ha:TP V (fun _ => True) a (.agg #[.int .i64 ka,.int .i64 na,.string sa,.slice Aa ma ca])) (hbb:TP V (fun _ => True) b (.agg #[.int .i64 kb,.int .i64 nb,.string sb,.slice Ab mb cb])) :
 SSt V a b ((((((((X.setCell ⟨V.heap.size,0,none⟩ (.int .i64 ka)).setCell ⟨V.heap.size,1,none⟩ (.int .i64 na)).setCell ⟨V.heap.size,2,none⟩ (.string sa)).setCell ⟨V.heap.size,3,none⟩ (.slice Aa ma ca)).setCell ⟨V.heap.size+1,0,none⟩ (.int .i64 kb)).setCell ⟨V.heap.size+1,1,none⟩ (.int .i64 nb)).setCell ⟨V.heap.size+1,2,none⟩ (.string sb)).setCell ⟨V.heap.size+1,3,none⟩ (.slice Ab mb cb)) ka na sa Aa ma ca kb nb sb Ab mb cb:=by
 obtain ⟨p0,p1,p2⟩:=put_new0 hx (Nat.le_refl _) hb (.int .i64 ka) (.int .i64 na) (.string sa) (.slice Aa ma ca)
 obtain ⟨q0,q1,q2⟩:=put_new0 ((p1 _ (by omega)).trans hy) (Nat.le_succ _) p2 (.int .i64 kb) (.int .i64 nb) (.string sb) (.slice Ab mb cb)
 exact ⟨q2,(q1 _ (by omega)).trans p0,q0,ha,hbb⟩
theorem SSt.drew {V W:World} {a b:T} {ka na:Int} {sa:ByteArray} {Aa:Option Addr} {ma ca:Nat} {kb nb:Int} {sb:ByteArray} {Ab:Option Addr} {mb cb:Nat} (h:SSt V a b W ka na sa Aa ma ca kb nb sb Ab mb cb):SSt V a b W.drew ka na sa Aa ma ca kb nb sb Ab mb cb:=
 ⟨h.low.drew,h.ba,h.bb,h.ta,h.tb⟩
theorem SameP.stay {r:Res} {L:Bs} {f:Nat} {w:World} {B sb lb:Nat} {C:List CV} {R:List (CV × Nat)} {M:List (Nat × Nat)} {W:World} {er:Int} {fl:Nat} (hs:SM W B sb C R M) (hc:CL W C L) (hx:SX B lb w W) (hi:IBox W lb (fl:Int))
 (ho:(er=0∧r=.ok L fl∧fl≤f)∨(er=34∧r=.many)∨(er=80∧r=.unlike)):SameP r L f w B sb lb C R M (.returned (.int .i64 er)) W:=by
 refine ⟨er,fl,C,R,[],rfl,hs,by rw [List.append_nil];exact hc,Grew.refl _ _,hx,hi,by omega,?_⟩
 rw [List.append_nil]
 rcases ho with ⟨h1,h2,h3⟩ | h | h
 ·exact .inl ⟨h1,fl,rfl,h2,by omega,h3⟩
 ·exact .inr (.inl h)
 ·exact .inr (.inr h)
theorem IBox.sf {B:Nat} {w w':World} {lb:Nat} {f:Int} (h:IBox w lb f) (hf:SF B w w'):IBox w' lb f:=hf.far _ _ h (notSt_of (by decide))
theorem SameP.bound {r:Res} {L:Bs} {f:Nat} {w:World} {B sb lb:Nat} {C:List CV} {R:List (CV × Nat)} {M:List (Nat × Nat)} {W W':World} {n:Nat} {c:CV} {t:T} {tv:TV} (hs:SM W' B sb (C.set n ⟨true,tv,c.attr⟩) (R++[(c,n)]) M) (hsf:SF B W W')
 (hc:CL W C L) (hx:SX B lb w W) (hi:IBox W lb (f:Int)) (hcn:C[n]? =some c) (hno:findB L (n:Int)=none) (hok:EnvOk (L++[((n:Int),t)])) (hkn:allV t (C.length:Int)) (htp:TP W (fun _ => True) t (.agg #[.int .i64 tv.k,.int .i64 tv.n,.string tv.s,.slice tv.A tv.m tv.c]))
 (hr:r=.ok (L++[((n:Int),t)]) f):SameP r L (f+1) w B sb lb C R M (.returned (.int .i64 0)) W':=by
 refine ⟨0,f,_,_,[((n:Int),t)],rfl,hs,hc.bindAt (fun h => h.sf hsf) hcn hno hok hkn c.attr htp,Grew.bind hcn tv t,hx.trans (SX.sf hsf),hi.sf hsf,by simp,.inl ⟨rfl,f,rfl,hr,by simp;omega,by omega⟩⟩
set_option maxRecDepth 100000 in
set_option maxHeartbeats 8000000 in
theorem same_succ (f:Nat) (ih:∀ f1,f1≤f→SameC f1):SameC (f+1):=by
 intro w B sb lb C R M L ta tb va vb hsm hcl hbx hB hf hR hva hvb oa ob ka kb
 obtain ⟨k0,k1,k2,A0,m0,c0,rfl⟩:=hva.agg
 obtain ⟨j0,j1,j2,B0,n0,d0,rfl⟩:=hvb.agg
 have hbx':IBox w lb ((f:Int)+1):=by rw [← Int.natCast_succ];exact hbx
 obtain ⟨hx0,hxl,hxf⟩:=box_int hbx'
 obtain ⟨V,hV⟩:∃ V,V=w.setCell ⟨lb,0,none⟩ (.int .i64 (f:Int)):=⟨_,rfl⟩
 have HP:=box_put1 hbx (f:Int)
 rw [← hV] at HP
 have hVs:=HP.2.2
 have H:=Lib.hid (hsm.butI HP.2.1 hbx)
 have HC:=Lib.hid (hcl.butI HP.2.1 hbx)
 have HA:=Lib.hid (hva.butI HP.2.1 hbx)
 have HB:=Lib.hid (hvb.butI HP.2.1 hbx)
 have HI:=Lib.hid HP.1
 have HBT:=Lib.hid HP.2.1
 have IH:=Lib.hid ih
 have KA:=Lib.hid ka
 have KB:=Lib.hid kb
 have hBs:B≤V.heap.size:=by omega
 have hlV:lb < V.heap.size:=by omega
 have hf0:¬ ((f:Int) < 0):=by omega
 have B2:=Lib.hid (belS (belS (Below.refl V.heap.size V) (Obj.cells #[.int .i64 k0,.int .i64 k1,.string k2,.slice A0 m0 c0] 51)) (Obj.cells #[.int .i64 j0,.int .i64 j1,.string j2,.slice B0 n0 d0] 51))
 have X0:=Lib.hid (show ((V.alloc (Obj.cells #[.int .i64 k0,.int .i64 k1,.string k2,.slice A0 m0 c0] 51)).alloc (Obj.cells #[.int .i64 j0,.int .i64 j1,.string j2,.slice B0 n0 d0] 51)).heap[V.heap.size]? =some (.cells #[.int .i64 k0,.int .i64 k1,.string k2,.slice A0 m0 c0] 51 (0,0)) from
  (Below.heap_alloc _ _ _ (by simp)).trans (heap_alloc_new V _))
 have Y0:=Lib.hid (show ((V.alloc (Obj.cells #[.int .i64 k0,.int .i64 k1,.string k2,.slice A0 m0 c0] 51)).alloc (Obj.cells #[.int .i64 j0,.int .i64 j1,.string j2,.slice B0 n0 d0] 51)).heap[V.heap.size+1]? =some (.cells #[.int .i64 j0,.int .i64 j1,.string j2,.slice B0 n0 d0] 51 (0,0)) from
  (congrArg _ (by simp)).trans (heap_alloc_new _ _))
 clear hsm hcl hbx hbx' hva hvb ih ka kb HP
 go_enter Tryz.func129,Tryz.ntmps129
 go_upto_region 2 with fail
 rw [← hV,← hVs]
 have HVS:=Lib.hid hVs
 clear hV hVs hx0 hxl hxf
 obtain ⟨z0,zl,zf⟩:=box_int (HI.out.below B2.out)
 have CA:=Lib.hid (show ∀ W,Below V.heap.size V W→Calls Tryz.prog 90 #[.pointer (some ⟨sb,0,none⟩),.agg #[.int .i64 k0,.int .i64 k1,.string k2,.slice A0 m0 c0]] W fun e w' => (∃ v',e=.returned v'∧TP V (fun _ => True) (walkN L ta) v')∧Below W.heap.size W w' from fun W hW => swalk_any H.out HC.out HA.out oa hW)
 have CB:=Lib.hid (show ∀ W,Below V.heap.size V W→Calls Tryz.prog 90 #[.pointer (some ⟨sb,0,none⟩),.agg #[.int .i64 j0,.int .i64 j1,.string j2,.slice B0 n0 d0]] W fun e w' => (∃ v',e=.returned v'∧TP V (fun _ => True) (walkN L tb) v')∧Below W.heap.size W w' from fun W hW => swalk_any H.out HC.out HB.out ob hW)
 go_wp2_with fail
 go_cut [] (fun wx => ∃ ka na sa Aa ma ca kb nb sb' Ab mb cb,SSt V (walkN L ta) (walkN L tb) wx ka na sa Aa ma ca kb nb sb' Ab mb cb)
 case first =>
  obtain ⟨W2,hW2⟩:∃ W2,W2=(V.alloc (Obj.cells #[.int .i64 k0,.int .i64 k1,.string k2,.slice A0 m0 c0] 51)).alloc (Obj.cells #[.int .i64 j0,.int .i64 j1,.string j2,.slice B0 n0 d0] 51):=⟨_,rfl⟩
  rw [← hW2] at B2 X0 Y0 ⊢
  clear hW2
  have hb2:=B2.out
  have BR:=Below.refl W2.heap.size W2
  have KX:=Lib.hid (show ∀ w',Below W2.heap.size W2 w'→w'.heap[V.heap.size]? =some (.cells #[.int .i64 k0,.int .i64 k1,.string k2,.slice A0 m0 c0] 51 (0,0)) from fun w' hw => (hw.block _ (heap_lt X0.out)).trans X0.out)
  have KY:=Lib.hid (show ∀ w',Below W2.heap.size W2 w'→w'.heap[V.heap.size+1]? =some (.cells #[.int .i64 j0,.int .i64 j1,.string j2,.slice B0 n0 d0] 51 (0,0)) from fun w' hw => (hw.block _ (heap_lt Y0.out)).trans Y0.out)
  obtain ⟨x0,x1,x2,x3⟩:=box4 X0.out
  obtain ⟨y0,y1,y2,y3⟩:=box4 Y0.out
  have xl:=heap_lt X0.out
  have yl:=heap_lt Y0.out
  go_region_law (go_simp;first
   | (go_at_call 90;(with_reducible refine (CA.out _ (hb2.trans (Below.mono (by (repeat (first | (with_reducible assumption) | (with_reducible exact Below.refl _ _) | (with_reducible refine Below.drew ?_)))) hb2.size))).mono ?_);rintro e wa ⟨⟨va,rfl,hta⟩,hwa⟩;have bwa:Below W2.heap.size W2 wa:=belC (by (repeat (first | (with_reducible assumption) | (with_reducible exact Below.refl _ _) | (with_reducible refine Below.drew ?_)))) hwa;obtain ⟨p0,p1,p2,pA,pm,pc,rfl⟩:=hta.agg;have HXA:=Lib.hid (KX.out wa bwa);have HYA:=Lib.hid (KY.out wa bwa);obtain ⟨ax0,ax1,ax2,ax3⟩:=box4 HXA.out;obtain ⟨ay0,ay1,ay2,ay3⟩:=box4 HYA.out;have axl:=heap_lt HXA.out;have ayl:=heap_lt HYA.out;have axf:=unfrozen HXA.out;have ayf:=unfrozen HYA.out)
   | (go_at_call 90;(with_reducible refine (CB.out _ (hb2.trans (Below.mono (by (repeat (first | (with_reducible assumption) | (with_reducible exact Below.refl _ _) | (with_reducible refine Below.drew ?_)))) hb2.size))).mono ?_);rintro e wb ⟨⟨vb,rfl,htb⟩,hwb⟩;have bwb:Below W2.heap.size W2 wb:=belC (by (repeat (first | (with_reducible assumption) | (with_reducible exact Below.refl _ _) | (with_reducible refine Below.drew ?_)))) hwb;obtain ⟨q0,q1,q2,qA,qm,qc,rfl⟩:=htb.agg;have HXB:=Lib.hid (KX.out wb bwb);have HYB:=Lib.hid (KY.out wb bwb);obtain ⟨bx0,bx1,bx2,bx3⟩:=box4 HXB.out;obtain ⟨by0,by1,by2,by3⟩:=box4 HYB.out;have bxl:=heap_lt HXB.out;have byl:=heap_lt HYB.out;have bxf:=unfrozen HXB.out;have byf:=unfrozen HYB.out))
  all_goals
   have HS:=Lib.hid (SSt.make (hb2.trans (bwb.mono hb2.size)) HXB.out HYB.out hta htb)
   go_wp2_with fail
   go_meet
  all_goals exact ⟨_,_,_,_,_,_,_,_,_,_,_,_,by first | exact HS.out | exact HS.out.drew⟩
 case rest =>
  obtain ⟨ka,na,sa,Aa,ma,ca,kb,nb,sc,Ab,mb,cb,st⟩:=hcut
  obtain ⟨fa,ha⟩:=st.ta.shape
  obtain ⟨fb,hb⟩:=st.tb.shape
  have HTA:=Lib.hid ha
  have HTB:=Lib.hid hb
  have oka:=HC.out.ok.walk_ok oa
  have okb:=HC.out.ok.walk_ok ob
  have da:=HC.out.ok.walk_done ta
  have db:=HC.out.ok.walk_done tb
  have kna:=HC.out.walk_known KA.out
  have knb:=HC.out.walk_known KB.out
  have hu:=uniF_one f L ta tb
  have hta:=st.ta
  have htb:=st.tb
  rw [ha] at oka da hu hta kna
  rw [hb] at okb db hu htb knb
  have HU:=Lib.hid hu
  have OA:=Lib.hid oka
  have OB:=Lib.hid okb
  have DA:=Lib.hid da
  have DB:=Lib.hid db
  have NA:=Lib.hid kna
  have NB:=Lib.hid knb
  have TA:=Lib.hid (hta.below st.low)
  have TB:=Lib.hid (htb.below st.low)
  have HBD:=Lib.hid (show ∀ n t,stepU L (.mk ka na sa ma fa) (.mk kb nb sc mb fb)=.bind n t→findB L n=none∧EnvOk (L++[(n,t)]) from fun n t hs => by
   obtain ⟨b1,b2,b3,b4,b5⟩:=stepU_bind oka okb da db hs
   exact ⟨b1,HC.out.ok.bind b1 b2 b3 b4 b5⟩)
  obtain ⟨x0,x1,x2,x3⟩:=box4 st.ba
  obtain ⟨y0,y1,y2,y3⟩:=box4 st.bb
  have HBA:=Lib.hid st.ba
  have HBB:=Lib.hid st.bb
  have hl1:=heap_lt st.ba
  have hl2:=heap_lt st.bb
  have xf:=unfrozen st.ba
  have yf:=unfrozen st.bb
  have SW:=Lib.hid (H.out.below st.low)
  have CW:=Lib.hid (HC.out.below st.low)
  have IW:=Lib.hid (HI.out.below st.low)
  have XW:=Lib.hid (SX.but (HBT.out.trans (But.of st.low)) hB (by have:=HVS.out;omega))
  have ST:=Lib.hid st
  clear ha hb oka okb da db kna knb hu hta htb st B2 HA HB X0 Y0 z0 zl zf CA CB
  cases hka:(ka == 1) with
  | true =>
   obtain rfl:ka=1:=by simpa using hka
   obtain ⟨ia,rfl,hia⟩:∃ i:Nat,na=(i:Int)∧i < C.length:=by
    have h1:=OA.out.var rfl
    have h2:=NA.out na (.inl ⟨rfl,rfl⟩)
    exact ⟨na.toNat,by omega,by omega⟩
   obtain ⟨cva,hca⟩:=at_of_lt hia
   have HCA:=Lib.hid hca
   cases hkb:(kb == 1) with
   | true =>
    obtain rfl:kb=1:=by simpa using hkb
    obtain ⟨ib,rfl,hib⟩:∃ i:Nat,nb=(i:Int)∧i < C.length:=by
     have h1:=OB.out.var rfl
     have h2:=NB.out nb (.inl ⟨rfl,rfl⟩)
     exact ⟨nb.toNat,by omega,by omega⟩
    obtain ⟨cvb,hcb⟩:=at_of_lt hib
    have HCB:=Lib.hid hcb
    rcases Int.lt_trichotomy (ia:Int) (ib:Int) with hlt | heq | hgt
    ·have hs:stepU L (.mk 1 (ia:Int) sa ma fa) (.mk 1 (ib:Int) sc mb fb)=.bind (ib:Int) (.mk 1 (ia:Int) sa ma fa):=by rw [stepU_vv,if_neg (by omega),if_pos hlt]
     have HR:=Lib.hid (show uniF (f+1) L [(ta,tb)]=.ok (L++[((ib:Int),.mk 1 (ia:Int) sa ma fa)]) f by rw [HU.out,hs])
     have HD:=Lib.hid (HBD.out _ _ hs)
     have CX:=Lib.hid (sbind_any SW.out (by omega) HCB.out ⟨1,(ia:Int),⟨#[]⟩,none,0,0⟩)
     have hnb:((ia:Int) != (ib:Int))=true:=by simp;omega
     have hv:=OA.out.var rfl
     obtain ⟨_,_,rfl,rfl⟩:=hv
     have hle:¬ ((ia:Int) > (ib:Int)):=by omega
     clear hs hca hcb
     go_wp2_with fail
     refine CX.out.mono ?_
     rintro e w5 ⟨rfl,hs5,hf5⟩
     have S5:=Lib.hid hs5
     have F5:=Lib.hid hf5
     clear hs5 hf5 CX
     go_wp2_with fail
     go_ret
     exact SameP.bound S5.out F5.out CW.out XW.out IW.out HCB.out HD.out.1 HD.out.2 NA.out (TP.leaf0 _ _ _ _ _ _) HR.out
    ·have hs:stepU L (.mk 1 (ia:Int) sa ma fa) (.mk 1 (ib:Int) sc mb fb)=.args 0 fa fb:=by rw [stepU_vv,if_pos heq]
     have HR:=Lib.hid (show uniF (f+1) L [(ta,tb)]=.ok L f by rw [HU.out,hs];exact uniF_nil _ _)
     have hnb:((ia:Int) != (ib:Int))=false:=by simp;omega
     clear hs hca hcb heq
     go_wp2_with fail
     go_ret
     exact SameP.stay SW.out CW.out XW.out IW.out (.inl ⟨rfl,HR.out,by omega⟩)
    ·have hs:stepU L (.mk 1 (ia:Int) sa ma fa) (.mk 1 (ib:Int) sc mb fb)=.bind (ia:Int) (.mk 1 (ib:Int) sc mb fb):=by rw [stepU_vv,if_neg (by omega),if_neg (by omega)]
     have HR:=Lib.hid (show uniF (f+1) L [(ta,tb)]=.ok (L++[((ia:Int),.mk 1 (ib:Int) sc mb fb)]) f by rw [HU.out,hs])
     have HD:=Lib.hid (HBD.out _ _ hs)
     have CX:=Lib.hid (sbind_any SW.out (by omega) HCA.out ⟨1,(ib:Int),⟨#[]⟩,none,0,0⟩)
     have hnb:((ia:Int) != (ib:Int))=true:=by simp;omega
     have hv:=OB.out.var rfl
     obtain ⟨_,_,rfl,rfl⟩:=hv
     have hle:(ia:Int) > (ib:Int):=by omega
     clear hs hca hcb
     go_wp2_with fail
     refine CX.out.mono ?_
     rintro e w5 ⟨rfl,hs5,hf5⟩
     have S5:=Lib.hid hs5
     have F5:=Lib.hid hf5
     clear hs5 hf5 CX
     go_wp2_with fail
     go_ret
     exact SameP.bound S5.out F5.out CW.out XW.out IW.out HCA.out HD.out.1 HD.out.2 NB.out (TP.leaf0 _ _ _ _ _ _) HR.out
   | false =>
    have hkb1:kb≠1:=by simpa using hkb
    have HYES:=Lib.hid (show Reach L (ia:Int) (.mk kb nb sc mb fb)→uniF (f+1) L [(ta,tb)]=.unlike from fun h => by rw [HU.out,stepU_v_yes rfl hkb1 h])
    have HNO:=Lib.hid (show ¬ Reach L (ia:Int) (.mk kb nb sc mb fb)→uniF (f+1) L [(ta,tb)]=.ok (L++[((ia:Int),.mk kb nb sc mb fb)]) f from fun h => by rw [HU.out,stepU_v_no rfl hkb1 h])
    have HDD:=Lib.hid (show ¬ Reach L (ia:Int) (.mk kb nb sc mb fb)→_ from fun h => HBD.out _ _ (stepU_v_no rfl hkb1 h))
    have MK:∀ W:World,(Instr.makeMap 155 none).run Tryz.prog W=.ok (.map (some W.heap.size)) (W.alloc (.map #[] 0)):=fun W => run_makeMap _ W
    have CO:=Lib.hid (occursNew SW.out CW.out TB.out OB.out NB.out (ia:Int) rfl)
    clear hca hkb1
    go_wp2_with fail
    refine CO.out.mono ?_
    rintro e w5 ⟨⟨b,rfl,hb⟩,h5⟩
    have S5:=Lib.hid (SW.out.below h5)
    have C5:=Lib.hid (CW.out.below h5)
    have I5:=Lib.hid (IW.out.below h5)
    have X5:=Lib.hid (XW.out.trans (SX.but (But.of h5) hB (Nat.le_of_lt (Nat.lt_of_le_of_lt hB (box_int IW.out).2.1))))
    have T5:=Lib.hid (TB.out.below h5)
    have HX5:=(h5.block _ hl1).trans HBA.out
    have HY5:=(h5.block _ hl2).trans HBB.out
    have hl15:=heap_lt HX5
    have hl25:=heap_lt HY5
    clear x0 x1 x2 x3 y0 y1 y2 y3
    obtain ⟨x0,x1,x2,x3⟩:=box4 HX5
    obtain ⟨y0,y1,y2,y3⟩:=box4 HY5
    clear h5 HX5 HY5 CO MK
    cases b with
    | true =>
     have HR:=Lib.hid (HYES.out (hb.mp rfl))
     clear hb
     go_wp2_with fail
     go_ret
     exact SameP.stay S5.out C5.out X5.out I5.out (.inr (.inr ⟨rfl,HR.out⟩))
    | false =>
     have hnr:¬ Reach L (ia:Int) (.mk kb nb sc mb fb):=fun h => by have:=hb.mpr h;cases this
     have HR:=Lib.hid (HNO.out hnr)
     have HD:=Lib.hid (HDD.out hnr)
     have CX:=Lib.hid (sbind_any S5.out (by omega) HCA.out ⟨kb,nb,sc,Ab,mb,cb⟩)
     clear hb hnr
     go_wp2_with fail
     refine CX.out.mono ?_
     rintro e w6 ⟨rfl,hs6,hf6⟩
     have S6:=Lib.hid hs6
     have F6:=Lib.hid hf6
     clear hs6 hf6 CX
     go_wp2_with fail
     go_ret
     exact SameP.bound S6.out F6.out C5.out X5.out I5.out HCA.out HD.out.1 HD.out.2 NB.out T5.out HR.out
  | false =>
   have hka1:ka≠1:=by simpa using hka
   cases hkb:(kb == 1) with
   | true =>
    obtain rfl:kb=1:=by simpa using hkb
    obtain ⟨ib,rfl,hib⟩:∃ i:Nat,nb=(i:Int)∧i < C.length:=by
     have h1:=OB.out.var rfl
     have h2:=NB.out nb (.inl ⟨rfl,rfl⟩)
     exact ⟨nb.toNat,by omega,by omega⟩
    obtain ⟨cvb,hcb⟩:=at_of_lt hib
    have HCB:=Lib.hid hcb
    have HYES:=Lib.hid (show Reach L (ib:Int) (.mk ka na sa ma fa)→uniF (f+1) L [(ta,tb)]=.unlike from fun h => by rw [HU.out,stepU_w_yes hka1 rfl h])
    have HNO:=Lib.hid (show ¬ Reach L (ib:Int) (.mk ka na sa ma fa)→uniF (f+1) L [(ta,tb)]=.ok (L++[((ib:Int),.mk ka na sa ma fa)]) f from fun h => by rw [HU.out,stepU_w_no hka1 rfl h])
    have HDD:=Lib.hid (show ¬ Reach L (ib:Int) (.mk ka na sa ma fa)→_ from fun h => HBD.out _ _ (stepU_w_no hka1 rfl h))
    have MK:∀ W:World,(Instr.makeMap 155 none).run Tryz.prog W=.ok (.map (some W.heap.size)) (W.alloc (.map #[] 0)):=fun W => run_makeMap _ W
    have HSW:=Lib.hid (SSt.make ST.out.low ST.out.ba ST.out.bb ST.out.tb ST.out.ta)
    have SZ:=Lib.hid (H.out.below HSW.out.low)
    have CZ:=Lib.hid (HC.out.below HSW.out.low)
    have IZ:=Lib.hid (HI.out.below HSW.out.low)
    have XZ:=Lib.hid (SX.but (HBT.out.trans (But.of HSW.out.low)) hB (by have:=HVS.out;omega))
    have hta:=ST.out.ta
    rw [show walkN L ta=_ from HTA.out] at hta
    have TZ:=Lib.hid (hta.below HSW.out.low)
    have CO:=Lib.hid (fun m hm => occursNew SZ.out CZ.out TZ.out OA.out NA.out (ib:Int) (m:=m) hm)
    clear hcb hka1 hta
    go_wp2_with fail
    refine (CO.out _ (by simp)).mono ?_
    rintro e w5 ⟨⟨b,rfl,hb⟩,h5⟩
    have S5:=Lib.hid (SZ.out.below h5)
    have C5:=Lib.hid (CZ.out.below h5)
    have I5:=Lib.hid (IZ.out.below h5)
    have X5:=Lib.hid (XZ.out.trans (SX.but (But.of h5) hB (Nat.le_of_lt (Nat.lt_of_le_of_lt hB (box_int IZ.out).2.1))))
    have T5:=Lib.hid (TZ.out.below h5)
    have HX5:=(h5.block _ (heap_lt HSW.out.ba)).trans HSW.out.ba
    have HY5:=(h5.block _ (heap_lt HSW.out.bb)).trans HSW.out.bb
    have hl15:=heap_lt HX5
    have hl25:=heap_lt HY5
    clear x0 x1 x2 x3 y0 y1 y2 y3
    obtain ⟨x0,x1,x2,x3⟩:=box4 HX5
    obtain ⟨y0,y1,y2,y3⟩:=box4 HY5
    clear h5 HX5 HY5 CO MK
    cases b with
    | true =>
     have HR:=Lib.hid (HYES.out (hb.mp rfl))
     clear hb
     go_wp2_with fail
     go_ret
     exact SameP.stay S5.out C5.out X5.out I5.out (.inr (.inr ⟨rfl,HR.out⟩))
    | false =>
     have hnr:¬ Reach L (ib:Int) (.mk ka na sa ma fa):=fun h => by have:=hb.mpr h;cases this
     have HR:=Lib.hid (HNO.out hnr)
     have HD:=Lib.hid (HDD.out hnr)
     have CX:=Lib.hid (sbind_any S5.out (by omega) HCB.out ⟨ka,na,sa,Aa,ma,ca⟩)
     clear hb hnr
     go_wp2_with fail
     refine CX.out.mono ?_
     rintro e w6 ⟨rfl,hs6,hf6⟩
     have S6:=Lib.hid hs6
     have F6:=Lib.hid hf6
     clear hs6 hf6 CX
     go_wp2_with fail
     go_ret
     exact SameP.bound S6.out F6.out C5.out X5.out I5.out HCB.out HD.out.1 HD.out.2 NA.out T5.out HR.out
   | false =>
    have hkb1:kb≠1:=by simpa using hkb
    have HFAIL:=Lib.hid (show (ka≠kb∨(ka=2∧na≠nb)∨sa≠sc∨ma≠mb)→uniF (f+1) L [(ta,tb)]=.unlike from fun h => by rw [HU.out,stepU_no hka1 hkb1 h])
    have HPASS:=Lib.hid (show ka=kb→(ka=2→na=nb)→sa=sc→ma=mb→uniF (f+1) L [(ta,tb)]=uniF f L (pairsOf ma fa fb) from fun h1 h2 h3 h4 => by rw [HU.out,stepU_yes hka1 hkb1 h1 h2 h3 h4])
    clear hka1 hkb1
    go_upto_region 16 with fail
    go_cut [103] (fun s wx => SSt V (walkN L ta) (walkN L tb) wx ka na sa Aa ma ca kb nb sc Ab mb cb∧∃ bb:Bool,s=.bool bb∧FailB ka na sa ma kb nb sc mb bb)
    case first =>
     by_cases hkk:ka=kb
     ·subst hkk
      rcases OA.out.1.1 with h | h | h | h
      ·exact absurd h.1 (by simpa using hka)
      ·obtain ⟨rfl,_,rfl,rfl⟩:=h
       obtain ⟨rfl,rfl⟩:sc=⟨#[]⟩∧mb=0:=by
        rcases OB.out.1.1 with h | h | h | h
        ·exact absurd h.1 (by decide)
        ·exact ⟨h.2.2.1,h.2.2.2⟩
        ·exact absurd h.1 (by decide)
        ·exact absurd h.1 (by decide)
       by_cases hnn:na=nb
       ·subst hnn
        go_wp2_with fail
        go_meet
        case rel => exact ⟨ST.out,false,rfl,(fun h => by cases h),fun _ => ⟨rfl,fun _ => rfl,rfl,rfl⟩⟩
       ·have hnb:(na != nb)=true:=by simpa using hnn
        go_wp2_with fail
        go_meet
        case rel => exact ⟨ST.out,true,rfl,fun _ => .inr (.inl ⟨rfl,hnn⟩),(fun h => by cases h)⟩
      ·obtain ⟨rfl,_,_,rfl⟩:=h
       obtain rfl:mb=0:=by
        rcases OB.out.1.1 with h | h | h | h
        ·exact absurd h.1 (by decide)
        ·exact absurd h.1 (by decide)
        ·exact h.2.2.2
        ·exact absurd h.1 (by decide)
       by_cases hss:sa=sc
       ·subst hss
        go_wp2_with fail
        go_meet
        case rel => exact ⟨ST.out,false,rfl,(fun h => by cases h),fun _ => ⟨rfl,(fun h => by cases h),rfl,rfl⟩⟩
       ·have hsl:¬ sa.toList=sc.toList:=fun h => hss (bytes_eq h)
        have HSS:=Lib.hid hss
        clear hss
        go_wp2_with fail
        go_meet
        case rel => exact ⟨ST.out,true,rfl,fun _ => .inr (.inr (.inl HSS.out)),(fun h => by cases h)⟩
      ·obtain ⟨rfl,_,_,_⟩:=h
       by_cases hss:sa=sc
       ·subst hss
        by_cases hmm:ma=mb
        ·subst hmm
         go_wp2_with fail
         go_meet
         case rel => exact ⟨ST.out,false,rfl,(fun h => by cases h),fun _ => ⟨rfl,(fun h => by cases h),rfl,rfl⟩⟩
        ·have HMM:=Lib.hid hmm
         have hmi:((ma:Int) != (mb:Int))=true:=by simp;omega
         clear hmm
         go_wp2_with fail
         go_meet
         case rel => exact ⟨ST.out,true,rfl,fun _ => .inr (.inr (.inr HMM.out)),(fun h => by cases h)⟩
       ·have hsl:¬ sa.toList=sc.toList:=fun h => hss (bytes_eq h)
        have HSS:=Lib.hid hss
        clear hss
        go_wp2_with fail
        go_meet
        case rel => exact ⟨ST.out,true,rfl,fun _ => .inr (.inr (.inl HSS.out)),(fun h => by cases h)⟩
     ·have hkn:(ka != kb)=true:=by simpa using hkk
      have HKK:=Lib.hid hkk
      clear hkk
      go_wp2_with fail
      go_meet
      case rel => exact ⟨ST.out,true,rfl,fun _ => .inl HKK.out,(fun h => by cases h)⟩
    case rest =>
     clear x0 x1 x2 x3 y0 y1 y2 y3 HBA HBB hl1 hl2 xf yf SW CW IW XW TA TB ST
     obtain ⟨st,bb,rfl,hfb⟩:=hcut
     have SW:=Lib.hid (H.out.below st.low)
     have CW:=Lib.hid (HC.out.below st.low)
     have IW:=Lib.hid (HI.out.below st.low)
     have XW:=Lib.hid (SX.but (HBT.out.trans (But.of st.low)) hB (by have:=HVS.out;omega))
     have hta:=st.ta.below st.low
     have htb:=st.tb.below st.low
     rw [HTA.out] at hta
     rw [HTB.out] at htb
     have TA:=Lib.hid hta
     have TB:=Lib.hid htb
     have HBA:=Lib.hid st.ba
     have HBB:=Lib.hid st.bb
     obtain ⟨x0,x1,x2,x3⟩:=box4 st.ba
     obtain ⟨y0,y1,y2,y3⟩:=box4 st.bb
     have hl1:=heap_lt st.ba
     have hl2:=heap_lt st.bb
     clear st hta htb
     cases bb with
     | true =>
      have HR:=Lib.hid (HFAIL.out (hfb.1 rfl))
      clear hfb
      go_wp2_with fail
      go_ret
      exact SameP.stay SW.out CW.out XW.out IW.out (.inr (.inr ⟨rfl,HR.out⟩))
     | false =>
      obtain ⟨rfl,h2,rfl,rfl⟩:=hfb.2 rfl
      have HR:=Lib.hid (HPASS.out rfl h2 rfl rfl)
      have hmaf:=OA.out.few
      have HP4:=Lib.hid (show 0 < ma→ka=4 from fun h => Classical.byContradiction fun e => by have:=OA.out.plain e;omega)
      have L0:=Lib.hid (show SLp f L w V B sb lb C R M ka na nb sa Aa ma ca Ab cb fa fb _ 0 f C R [] from ⟨SW.out,by rw [List.append_nil];exact CW.out,Grew.refl _ _,XW.out,IW.out,Nat.le_refl _,Nat.le_refl _,HBA.out,HBB.out,TA.out,TB.out,by rw [List.append_nil];rfl⟩)
      clear hfb h2 HFAIL HPASS HU DA DB HBD
      go_wp2_with fail
      go_loopw [107] (fun iv wr => ∃ (i f1:Nat) (C1:List CV) (R1:List (CV × Nat)) (N1:Bs),iv=.int .i64 (i:Int)∧i≤ma∧SLp f L w V B sb lb C R M ka na nb sa Aa ma ca Ab cb fa fb wr i f1 C1 R1 N1) (fun iv _ => ma - (intOf iv).toNat)
      case atStart => exact ⟨0,f,C,R,[],rfl,Nat.zero_le _,L0.out⟩
      case round =>
       clear L0 x0 x1 x2 x3 y0 y1 y2 y3 HBA HBB hl1 hl2 SW CW IW XW TA TB
       obtain ⟨i,f1,C1,R1,N1,rfl,hi,hl⟩:=hrel
       have RR:=Lib.hid hl
       obtain ⟨x0,x1,x2,x3⟩:=box4 hl.ba
       obtain ⟨y0,y1,y2,y3⟩:=box4 hl.bb
       have hl1:=heap_lt hl.ba
       have hl2:=heap_lt hl.bb
       have hlen:=hl.gr.len
       by_cases him:i < ma
       ·have him':(i:Int) < (ma:Int):=by omega
        obtain ⟨_,_,_,_,_,_,hargs⟩:=hl.ta.args
        obtain ⟨ga,u0,u1,u2,U0,um,uc,rfl,_,hga,d0,d1,d2,d3,hti⟩:=hargs i him
        obtain ⟨_,_,_,_,_,_,hbrgs⟩:=hl.tb.args
        obtain ⟨gb,v0,v1,v2,V0,vm,vc,rfl,_,hgb,e0,e1,e2,e3,htj⟩:=hbrgs i him
        have CU:=Lib.hid (fun (WX:World) (hW:Below _ _ WX) => IH.out f1 hl.le WX B sb lb C1 R1 M (L++N1) (fa i) (fb i) _ _ (hl.sm.below hW) (hl.cl.below hW) (hl.bx.below hW) hB (by have:=hl.le;omega) (by have:=hl.few;omega) (hti.below hW) (htj.below hW) (OA.out.arg him) (OB.out.arg him) (by rw [hlen];exact allV_arg NA.out HP4.out him) (by rw [hlen];exact allV_arg NB.out HP4.out him))
        clear hti htj hargs hbrgs hlen hl
        go_upto_region 21 with fail
        go_cut [10] (fun s wx => ∃ er f6 C6 R6 N6,s=.int .i64 er∧SameQ (uniF f1 (L++N1) [(fa i,fb i)]) (L++N1) f1 wr B sb lb C1 R1 M wx er f6 C6 R6 N6)
        case first =>
         go_wp2_with fail
         go_region_law (go_simp;go_at_call 129;(with_reducible refine (CU.out _ (by (repeat (first | (with_reducible exact Below.refl _ _) | (with_reducible refine Below.drew ?_))))).mono ?_);rintro e w6 ⟨er,f6,C6,R6,N6,rfl,hq⟩)
         all_goals
          go_wp2_with fail
          go_meet
         all_goals exact ⟨_,_,_,_,_,rfl,by first | exact hq | exact hq.undrew⟩
        case rest =>
         clear d0 d1 d2 d3 e0 e1 e2 e3 x0 x1 x2 x3 y0 y1 y2 y3 hl1 hl2 CU
         obtain ⟨er,f6,C6,R6,N6,rfl,hq⟩:=hcut
         have Q:=Lib.hid hq
         have hout:=hq.out
         have hQ:=Lib.hid (show uniF f L (pairsOf ma fa fb)=(uniF f1 (L++N1) [(fa i,fb i)]).then (pairsFrom (i+1) ma fa fb) by rw [RR.out.eq,pairsFrom_step him,uniF_cons])
         clear hq
         rcases hout with ⟨rfl,f2,rfl,hr,hle,hlf⟩ | ⟨rfl,hr⟩ | ⟨rfl,hr⟩
         ·have HRR:=Lib.hid hr
          clear hr
          go_wp2_with fail
          go_roundw
          case rel =>
           have hfar:=fun {g:Nat} {cs:Array Value} (h:_=some (Obj.cells cs 51 (0,0))) => Q.out.fr.apart (g:=g) RR.out.bx h (by decide) (by decide)
           exact ⟨i+1,f2,C6,R6,N1++N6,by go_num,him,Q.out.sm,by rw [← List.append_assoc];exact Q.out.cl,RR.out.gr.trans Q.out.gr,RR.out.fr.trans Q.out.fr,Q.out.bx,by have:=RR.out.few;omega,by have:=RR.out.le;omega,hfar RR.out.ba,hfar RR.out.bb,RR.out.ta.sx Q.out.fr RR.out.bx,RR.out.tb.sx Q.out.fr RR.out.bx,by rw [hQ.out,HRR.out,← List.append_assoc];rfl⟩
          case measure => simp [intOf];omega
         ·have HRR:=Lib.hid hr
          clear hr
          go_wp2_with fail
          go_ret
          exact ⟨34,f6,C6,R6,N1++N6,rfl,Q.out.sm,by rw [← List.append_assoc];exact Q.out.cl,RR.out.gr.trans Q.out.gr,RR.out.fr.trans Q.out.fr,Q.out.bx,by have:=RR.out.few;have:=Q.out.few;omega,.inr (.inl ⟨rfl,by rw [HR.out,hQ.out,HRR.out];rfl⟩)⟩
         ·have HRR:=Lib.hid hr
          clear hr
          go_wp2_with fail
          go_ret
          exact ⟨80,f6,C6,R6,N1++N6,rfl,Q.out.sm,by rw [← List.append_assoc];exact Q.out.cl,RR.out.gr.trans Q.out.gr,RR.out.fr.trans Q.out.fr,Q.out.bx,by have:=RR.out.few;have:=Q.out.few;omega,.inr (.inr ⟨rfl,by rw [HR.out,hQ.out,HRR.out];rfl⟩)⟩
       ·obtain rfl:i=ma:=by omega
        have HR2:=Lib.hid (show uniF f L (pairsOf i fa fb)=.ok (L++N1) f1 by rw [hl.eq,pairsFrom_end,uniF_nil])
        clear hlen hl
        go_wp2_with fail
        go_ret
        exact ⟨0,f1,C1,R1,N1,rfl,RR.out.sm,RR.out.cl,RR.out.gr,RR.out.fr,RR.out.bx,by have:=RR.out.few;omega,.inl ⟨rfl,f1,rfl,by rw [HR.out,HR2.out],by have:=RR.out.few;omega,by have:=RR.out.le;omega⟩⟩
theorem ssame_any:∀ f,SameC f:=by
 intro f
 induction f using Nat.strongRecOn with
 | _ f ih =>
  cases f with
  | zero => exact same_zero
  | succ f => exact same_succ f fun f1 h => ih f1 (by omega)
end Go.Proofs.YtdgpmpccfjmmcaaGreatDoor
