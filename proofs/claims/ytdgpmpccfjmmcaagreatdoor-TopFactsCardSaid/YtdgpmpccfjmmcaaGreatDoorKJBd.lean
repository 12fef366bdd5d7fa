/- The machine's step. The machine goes back:a choice is taken off,and what is tried next. The machine goes back:further clauses are tried,or there is nothing. -/
import Derived.Test.YtdgpmpccfjmmcaaGreatDoorKJBc
import Derived.Test.YtdgpmpccfjmmcaaGreatDoorKJAq
import Derived.Test.YtdgpmpccfjmmcaaGreatDoorKJAd
import Derived.Deep.MidRow
set_option linter.unusedVariables false
set_option linter.unusedSimpArgs false
namespace Go.Proofs.YtdgpmpccfjmmcaaGreatDoor
open Go.RowKit
theorem step_open {X:MX} {S:Ms} {o:Oc} (ho:stepM (goalF X.pr) X.lim S=some o) (hp:plO o=true):∃ bar g r z g',S.fr=.goal bar g ::r∧S.steps+1≤X.lim.fuel∧okP S.n g=true∧szP S.L X.lim.room deepF 0 g=some z∧z≤X.lim.room∧r.length≤X.lim.stack∧resP S.L deepF g=some g'∧
 goalF X.pr {S with fr:=r,steps:=S.steps+1} g' bar=some o:=by
 unfold stepM at ho
 split at ho
 ·cases ho
 rename_i f r hfr
 split at ho
 ·injection ho with ho;subst ho;cases hp
 rename_i hfu
 split at ho
 ·rename_i bar g
  split at ho
  ·cases ho
  rename_i hok
  split at ho
  ·cases ho
  rename_i z hz
  split at ho
  ·injection ho with ho;subst ho;cases hp
  rename_i hzr
  split at ho
  ·injection ho with ho;subst ho;cases hp
  rename_i hst
  split at ho
  ·cases ho
  rename_i g' hg'
  exact ⟨bar,g,r,z,g',hfr,by omega,by simpa using hok,hz,by omega,by omega,hg',ho⟩
 ·cases ho
set_option maxRecDepth 100000 in
set_option maxHeartbeats 16000000 in
theorem step_any {X:MX} {S:Ms} {w:World} (h:MSt X S w) (hfa:∀ c ∈ X.pr,c.goals=[]) (gx:GX X w) (hl:X.lim.fuel≤100000∧0 < X.lim.room∧X.lim.room≤1000∧X.lim.stack≤1000) {o:Oc} (ho:stepM (goalF X.pr) X.lim S=some o) (hp:plO o=true)
 (hM:S.M.length≤100000) (hC:S.ch.length≤100000) (hF:S.fr.length≤100000) :
 Calls Tryz.prog 47 #[mP X] w fun e w' => OcM X o e w'∧KX X w w':=by
 obtain ⟨bar,g,r,z,g',hfr,hfu,hok,hz,hzr,hst,hres,hgo⟩:=step_open ho hp
 obtain ⟨fv,cv,hbx,hfl,hch⟩:=h.box
 rw [hfr] at hfl
 obtain ⟨b,cs,nx,rfl,hfc,hnx,hlk⟩:=hfl
 obtain ⟨ts,rfl,v0,v1,v2,v3,rfl,htp⟩:=hfc
 obtain ⟨k,n,s,A,m,c,e⟩:=htp.agg
 cases e
 obtain ⟨nxa,rfl⟩:=hnx.ptr
 have hlt:=h.lt
 have hlt1:=hlt.2.1
 have hlt2:=hlt.2.2.1
 have hne:=hlt.2.2.2
 have qg:g.lq:=h.frq _ (by rw [hfr];exact List.mem_cons_self) bar g rfl
 have hfq:frsQ r:=fun f hf => h.frq f (by rw [hfr];exact List.mem_cons_of_mem _ hf)
 obtain ⟨m1,k1⟩:=h.setFr hnx hfq
 obtain ⟨m2,k2⟩:=m1.tick
 have hm0:w.cell? ⟨X.mb,0,none⟩=some (.pointer (some ⟨b,0,none⟩)):=cell_of_row _ _ 0 _ _ _ hbx
 have hm8:w.cell? ⟨X.mb,8,none⟩=some (.pointer (some ⟨X.sp,0,none⟩)):=cell_of_row _ _ 8 _ _ _ hbx
 have fm:∀ j,w.frozen? ⟨X.mb,j,none⟩=false:=fun j => by simp [World.frozen?,hbx]
 have fs:w.frozen? ⟨X.sp,0,none⟩=false:=by simp [World.frozen?,h.steps]
 have hs0:w.cell? ⟨X.sp,0,none⟩=some (.int .i64 (S.steps:Int)):=cell_of_row _ _ 0 _ _ _ h.steps
 have c0:=cell_of_row _ _ 0 _ _ _ hlk
 have c1:=cell_of_row _ _ 1 _ _ _ hlk
 have c2:=cell_of_row _ _ 2 _ _ _ hlk
 have c3:=cell_of_row _ _ 3 _ _ _ hlk
 have c4:=cell_of_row _ _ 4 _ _ _ hlk
 have c5:=cell_of_row _ _ 5 _ _ _ hlk
 have c6:=cell_of_row _ _ 6 _ _ _ hlk
 have c7:=cell_of_row _ _ 7 _ _ _ hlk
 simp at c0 c1 c2 c3 c4 c5 c6 c7
 have M2:=Lib.hid (show MSt X {S with fr:=r,steps:=S.steps+1} ((w.setCell ⟨X.mb,0,none⟩ (.pointer nxa)).setCell ⟨X.sp,0,none⟩ (.int .i64 ((S.steps:Int)+1))) from m2)
 have K2:=Lib.hid (show KX X w ((w.setCell ⟨X.mb,0,none⟩ (.pointer nxa)).setCell ⟨X.sp,0,none⟩ (.int .i64 ((S.steps:Int)+1))) from k1.wk.trans k2)
 have KT:=KX.kt h K2.out
 have HP:=Lib.hid (KT.tp htp)
 have GG:=Lib.hid (gx.low K2.out.low)
 have hbl:=heap_lt hlk
 have hs2:((w.setCell ⟨X.mb,0,none⟩ (.pointer nxa)).setCell ⟨X.sp,0,none⟩ (.int .i64 ((S.steps:Int)+1))).heap.size=w.heap.size:=by simp
 have HS2:=Lib.hid hs2
 clear h gx htp hnx hbx m1 m2 k1 k2 hch hlk ho KT hs2
 unfold mP
 go_enter Tryz.func47,Tryz.ntmps47
 go_upto_region 3 with fail
 generalize ((w.setCell ⟨X.mb,0,none⟩ (.pointer nxa)).setCell ⟨X.sp,0,none⟩ (.int .i64 ((S.steps:Int)+1)))=W2 at M2 K2 HP GG HS2 ⊢
 have Bd:=Lib.hid (show Below W2.heap.size W2 (W2.alloc (Obj.cells #[.int .i64 0,.int .i64 (bar:Int),.int .i64 0,.int .i64 k,.int .i64 n,.string s,.slice A m c] 87)).drew from (belA (Below.refl _ _) _).drew)
 have Xd:=Lib.hid (show (W2.alloc (Obj.cells #[.int .i64 0,.int .i64 (bar:Int),.int .i64 0,.int .i64 k,.int .i64 n,.string s,.slice A m c] 87)).drew.heap[w.heap.size]? =some (Obj.cells #[.int .i64 0,.int .i64 (bar:Int),.int .i64 0,.int .i64 k,.int .i64 n,.string s,.slice A m c] 87 (0,0)) from heap_at _ _ HS2.out.symm)
 have M3:=Lib.hid (M2.out.below Bd.out)
 obtain ⟨fv3,cv3,hbx3,hfl3,-⟩:=M3.out.box
 obtain ⟨fa3,rfl⟩:=hfl3.ptr
 have hs3:=M3.out.steps
 have hfu':¬ ((X.lim.fuel:Int) < (S.steps:Int)+1):=by omega
 refine rg [(3,fun u => AC u X.mb 8 [.pointer (some ⟨X.sp,0,none⟩)]),(5,fun u => AC u X.sp 0 [.int .i64 ((S.steps:Int)+1)]),(10,fun u => AC u X.mb 4 [.int .i64 (X.lim.fuel:Int)])]
  (hS:=⟨⟨cell_of_row _ _ 8 _ _ _ hbx3,trivial⟩,⟨(cell_of_row _ _ 0 _ _ _ hs3).trans (by simp),trivial⟩,⟨cell_of_row _ _ 4 _ _ _ hbx3,trivial⟩,trivial⟩) (h:=fun hH => ?_)
 generalize (W2.alloc (Obj.cells #[.int .i64 0,.int .i64 (bar:Int),.int .i64 0,.int .i64 k,.int .i64 n,.string s,.slice A m c] 87)).drew=W3 at Bd Xd M3 hbx3 hfl3 hs3 hH ⊢
 refine tp 0 (h:=tp 1 (h:=tp 2 (h:=tl 3 (h:=tp 4 (h:=tl 5 (h:=tp 6 (h:=tp 7 (h:=tp 8 (h:=tp 9 (h:=tl 10 (h:=tp 11 (h:=tp 12 (h:=dn (h:=?_))))))))))))))
 have HB3:=Lib.hid hbx3
 have HF3:=Lib.hid hfl3
 clear hs3 hH hbx3 hfl3
 go_upto_region 5 with fail
 have hmb:=heap_lt HB3.out
 have hfx:=heap_lt Xd.out
 obtain ⟨kg,sg⟩:kn S.n g=true∧g.size≤1000:=by simpa [okP] using hok
 have hzr':¬ ((X.lim.room:Int) < (z:Int)):=by omega
 have hst':¬ ((X.lim.stack:Int) < (r.length:Int)):=by omega
 have HP3:=Lib.hid (HP.out.below Bd.out)
 have B5:=Lib.hid (show Below W3.heap.size W3 W3.drew from (Below.refl _ _).drew)
 have SZ:=Lib.hid (st_size (M3.out.below B5.out).st (HP3.out.below B5.out) qg kg sg (most:=X.lim.room) (by omega) (by omega) hz)
 refine rg [(1,fun u => AC u w.heap.size 0 [.int .i64 0]),(7,fun u => AC u X.mb 10 [.pointer (some ⟨X.sb,0,none⟩)]),(9,fun u => AC u w.heap.size 3 [.int .i64 k,.int .i64 n,.string s,.slice A m c]),(14,fun u => AC u X.mb 5 [.int .i64 (X.lim.room:Int)]),(20,fun u => AC u X.mb 5 [.int .i64 (X.lim.room:Int)])]
  (hS:=⟨⟨cell_of_row _ _ 0 _ _ _ ((B5.out.block _ hfx).trans Xd.out),trivial⟩,⟨cell_of_row _ _ 10 _ _ _ ((B5.out.block _ hmb).trans HB3.out),trivial⟩,⟨cell_of_row _ _ 3 _ _ _ ((B5.out.block _ hfx).trans Xd.out),cell_of_row _ _ 4 _ _ _ ((B5.out.block _ hfx).trans Xd.out),cell_of_row _ _ 5 _ _ _ ((B5.out.block _ hfx).trans Xd.out),cell_of_row _ _ 6 _ _ _ ((B5.out.block _ hfx).trans Xd.out),trivial⟩,
    ⟨cell_of_row _ _ 5 _ _ _ ((B5.out.block _ hmb).trans HB3.out),trivial⟩,⟨cell_of_row _ _ 5 _ _ _ ((B5.out.block _ hmb).trans HB3.out),trivial⟩,trivial⟩) (h:=fun hH => ?_)
 generalize W3.drew=W5 at B5 SZ hH ⊢
 refine tp 0 (h:=tl 1 (h:=tp 2 (v:=.bool true) (h:=tp 3 (h:=tp 4 (h:=tp 5 (h:=tp 6 (h:=tl 7 (h:=tp 8 (h:=tl 9 (h:=tp 10 (h:=tp 11 (h:=tp 12 (h:=tp 13 (h:=tl 14 (h:=tp 16 (h:=tp 17 (h:=tp 18 (h:=tp 19 (h:=tl 20 (h:=r1 15 [20] (h:=fun K hK => ?_)))))))))))))))))))))
 go_simp
 refine SZ.out.mono ?_
 rintro e w7 ⟨rfl,b7⟩
 have B7:=Lib.hid (B5.out.trans (b7.mono B5.out.size))
 refine hK.out _ _ ⟨⟨cell_of_row _ _ 5 _ _ _ ((B7.out.block _ hmb).trans HB3.out),trivial⟩,trivial⟩ (fun _ => ?_)
 clear hK K b7 SZ hH
 refine tp 21 (h:=tp 22 (h:=tp 23 (h:=dn (h:=?_))))
 go_upto_region 7 with fail
 have B8:=Lib.hid (show Below W3.heap.size W3 w7.drew from B7.out.drew)
 refine rg [(4,fun u => AC u X.mb 0 [.pointer fa3]),(10,fun u => AC u X.mb 6 [.int .i64 (X.lim.stack:Int)])]
  (hS:=⟨⟨cell_of_row _ _ 0 _ _ _ ((B8.out.block _ hmb).trans HB3.out),trivial⟩,⟨cell_of_row _ _ 6 _ _ _ ((B8.out.block _ hmb).trans HB3.out),trivial⟩,trivial⟩) (h:=fun hH => ?_)
 generalize w7.drew=W8 at B8 hH ⊢
 refine tp 0 (h:=tp 1 (h:=tp 2 (h:=tp 3 (h:=tl 4 (h:=tp 6 (h:=tp 7 (h:=tp 8 (h:=tp 9 (h:=tl 10 (h:=r1 5 [10] (h:=fun K hK => ?_)))))))))))
 go_simp
 refine (mlen_any (HF3.out.below B8.out)).mono ?_
 rintro e w9 ⟨rfl,rfl⟩
 refine hK.out _ _ ⟨hH.2.1,trivial⟩ (fun _ => ?_)
 clear hK K hH
 refine tp 11 (h:=tp 12 (h:=dn (h:=?_)))
 have x0:=cell_of_row _ _ 0 _ _ _ ((B8.out.block _ hfx).trans Xd.out)
 go_upto_region 11 with fail
 have BX:=Lib.hid (show Below W3.heap.size W3 w9.drew from B8.out.drew)
 refine rg [(4,fun u => AC u X.mb 10 [.pointer (some ⟨X.sb,0,none⟩)]),(6,fun u => AC u w.heap.size 3 [.int .i64 k,.int .i64 n,.string s,.slice A m c]),(9,fun u => AC u w.heap.size 1 [.int .i64 (bar:Int)])]
  (hS:=⟨⟨cell_of_row _ _ 10 _ _ _ ((BX.out.block _ hmb).trans HB3.out),trivial⟩,⟨cell_of_row _ _ 3 _ _ _ ((BX.out.block _ hfx).trans Xd.out),cell_of_row _ _ 4 _ _ _ ((BX.out.block _ hfx).trans Xd.out),cell_of_row _ _ 5 _ _ _ ((BX.out.block _ hfx).trans Xd.out),cell_of_row _ _ 6 _ _ _ ((BX.out.block _ hfx).trans Xd.out),trivial⟩,
    ⟨cell_of_row _ _ 1 _ _ _ ((BX.out.block _ hfx).trans Xd.out),trivial⟩,trivial⟩) (h:=fun hH => ?_)
 generalize w9.drew=WX at BX hH ⊢
 have RS:=Lib.hid (st_resolve (M3.out.below BX.out).st (HP3.out.below BX.out) qg kg sg hres)
 refine tp 0 (h:=tp 1 (h:=tp 2 (h:=tp 3 (h:=tl 4 (h:=tp 5 (h:=tl 6 (h:=tp 8 (h:=tl 9 (h:=r1 7 [9] (h:=fun K hK => ?_))))))))))
 go_simp
 refine RS.out.mono ?_
 rintro e w10 ⟨⟨v10,rfl,ht10⟩,b10⟩
 obtain ⟨k',n',s',A',m',c',rfl⟩:=ht10.agg
 have T10:=Lib.hid ht10
 have B10:=Lib.hid (BX.out.trans (b10.mono BX.out.size))
 refine hK.out _ _ ⟨⟨cell_of_row _ _ 1 _ _ _ ((B10.out.block _ hfx).trans Xd.out),trivial⟩,trivial⟩ (fun _ => ?_)
 clear hK K b10 ht10 RS
 have hqg':g'.lq:=res_lq M3.out.st.lq _ _ _ hres qg
 have hrF:r.length≤100000:=by rw [hfr] at hF;simp at hF;omega
 have M10:=Lib.hid (M3.out.below B10.out)
 have GA:=Lib.hid (goal_any M10.out hfa ((GG.out.low (Bd.out.mono M2.out.lt.1)).low (B10.out.mono M3.out.lt.1)) T10.out hqg' hgo hp hM hC hrF)
 have K10:=Lib.hid ((K2.out.trans (KX.of M2.out.lt.1 Bd.out)).trans (KX.of M3.out.lt.1 B10.out))
 refine r1 10 [] (h:=fun K hK => ?_)
 go_simp
 refine GA.out.mono ?_
 cases o with
 | go S' =>
  rintro e w11 ⟨⟨rfl,m11⟩,k11⟩
  have M11:=Lib.hid m11
  have K11:=Lib.hid (K10.out.trans k11)
  refine hK.out _ _ trivial (fun _ => ?_)
  clear hK K m11 k11
  refine dn (h:=?_)
  go_wp2_with fail
  go_end0
  exact ⟨⟨rfl,M11.out⟩,K11.out⟩
 | fail S' =>
  rintro e w11 ⟨⟨rfl,m11⟩,k11⟩
  exact ⟨rfl,⟨rfl,m11⟩,K10.out.trans k11⟩
 | ball S' t => cases hp
 | out S' k => cases hp
end Go.Proofs.YtdgpmpccfjmmcaaGreatDoor
namespace Go.Proofs.YtdgpmpccfjmmcaaGreatDoor
open Go.RowKit
theorem undo_open {S S':Ms} {mark:Nat} (h:S.undo mark=some S'):∃ m,S.M[mark]? =some m∧S'= {S with L:=S.L.take m.1,n:=m.2,M:=S.M.take (mark+1)}:=by
 unfold Ms.undo at h
 split at h
 ·cases h
 ·rename_i m hm
  injection h with h
  exact ⟨m,hm,h.symm⟩
theorem MSt.put {X:MX} {S:Ms} {w w':World} (h:MSt X S w) {b:Nat} {cs:Array Value} {f:Nat × Nat} (hb:w.heap[b]? =some (.cells cs 169 f)) {fv cv:Value} (hbx:w.heap[X.mb]? =some (.cells (mcells X fv cv) 82 (0,0))) (hne:∀ q,cv.ownBlock=some q→q≠b)
 (hw:∀ k,k≠b→w'.heap[k]? =w.heap[k]?):MSt X S w':=by
 have key:∀ {k:Nat} {cs':Array Value} {t:TypeId} {f':Nat × Nat},w.heap[k]? =some (.cells cs' t f')→t≠169→w'.heap[k]? =some (.cells cs' t f'):=fun {k cs' t f'} hk ht => (hw k fun e => by
  subst e
  rw [hb] at hk
  injection hk with hk
  injection hk with _ hk
  exact ht hk.symm).trans hk
 obtain ⟨fv',cv',h1,h2,h3⟩:=h.box
 have hcv:cv'=cv:=by
  rw [hbx] at h1
  injection h1 with h1
  injection h1 with h1
  simp [mcells] at h1
  exact h1.2.symm
 subst hcv
 have k:KeepT X.sp w w':=fun b cs t f hb' ht => key hb' (by rcases ht with rfl | rfl | rfl | rfl | rfl | ⟨rfl,_⟩ <;> decide)
 obtain ⟨css,e1,e2,e3⟩:=h3
 exact ⟨⟨fv',cv',key h1 (by decide),k.fl h2,css,e1,own_keep e2 fun g hg => hw g (hne g hg),fun i c cs hc hcs => (e3 i c cs hc hcs).keep k⟩,key h.steps (by decide),h.st.keep fun b cs t f hb' ht => key hb' (by rcases ht with rfl | rfl | rfl | rfl | rfl <;> decide),h.pr.keep k,h.geo,h.clq,h.frq,h.chq⟩
theorem MSt.setMem {X:MX} {S:Ms} {w:World} (h:MSt X S w) {fr:List Fr0} {fv:Value} (hf:FL w fr fv) (hq:frsQ fr) :
 MSt X {S with fr:=fr} (((w.setCell ⟨X.mb,0,none⟩ fv).setCell ⟨X.mb,1,none⟩ (.slice none 0 0)).setCell ⟨X.mb,2,none⟩ (.slice none 0 0))∧KX X.m w (((w.setCell ⟨X.mb,0,none⟩ fv).setCell ⟨X.mb,1,none⟩ (.slice none 0 0)).setCell ⟨X.mb,2,none⟩ (.slice none 0 0)):=by
 obtain ⟨m1,k1⟩:=h.setFr hf hq
 obtain ⟨m2,k2⟩:=m1.setWt
 obtain ⟨m3,k3⟩:=m2.setPr
 exact ⟨m3,(k1.trans k2).trans k3⟩
theorem wpList_store_new {P:Program} {ops:Array Oper} {rest:List Oper} {o:Oper} {a:Act} {Q:Exit→Act→World→Prop} (w:World) (hgd:o.guard=none) (d x:Operand) (t:TypeId) (ho:o.op=.store t d x) (c c':Array Value)
 (hd:a.eval d=.pointer (some ⟨w.heap.size,0,none⟩)) (hx:a.eval x=.agg c') (hi:(P.info? t).map (·.size)=some c'.size) (hs:c.size=c'.size) (h1:c'.all (·.oneCell')=true) (hdst:o.dst=none) (h:wpList P ops Q rest a (w.alloc (.cells c' t))) :
 wpList P ops Q (o ::rest) a (w.alloc (.cells c t)):=wpList_plain hgd fun K hK => by
 have:=step_store_new (ops:=ops) (K:=K) (Q:=Q) (E:=True) w hgd d x t ho c c' hd hx hi hs h1 hdst (hK _ _ h)
 rwa [if_pos (by simp [Region.wanted,hgd])] at this
theorem flat_take {s:Nat}:∀ (css:List (List Value)) (k:Nat),(∀ x ∈ css,x.length=s)→css.flatten.take (k*s)=(css.take k).flatten
 | [],k,_ => by simp
 | y ::l,0,_ => by simp
 | y ::l,k+1,h => by
  have hy:=h y List.mem_cons_self
  rw [List.take_succ_cons,List.flatten_cons,List.flatten_cons,List.take_append,List.take_of_length_le (by rw [hy,Nat.succ_mul];omega),hy,show (k+1)*s - s=k*s by rw [Nat.succ_mul];omega,flat_take l k fun x hx => h x (List.mem_cons_of_mem _ hx)]
theorem ChM.one {w:World} {s mark:Nat} {fr:List Fr0} {g:P} {rest:List Nat} {bar:Nat} {us:List Value} (h:ChM w s (.more mark fr g rest bar) us):us.toArray.all (·.oneCell')=true:=by
 obtain ⟨fv,ts,rv,f1,⟨v0,v1,v2,v3,rfl,htp⟩,f3,f4,rfl⟩:=h
 obtain ⟨y0,y1,y2,YA,ym,yc,e⟩:=htp.agg
 cases e
 obtain ⟨a,rfl⟩:=f1.ptr
 obtain ⟨⟨A,c,rfl,_⟩,_⟩:=f4
 simp [Value.oneCell',zeroC]
def PopQ (X:MX) (S':Ms) (mark:Nat) (fr:List Fr0) (g:P) (rest:List Nat) (bar:Nat) (w:World) (e:Ending) (w':World):Prop:=∃ us:List Value,e=.returned (.agg us.toArray)∧ChM w' X.sp (.more mark fr g rest bar) us∧MSt X {S' with fr:=fr} w'∧KX X w w'
set_option maxRecDepth 100000 in
set_option maxHeartbeats 16000000 in
theorem pop_any {X:MX} {S S':Ms} {w:World} (h:MSt X S w) {ch0:List Ch0} {mark:Nat} {fr:List Fr0} {g:P} {rest:List Nat} {bar:Nat} (hc:S.ch=ch0++[.more mark fr g rest bar]) (hu:({S with ch:=ch0}:Ms).undo mark=some S') (hM:S.M.length≤200000) (hC:S.ch.length≤200000) :
 Calls Tryz.prog 79 #[mP X] w fun e w' => PopQ X S' mark fr g rest bar w e w':=by
 obtain ⟨m,hm,rfl⟩:=undo_open hu
 obtain ⟨fv,cv,hbx,hfl,css,e1,e2,e3⟩:=h.box
 have hn:S.ch.length=ch0.length+1:=by rw [hc];simp
 have hall:∀ x ∈ css,x.length=19:=fun x hx => by
  obtain ⟨i,hi,rfl⟩:=List.mem_iff_getElem.1 hx
  exact (e3 i _ _ (List.getElem?_eq_getElem (by omega)) (List.getElem?_eq_getElem hi)).len
 rw [hn] at e1 e2
 obtain ⟨CA,cca,rfl,hcap,_,_,hrow⟩:=own_open e2
 obtain ⟨gc,cur,rfl,hgB,hgc,hcur⟩:=hrow (by omega)
 obtain ⟨us,hus0⟩:∃ us,css[ch0.length]? =some us:=⟨_,List.getElem?_eq_getElem (by omega)⟩
 have hcm:ChM w X.sp (.more mark fr g rest bar) us:=e3 ch0.length _ _ (by rw [hc];simp) hus0
 have hl19:=hcm.len
 have HR:=Lib.hid (show w.rangeAt gc (ch0.length*19) us from fun j v hv => by
  have hj:=lt_of_at hv
  rw [cell_of_row _ _ _ _ _ _ hgc,Nat.mul_comm]
  have:=hcur (19*ch0.length+j) (by omega)
  rw [this,flat_rows css _ us hall hus0 j (by omega),hv])
 obtain ⟨fv',ts,rv,f1,f2,f3,f4,hus⟩:=id hcm
 have u0:us[0]? =some fv':=by rw [hus];rfl
 have u1:us[1]? =some (.slice none 0 0):=by rw [hus];rfl
 have u2:us[2]? =some (.slice none 0 0):=by rw [hus];rfl
 have u3:us[3]? =some (.int .i64 (mark:Int)):=by rw [hus];rfl
 have hchr:ChR w X.B X.sp ch0 (.slice (some ⟨gc,0,none⟩) ch0.length cca):=by
  refine ⟨css.take ch0.length,by simp;omega,?_,fun i c cs hi hcs => ?_⟩
  ·rw [← flat_take css _ hall]
   exact ownsRow_take e2 (by omega)
  ·have hi0:=lt_of_at hi
   rw [List.getElem?_take_of_lt hi0] at hcs
   exact e3 i c cs (by rw [hc,List.getElem?_append_left hi0];exact hi) hcs
 have hq0:chsQ ch0:=fun c hx => h.chq c (by rw [hc];exact List.mem_append_left _ hx)
 have hqf:frsQ fr:=(h.chq (.more mark fr g rest bar) (by rw [hc];simp)).1
 obtain ⟨fa',rfl⟩:=f1.ptr
 have hone:=hcm.one
 have hlt:=h.lt
 have hlt1:=hlt.2.1
 obtain ⟨m1,k1⟩:=h.setCh hchr hq0
 have M1:=Lib.hid m1
 have K1:=Lib.hid k1
 have HB1:=Lib.hid (show (w.setCell ⟨X.mb,11,none⟩ (.slice (some ⟨gc,0,none⟩) ch0.length cca)).heap[X.mb]? =some (.cells (mcells X fv (.slice (some ⟨gc,0,none⟩) ch0.length cca)) 82 (0,0)) by simpa [mcells] using blk_set hbx 11 (.slice (some ⟨gc,0,none⟩) ch0.length cca))
 have fz:∀ j,w.frozen? ⟨X.mb,j,none⟩=false:=fun j => by simp [World.frozen?,hbx]
 have H:=Lib.hid h
 have HB:=Lib.hid hbx
 have HF1:=Lib.hid f1
 have HCM:=Lib.hid hcm
 have HC:=Lib.hid hc
 have hgl:=heap_lt hgc
 have c11:w.cell? ⟨X.mb,11,none⟩=some (.slice (some ⟨gc,0,none⟩) (ch0.length+1) cca):=cell_of_row _ _ 11 _ _ _ hbx
 have U0:=Lib.hid u0
 have U1:=Lib.hid u1
 have U2:=Lib.hid u2
 have U3:=Lib.hid u3
 have HL:=Lib.hid hl19
 clear h hbx hfl hcm hc hrow hcur hus u0 u1 u2 u3 e1 e2 e3 hall hus0 f1 f2 f4 hl19 hu hgc hchr hq0 m1 k1
 unfold mP
 go_enter Tryz.func79,Tryz.ntmps79
 go_upto_region 2 with fail
 refine wp_region_list ?_
 iterate 5 (refine wpList_plain rfl fun K hK => ?_;go_simp;refine hK _ _ ?_;clear hK K)
 refine wpList_plain rfl fun K hK => ?_
 go_simp
 rw [if_pos (by omega)]
 go_simp
 refine hK _ _ ?_
 clear hK K
 refine wpList_load_mid rfl 169 _ rfl gc (ch0.length*19) rfl us _ (fun j v hv => (World.cell?_of_block (a:=⟨gc,_,none⟩) (Below.heap_alloc _ _ _ hgl)).trans (HR.out j v hv)) Tryz.underlying169 rfl (by rw [HL.out];kernel_rfl) ?_
 refine wpList_plain rfl fun K hK => ?_
 go_simp
 refine hK _ _ ?_
 clear hK K
 generalize hZ:(#[.pointer none,.slice none 0 0,.slice none 0 0,.int .i64 0,.int .i64 0,.int .i64 0,.int .i64 0,.string ⟨#[]⟩,.slice none 0 0,.int .i64 0,.int .i64 0,.string ⟨#[]⟩,.slice none 0 0,.int .i64 0,.int .i64 0,.string ⟨#[]⟩,.slice none 0 0,.slice none 0 0,.int .i64 0]:Array Value)=Z
 have hZs:Z.size=19:=by rw [← hZ];rfl
 have HZ:=Lib.hid hZs
 clear hZ hZs
 refine wpList_store_new (w.alloc (Obj.cells Z 169)) rfl (.tmp 4) (.tmp 17) 169 rfl Z us.toArray (by show Value.pointer (some ⟨w.heap.size+1,0,none⟩)=_;simp) rfl (by rw [List.size_toArray,HL.out];kernel_rfl) (by have:=HL.out;have:=HZ.out;simp;omega) hone rfl ?_
 go_upto_region 4 with fail
 have hs1:(w.setCell ⟨X.mb,11,none⟩ (.slice (some ⟨gc,0,none⟩) ch0.length cca)).heap.size=w.heap.size:=by simp
 have HS1:=Lib.hid hs1
 have Bd:=Lib.hid (show Below (w.setCell ⟨X.mb,11,none⟩ (.slice (some ⟨gc,0,none⟩) ch0.length cca)).heap.size (w.setCell ⟨X.mb,11,none⟩ (.slice (some ⟨gc,0,none⟩) ch0.length cca)) (((w.setCell ⟨X.mb,11,none⟩ (.slice (some ⟨gc,0,none⟩) ch0.length cca)).alloc (Obj.cells Z 169)).alloc (Obj.cells us.toArray 169)).drew from (belA (belA (Below.refl _ _) _) _).drew)
 have XZ:=Lib.hid (show (((w.setCell ⟨X.mb,11,none⟩ (.slice (some ⟨gc,0,none⟩) ch0.length cca)).alloc (Obj.cells Z 169)).alloc (Obj.cells us.toArray 169)).drew.heap[w.heap.size]? =some (.cells Z 169 (0,0)) from (Below.heap_alloc _ _ _ (by simp)).trans (heap_at _ _ hs1.symm))
 have XU:=Lib.hid (show (((w.setCell ⟨X.mb,11,none⟩ (.slice (some ⟨gc,0,none⟩) ch0.length cca)).alloc (Obj.cells Z 169)).alloc (Obj.cells us.toArray 169)).drew.heap[w.heap.size+1]? =some (.cells us.toArray 169 (0,0)) from heap_at _ _ (by simp))
 clear hs1
 generalize (((w.setCell ⟨X.mb,11,none⟩ (.slice (some ⟨gc,0,none⟩) ch0.length cca)).alloc (Obj.cells Z 169)).alloc (Obj.cells us.toArray 169))=W3 at Bd XZ XU ⊢
 generalize (w.setCell ⟨X.mb,11,none⟩ (.slice (some ⟨gc,0,none⟩) ch0.length cca))=W1 at M1 K1 HB1 HS1 Bd ⊢
 have Md:=Lib.hid (M1.out.below Bd.out)
 have hmb1:=heap_lt HB1.out
 have HBd:=Lib.hid ((Bd.out.block _ hmb1).trans HB1.out)
 have KW:=Lib.hid (show KX X w W3.drew from K1.out.wk.trans (KX.of M1.out.lt.1 Bd.out))
 have ac3:W3.drew.cell? ⟨w.heap.size+1,3,none⟩=some (.int .i64 (mark:Int)):=(cell_of_row _ _ 3 _ _ _ XU.out).trans (by simpa using U3.out)
 refine rg [(3,fun u => AC u X.mb 10 [.pointer (some ⟨X.sb,0,none⟩)]),(5,fun u => AC u (w.heap.size+1) 3 [.int .i64 (mark:Int)])]
  (hS:=⟨⟨cell_of_row _ _ 10 _ _ _ HBd.out,trivial⟩,⟨ac3,trivial⟩,trivial⟩) (h:=fun hH => ?_)
 generalize W3.drew=Wd at*
 have XZ:=XZ
 refine tp 0 (h:=tp 1 (h:=tp 2 (h:=tl 3 (h:=tp 4 (h:=tl 5 (h:=r1 6 [] (h:=fun K hK => ?_)))))))
 go_simp
 refine (st_undo Md.out.st (by show S.M.length≤_;omega) hm).mono ?_
 rintro e w4 ⟨rfl,s4,f4⟩
 have M4:=Lib.hid (Md.out.store f4 s4)
 have nst:∀ {cs:Array Value} {f:Nat × Nat} {t:TypeId},(t == 121 || t == 220 || t == 222 || t == 276)=false→NotSt (.cells cs t f):=fun {cs f t} ht cs' t' f' e => by
  simp at ht
  injection e with _ e
  subst e
  simp [ht]
 have XZ4:=Lib.hid (f4.far _ _ XZ.out (nst rfl))
 have XU4:=Lib.hid (f4.far _ _ XU.out (nst rfl))
 have HB4:=Lib.hid (f4.far _ _ HBd.out (nst rfl))
 have K4:=Lib.hid (KW.out.trans (KX.sf f4))
 have F4:=Lib.hid ((K4.out.kt H.out).fl HF1.out)
 refine hK.out _ _ trivial (fun _ => ?_)
 clear hK K s4 f4 nst hH
 refine dn (h:=?_)
 have y0:w4.cell? ⟨w.heap.size+1,0,none⟩=some (.pointer fa'):=(cell_of_row _ _ 0 _ _ _ XU4.out).trans (by simpa using U0.out)
 have y1:w4.cell? ⟨w.heap.size+1,1,none⟩=some (.slice none 0 0):=(cell_of_row _ _ 1 _ _ _ XU4.out).trans (by simpa using U1.out)
 have y2:w4.cell? ⟨w.heap.size+1,2,none⟩=some (.slice none 0 0):=(cell_of_row _ _ 2 _ _ _ XU4.out).trans (by simpa using U2.out)
 have q0:w4.cell? ⟨X.mb,0,none⟩=some fv:=cell_of_row _ _ 0 _ _ _ HB4.out
 have q1:w4.cell? ⟨X.mb,1,none⟩=some (.slice none 0 0):=cell_of_row _ _ 1 _ _ _ HB4.out
 have q2:w4.cell? ⟨X.mb,2,none⟩=some (.slice none 0 0):=cell_of_row _ _ 2 _ _ _ HB4.out
 have f0:∀ j,w4.frozen? ⟨X.mb,j,none⟩=false:=fun j => by simp [World.frozen?,HB4.out]
 go_upto_region 6 with fail
 have m5:=M4.out.setMem F4.out hqf
 have far5:∀ b,b≠X.mb→(((w4.setCell ⟨X.mb,0,none⟩ (.pointer fa')).setCell ⟨X.mb,1,none⟩ (.slice none 0 0)).setCell ⟨X.mb,2,none⟩ (.slice none 0 0)).heap[b]? =w4.heap[b]?:=fun b hb => ((Below.heap_setCell _ _ _ b hb).trans (Below.heap_setCell _ _ _ b hb)).trans (Below.heap_setCell _ _ _ b hb)
 have XZ5:=Lib.hid ((far5 w.heap.size (by omega)).trans XZ4.out)
 have XU5:=Lib.hid ((far5 (w.heap.size+1) (by omega)).trans XU4.out)
 have HB5:=Lib.hid (show (((w4.setCell ⟨X.mb,0,none⟩ (.pointer fa')).setCell ⟨X.mb,1,none⟩ (.slice none 0 0)).setCell ⟨X.mb,2,none⟩ (.slice none 0 0)).heap[X.mb]? =some (.cells (mcells X (.pointer fa') (.slice (some ⟨gc,0,none⟩) ch0.length cca)) 82 (0,0)) by simpa [mcells] using blk_set (blk_set (blk_set HB4.out 0 (.pointer fa')) 1 (.slice none 0 0)) 2 (.slice none 0 0))
 have M5:=Lib.hid m5.1
 have K5:=Lib.hid (K4.out.trans m5.2.wk)
 clear m5 far5 y0 y1 y2 q0 q1 q2 f0
 generalize (((w4.setCell ⟨X.mb,0,none⟩ (.pointer fa')).setCell ⟨X.mb,1,none⟩ (.slice none 0 0)).setCell ⟨X.mb,2,none⟩ (.slice none 0 0))=W5 at XZ5 XU5 HB5 M5 K5 ⊢
 refine wp_region_list ?_
 refine wpList_load_mid rfl 169 _ rfl (w.heap.size+1) 0 rfl us _ (fun j v hv => by rw [Nat.zero_add];exact (cell_of_row _ _ j _ _ _ XU5.out).trans (by simpa using hv)) Tryz.underlying169 rfl (by rw [HL.out];kernel_rfl) ?_
 refine wpList_store_mid rfl 169 _ _ rfl w.heap.size 0 us.toArray rfl rfl (fun j hj => ?_) (by rw [List.size_toArray,HL.out];kernel_rfl) hone ?_
 ·have hz:=HZ.out
  have hl:=HL.out
  rw [Nat.zero_add]
  refine ⟨?_,by simp [World.frozen?,XZ5.out]⟩
  rw [cell_of_row _ _ j _ _ _ XZ5.out]
  simp at hj ⊢
  omega
 have M6:=Lib.hid (M5.out.put (w':=W5.setCells w.heap.size 0 us) XZ5.out HB5.out (fun q e => by simp [Value.ownBlock] at e;omega) fun k hk => setCells_other hk _ _ _)
 have K6:=Lib.hid (show KX X W5 (W5.setCells w.heap.size 0 us) from ⟨setCells_low hlt.1 _ _ _ (Below.refl _ _),fun b o hb _ _ hn => (setCells_other (fun e => by subst e;rw [XZ5.out] at hb;injection hb with hb;exact hn.2 _ _ _ hb.symm rfl) _ _ _).trans hb⟩)
 have XZ6:=setCells_block us 0 W5 Z XZ5.out (by have:=HZ.out;have:=HL.out;omega)
 go_wp2_with fail
 refine bodyPost_ret (v:=.agg us.toArray) ?_ rfl ⟨us,rfl,HCM.out.keep (KX.kt H.out (K5.out.trans K6.out)),M6.out,K5.out.trans K6.out⟩
 have hld:=run_loadVar_mid (P:=Tryz.prog) (W5.setCells w.heap.size 0 us) w.heap.size 0 169 us _ (fun j v hv => by
  rw [Nat.zero_add,cell_of_row _ _ j _ _ _ XZ6]
  have hl:=HL.out
  have hz:=HZ.out
  have hj:=lt_of_at hv
  simp
  rw [List.getElem?_append_left hj,hv]) Tryz.underlying169 rfl (by rw [HL.out];kernel_rfl)
 simp [results,Tryz.results79,asAddr,hld]
end Go.Proofs.YtdgpmpccfjmmcaaGreatDoor
namespace Go.Proofs.YtdgpmpccfjmmcaaGreatDoor
open Go.RowKit
theorem back_open {S S2:Ms} {nx:Nx} (h:backM S=some (some (S2,nx))):∃ ch0 mark fr g rest bar S',S.ch=ch0++[.more mark fr g rest bar]∧({S with ch:=ch0}:Ms).undo mark=some S'∧S2= {S' with fr:=fr}∧nx=.more g rest bar:=by
 unfold backM at h
 split at h
 ·cases h
 ·cases h
 ·rename_i mark fr g rest bar hl
  split at h
  ·cases h
  ·rename_i S' hu
   injection h with h
   injection h with h
   injection h with h1 h2
   obtain ⟨ch0,hch⟩:∃ ch0,S.ch=ch0++[.more mark fr g rest bar]:=by
    obtain ⟨hne,hl'⟩:=List.getLast?_eq_some_iff.1 hl
    exact ⟨hne,hl'⟩
   refine ⟨ch0,mark,fr,g,rest,bar,S',hch,?_,h1.symm,h2.symm⟩
   rw [hch,List.dropLast_concat] at hu
   exact hu
theorem back_none {S:Ms} (h:backM S=some none):S.ch=[]:=by
 unfold backM at h
 split at h
 ·rename_i hl
  exact List.getLast?_eq_none_iff.1 hl
 ·cases h
 ·split at h
  ·cases h
  ·cases h
set_option maxRecDepth 100000 in
set_option maxHeartbeats 8000000 in
theorem backf_any {X:MX} {S:Ms} {w:World} (h:MSt X S w) (hfa:∀ c ∈ X.pr,c.goals=[]) {tb cb mark:Nat} {fr:List Fr0} {g:P} {rest:List Nat} {bar:Nat} {us:List Value} (ht:w.heap[tb]? =some (.cells #[mP X] 71 (0,0))) (hcb:w.heap[cb]? =some (.cells us.toArray 169 (0,0)))
 (hcm:ChM w X.sp (.more mark fr g rest bar) us) (qg:g.lq) (hL:rest.length≤100000) {o:Oc} (ho:tryM X.pr S g rest bar=some o) (hp:plO o=true) (hM:S.M.length≤100000) (hC:S.ch.length≤100000) (hF:S.fr.length≤100000) :
 Calls Tryz.prog 80 #[.pointer (some ⟨tb,0,none⟩),.pointer (some ⟨cb,0,none⟩)] w fun e w' => OcM X o e w'∧KX X w w':=by
 obtain ⟨fv,ts,rv,f1,⟨v0,v1,v2,v3,rfl,htp⟩,f3,f4,rfl⟩:=hcm
 obtain ⟨k0,k1,k2,A0,m0,c0,e⟩:=htp.agg
 cases e
 obtain ⟨⟨A,lc,rfl,_⟩,_⟩:=id f4
 have t0:w.cell? ⟨tb,0,none⟩=some (.pointer (some ⟨X.mb,0,none⟩)):=cell_of_row _ _ 0 _ _ _ ht
 have c13:w.cell? ⟨cb,13,none⟩=some (.int .i64 k0):=cell_of_row _ _ 13 _ _ _ hcb
 have c14:w.cell? ⟨cb,14,none⟩=some (.int .i64 k1):=cell_of_row _ _ 14 _ _ _ hcb
 have c15:w.cell? ⟨cb,15,none⟩=some (.string k2):=cell_of_row _ _ 15 _ _ _ hcb
 have c16:w.cell? ⟨cb,16,none⟩=some (.slice A0 m0 c0):=cell_of_row _ _ 16 _ _ _ hcb
 have c17:w.cell? ⟨cb,17,none⟩=some (.slice A rest.length lc):=cell_of_row _ _ 17 _ _ _ hcb
 have c18:w.cell? ⟨cb,18,none⟩=some (.int .i64 (bar:Int)):=cell_of_row _ _ 18 _ _ _ hcb
 have TR:=Lib.hid (try_any h hfa htp qg f4 ho hp hM hC hF hL)
 clear h ht hcb f1 f4 htp ho
 go_enter Tryz.func80,Tryz.ntmps80
 go_wp2_with fail
 refine TR.out.mono ?_
 cases o with
 | go S' =>
  rintro e w9 ⟨⟨rfl,m9⟩,k9⟩
  have M9:=Lib.hid m9
  have K9:=Lib.hid k9
  clear m9 k9
  go_wp2_with fail
  go_end0
  exact ⟨⟨rfl,M9.out⟩,K9.out⟩
 | fail S' =>
  rintro e w9 ⟨⟨rfl,m9⟩,k9⟩
  go_wp2_with fail
  exact ⟨rfl,⟨rfl,m9⟩,k9⟩
 | ball S' t => cases hp
 | out S' k => cases hp
def BackQ (X:MX) (w:World):Option (Ms × Nx)→Ending→World→Prop
 | none,e,w' => e=.returned .nilFunc∧Below w.heap.size w w'
 | some x,e,w' => ∃ (g:P) (rest:List Nat) (bar tb cb mark:Nat) (fr:List Fr0) (us:List Value),x.2=.more g rest bar∧e=.returned (.func (.func 80) #[] #[.pointer (some ⟨tb,0,none⟩),.pointer (some ⟨cb,0,none⟩)])∧w'.heap[tb]? =some (.cells #[mP X] 71 (0,0))∧w'.heap[cb]? =some (.cells us.toArray 169 (0,0))∧
  ChM w' X.sp (.more mark fr g rest bar) us∧g.lq∧rest.length≤100000∧MSt X x.1 w'∧KX X w w'
set_option maxRecDepth 100000 in
set_option maxHeartbeats 8000000 in
theorem back_any {X:MX} {S:Ms} {w:World} (h:MSt X S w) {r:Option (Ms × Nx)} (hr:backM S=some r) (hM:S.M.length≤200000) (hC:S.ch.length≤200000) (v1:Value) :
 Calls Tryz.prog 48 #[mP X,v1] w fun e w' => BackQ X w r e w':=by
 obtain ⟨fv,cv,hbx,hfl,css,e1,e2,e3⟩:=h.box
 obtain ⟨CA,cca,rfl,_,_,_,_⟩:=own_open e2
 have hlt:=h.lt
 have hlt1:=hlt.2.1
 have H:=Lib.hid h
 have B0:=Lib.hid (show Below w.heap.size w (w.alloc (Obj.cells #[mP X] 71)) from belA (Below.refl _ _) _)
 have X0:=Lib.hid (show (w.alloc (Obj.cells #[mP X] 71)).heap[w.heap.size]? =some (Obj.cells #[mP X] 71 (0,0)) from heap_alloc_new _ _)
 have HB:=Lib.hid hbx
 have hmf:∀ (fn:Fn) (first cap:Array Value) (w:World),(Instr.makeFunc fn first cap).run Tryz.prog w=.ok (.func fn first cap) w:=fun _ _ _ _ => rfl
 have c11:(w.alloc (Obj.cells #[mP X] 71)).cell? ⟨X.mb,11,none⟩=some (.slice CA S.ch.length cca):=cell_of_row _ _ 11 _ _ _ ((B0.out.block _ hlt1).trans hbx)
 clear h hbx hfl e1 e2 e3
 have hB1:=B0.out.size
 have x00:(w.alloc (Obj.cells #[mP X] 71)).cell? ⟨w.heap.size,0,none⟩=some (.pointer (some ⟨X.mb,0,none⟩)):=cell_of_row _ _ 0 _ _ _ X0.out
 obtain ⟨W0,hW0⟩:∃ W0,W0=w.alloc (Obj.cells #[mP X] 71):=⟨_,rfl⟩
 rw [← hW0] at B0 X0 c11 x00 hB1
 unfold mP at hW0 ⊢
 go_enter Tryz.func48,Tryz.ntmps48
 go_wp2_with fail
 rw [← hW0]
 clear hW0
 rcases r with _ | ⟨S2,nx⟩
 ·have h0:S.ch.length=0:=by rw [back_none hr];rfl
  rw [h0] at c11
  clear h0 hr
  go_loopw [] (fun wr => wr=W0) (fun _ => 0)
  case atStart => rfl
  case round =>
   subst hrel
   go_wp2_with fail
   go_ret
   exact ⟨rfl,B0.out⟩
 ·obtain ⟨ch0,mark,fr,g,rest,bar,S',hch,hu,rfl,rfl⟩:=back_open hr
  have hlen:S.ch.length=ch0.length+1:=by rw [hch];simp
  rw [hlen] at c11
  have hq:=H.out.chq (.more mark fr g rest bar) (by rw [hch];simp)
  have PP:=Lib.hid (pop_any (H.out.below B0.out) hch hu hM hC)
  clear hlen hr
  unfold mP at PP
  go_loopw [] (fun wr => wr=W0) (fun _ => 0)
  case atStart => rfl
  case round =>
   subst hrel
   go_wp2_with fail
   refine PP.out.mono ?_
   rintro e w2 ⟨us,rfl,hcm,m2,k2⟩
   have hone:=hcm.one
   have hl19:=hcm.len
   have XT:=k2.kd X0.out (by omega) (by omega) rfl
   have M3:=Lib.hid (m2.below (belA (Below.refl _ _) (Obj.cells us.toArray 169)))
   have K3:=Lib.hid (((KX.of hlt.1 B0.out).trans k2).trans (KX.of m2.lt.1 (belA (Below.refl _ _) (Obj.cells us.toArray 169))))
   have C3:=Lib.hid (hcm.keep (KeepT.of (belA (Below.refl _ _) (Obj.cells us.toArray 169))))
   have XT3:=Lib.hid ((Below.heap_alloc w2 (Obj.cells us.toArray 169) _ (heap_lt XT)).trans XT)
   have XC3:=Lib.hid (heap_alloc_new w2 (Obj.cells us.toArray 169))
   apply_assumption
   clear XT m2 k2
   refine wpList_plain rfl fun K hK => ?_
   go_simp
   refine hK _ _ ?_
   clear hK K
   refine wpList_store_new w2 rfl (.tmp 5) (.tmp 13) 169 rfl #[.pointer none,.slice none 0 0,.slice none 0 0,.int .i64 0,.int .i64 0,.int .i64 0,.int .i64 0,.string ⟨#[]⟩,.slice none 0 0,.int .i64 0,.int .i64 0,.string ⟨#[]⟩,.slice none 0 0,.int .i64 0,.int .i64 0,.string ⟨#[]⟩,.slice none 0 0,.slice none 0 0,.int .i64 0] us.toArray rfl rfl (by rw [List.size_toArray,hl19];kernel_rfl) (by simp [hl19]) hone rfl ?_
   obtain ⟨fv',ts,rv,f1,⟨v0,v1',v2,v3,rfl,htp⟩,f3,f4,hus⟩:=id hcm
   obtain ⟨⟨RA,rc,rfl,_,_,hne⟩,_⟩:=f4
   obtain ⟨rg',ro,_,_,rfl,_⟩:=hne f3
   have a4:(w2.alloc (Obj.cells us.toArray 169)).cell? ⟨w2.heap.size,4,none⟩=some (.int .i64 0):=(cell_of_row _ _ 4 _ _ _ XC3.out).trans (by rw [hus];rfl)
   have a17:(w2.alloc (Obj.cells us.toArray 169)).cell? ⟨w2.heap.size,17,none⟩=some (.slice (some ⟨rg',ro,none⟩) rest.length rc):=(cell_of_row _ _ 17 _ _ _ XC3.out).trans (by rw [hus];rfl)
   clear hone hl19 f1 htp hne hus hcm
   generalize w2.alloc (Obj.cells us.toArray 169)=W3 at M3 K3 C3 XT3 XC3 a4 a17 ⊢
   go_wp2_with fail
   go_ret
   exact ⟨g,rest,bar,w.heap.size,w2.heap.size,mark,fr,us,rfl,rfl,XT3.out,XC3.out,C3.out,hq.2.1,hq.2.2,M3.out,K3.out⟩
end Go.Proofs.YtdgpmpccfjmmcaaGreatDoor
