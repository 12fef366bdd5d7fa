/- The machine's goals of the program:which clauses are tried. The machine's bodies:a goal's goals as frames;done ahead of what there is. The machine's goals:the program's,and 'call'. -/
import Derived.Test.YtdgpmpccfjmmcaaGreatDoorKW2
import Derived.Test.YtdgpmpccfjmmcaaGreatDoorKJAt
import Derived.Test.YtdgpmpccfjmmcaaGreatDoorKJBb
set_option linter.unusedVariables false
set_option linter.unusedSimpArgs false
namespace Go.Proofs.YtdgpmpccfjmmcaaGreatDoor
open Go.RowKit
theorem named_list (pr:List Cl0) (z:List UInt8) (q:Nat):((List.range (pr.map (·.head)).length).filter fun i => ((pr.map (·.head))[i]?.map nameP) == some (some (z,q)))=namedK pr z q:=by
 unfold namedK
 simp [Function.comp_def]
theorem which_list (pr:List Cl0) (z:List UInt8) (q:Nat) (gp:P):(((List.range (pr.map (·.head)).length).filter fun i => ((pr.map (·.head))[i]?.map nameP) == some (some (z,q))).filter fun i => q == 0 || !(((pr.map (·.head))[i]?.map fun p => clashP (arg0 p) (arg0 gp)).getD false))=whichK pr z q gp:=by
 unfold whichK
 rw [named_list]
 simp [Function.comp_def]
theorem which_few (pr:List Cl0) (z:List UInt8) (q:Nat) (gp:P):(whichK pr z q gp).length≤pr.length:=by
 unfold whichK namedK
 refine Nat.le_trans (List.length_filter_le _ _) (Nat.le_trans (List.length_filter_le _ _) ?_)
 simp
set_option maxRecDepth 100000 in
set_option maxHeartbeats 16000000 in
theorem user_any {X:MX} {S:Ms} {w:World} (h:MSt X S w) (hfa:∀ c ∈ X.pr,c.goals=[]) {gp:P} {gv:Value} (hg:TP w (fun _ => True) gp.t gv) (qg:gp.lq) {z:List UInt8} {q:Nat} (hn:nameP gp=some (z,q)) {o:Oc} (ho:user X.pr S gp z q=some o) (hp:plO o=true)
 (hM:S.M.length≤100000) (hC:S.ch.length≤100000) (hF:S.fr.length≤100000) :
 Calls Tryz.prog 118 #[mP X,gv,.string (ba z),.int .i64 (q:Int)] w fun e w' => OcM X o e w'∧KX X w w':=by
 obtain ⟨k,n,s,GA,m,c,rfl⟩:=hg.agg
 obtain ⟨fv,cv,hbx,hfl,hch⟩:=h.box
 obtain ⟨A,cc,hv,HA,hc,hgb,hcs,hfg,f,p1,p2,p3⟩:=h.pr
 obtain rfl:=p2.val
 obtain ⟨css,hcl1,hcow,hcc⟩:=hch
 obtain ⟨CA,cca,rfl,_,_,_,_⟩:=own_open hcow
 have hlt:=h.lt
 have hpb:=heap_lt p1
 have hne:namedK X.pr z q≠[]:=fun e => by
  unfold user at ho
  rw [if_pos e] at ho
  injection ho with ho
  subst ho
  cases hp
 have ht:tryM X.pr S gp (whichK X.pr z q gp) S.ch.length=some o:=by
  unfold user at ho
  rwa [if_neg hne] at ho
 have hwf:(whichK X.pr z q gp).length≤100000:=Nat.le_trans (which_few _ _ _ _) (by have:=p2.few;simpa using this)
 have m3:w.cell? ⟨X.mb,3,none⟩=some (.pointer (some ⟨X.pb,0,none⟩)):=cell_of_row _ _ 3 _ _ _ hbx
 have p11:w.cell? ⟨X.pb,1,none⟩=some (.slice HA X.pr.length hc):=(cell_of_row _ _ 1 _ _ _ p1).trans (by simp)
 have hlen:¬ ((namedK X.pr z q).length:Int)=0:=fun e => hne (List.eq_nil_of_length_eq_zero (by omega))
 have H:=Lib.hid h
 have HG:=Lib.hid hg
 have P2:=Lib.hid p2
 have P11:=Lib.hid p11
 have HB:=Lib.hid hbx
 have B0:=Lib.hid (show Below w.heap.size w (w.alloc (Obj.cells #[.int .i64 k,.int .i64 n,.string s,.slice GA m c] 51)) from belA (Below.refl _ _) _)
 have X0:=Lib.hid (show (w.alloc (Obj.cells #[.int .i64 k,.int .i64 n,.string s,.slice GA m c] 51)).heap[w.heap.size]? =some (Obj.cells #[.int .i64 k,.int .i64 n,.string s,.slice GA m c] 51 (0,0)) from heap_alloc_new _ _)
 have N0:=Lib.hid (named_any (p2.below B0.out) z q)
 rw [named_list,List.length_map] at N0
 clear h hg hbx hfl p1 p2 p3 ho hcow hcc
 unfold mP
 go_enter Tryz.func118,Tryz.ntmps118
 go_wp2_with fail
 refine N0.out.mono ?_
 rintro e w1 ⟨⟨v1,rfl,nr⟩,b1⟩
 obtain ⟨A1,c1,rfl,_⟩:=nr
 generalize (namedK X.pr z q).length=nl at*
 have Bd:=Lib.hid (show Below w.heap.size w w1.drew from (B0.out.trans (b1.mono B0.out.size)).drew)
 have Xd:=Lib.hid (show w1.drew.heap[w.heap.size]? =some (Obj.cells #[.int .i64 k,.int .i64 n,.string s,.slice GA m c] 51 (0,0)) from (b1.block _ (heap_lt X0.out)).trans X0.out)
 clear b1 m3 p11 N0
 go_upto_region 3 with fail
 refine rg [(1,fun u => AC u w.heap.size 0 [.int .i64 k,.int .i64 n,.string s,.slice GA m c]),(5,fun u => AC u X.mb 3 [.pointer (some ⟨X.pb,0,none⟩)]),(8,fun u => AC u X.pb 1 [.slice HA X.pr.length hc]),(9,fun u => AC u w.heap.size 0 [.int .i64 k,.int .i64 n,.string s,.slice GA m c]),(14,fun u => AC u X.mb 11 [.slice CA S.ch.length cca])]
  (hS:=⟨ac_of Xd.out,⟨cell_of_row _ _ 3 _ _ _ ((Bd.out.block _ hlt.2.1).trans HB.out),trivial⟩,⟨(World.cell?_of_block (a:=⟨X.pb,1,none⟩) (Bd.out.block _ hpb)).trans P11.out,trivial⟩,ac_of Xd.out,⟨cell_of_row _ _ 11 _ _ _ ((Bd.out.block _ hlt.2.1).trans HB.out),trivial⟩,trivial⟩) (h:=fun hH => ?_)
 generalize w1.drew=W3 at Bd Xd hH ⊢
 have M3:=Lib.hid (H.out.below Bd.out)
 have WH:=Lib.hid (which_any (P2.out.below Bd.out) (HG.out.below Bd.out) hn)
 rw [which_list,List.length_map] at WH
 refine tp 0 (h:=tl 1 (h:=tp 2 (h:=tp 3 (h:=tp 4 (h:=tl 5 (h:=tp 6 (h:=tp 7 (h:=tl 8 (h:=tl 9 (h:=tp 11 (h:=tp 12 (h:=tp 13 (h:=tl 14 (h:=tp 15 (h:=r1 10 [1,14] (h:=fun K hK => ?_))))))))))))))))
 go_simp
 refine WH.out.mono ?_
 rintro e w2 ⟨⟨v2,rfl,nr2,far2⟩,b2⟩
 have NM2:=Lib.hid (show NM w2 X.sp (whichK X.pr z q gp) v2 from ⟨nr2,fun g off m c e => by have:=far2 g off m c e;have:=Bd.out.size;have:=hlt.2.2.1;omega⟩)
 have M2:=Lib.hid (M3.out.below b2)
 have B2:=Lib.hid (Bd.out.trans (b2.mono Bd.out.size))
 have X2:=Lib.hid ((b2.block _ (heap_lt Xd.out)).trans Xd.out)
 refine hK.out _ _ ⟨ac_of X2.out,⟨cell_of_row _ _ 11 _ _ _ ((B2.out.block _ hlt.2.1).trans HB.out),trivial⟩,trivial⟩ (fun _ => ?_)
 clear hK K b2 nr2 far2 WH
 have TR:=Lib.hid (try_any M2.out hfa (HG.out.below B2.out) qg NM2.out ht hp hM hC hF hwf)
 refine r1 16 [] (h:=fun K hK => ?_)
 go_simp
 refine TR.out.mono ?_
 cases o with
 | go S' =>
  rintro e w9 ⟨⟨rfl,m9⟩,k9⟩
  have M9:=Lib.hid m9
  have K9:=Lib.hid ((KX.of hlt.1 B2.out).trans k9)
  refine hK.out _ _ trivial (fun _ => ?_)
  clear hK K m9 k9
  refine dn (h:=?_)
  go_wp2_with fail
  go_end0
  exact ⟨⟨rfl,M9.out⟩,K9.out⟩
 | fail S' =>
  rintro e w9 ⟨⟨rfl,m9⟩,k9⟩
  exact ⟨rfl,⟨rfl,m9⟩,(KX.of hlt.1 B2.out).trans k9⟩
 | ball S' t => cases hp
 | out S' k => cases hp
end Go.Proofs.YtdgpmpccfjmmcaaGreatDoor
namespace Go.Proofs.YtdgpmpccfjmmcaaGreatDoor
open Go.RowKit
theorem flat_rows {s:Nat}:∀ (css:List (List Value)) (i:Nat) (cs:List Value),(∀ x ∈ css,x.length=s)→css[i]? =some cs→∀ j,j < s→css.flatten[s*i+j]? =cs[j]?
 | [],i,cs,_,h,_,_ => by simp at h
 | y ::l,0,cs,hs,h,j,hj => by
  simp at h
  subst h
  rw [List.flatten_cons,List.getElem?_append_left (by rw [hs _ List.mem_cons_self];omega)]
  simp
 | y ::l,i+1,cs,hs,h,j,hj => by
  have hy:=hs y List.mem_cons_self
  rw [List.flatten_cons,List.getElem?_append_right (by rw [hy,Nat.mul_succ];omega),hy,show s*(i+1)+j - s=s*i+j by rw [Nat.mul_succ];omega]
  exact flat_rows l i cs (fun x hx => hs x (List.mem_cons_of_mem _ hx)) (by simpa using h) j hj
def FrO (w0 w:World) (B:Nat) (l:List Fr0) (v:Value):Prop:=∃ css:List (List Value),css.length=l.length∧w.ownsRow B 87 7 v l.length css.flatten∧∀ (i:Nat) (f:Fr0) (cs:List Value),l[i]? =some f→css[i]? =some cs→FrC w0 f cs
theorem FrC.len {w:World} {f:Fr0} {cs:List Value} (h:FrC w f cs):cs.length=7:=by
 obtain ⟨_,_,_,_,_,_,_,_,_,rfl⟩:=h.seven
 rfl
theorem FrO.row {w0 w:World} {B:Nat} {l:List Fr0} {v:Value} (h:FrO w0 w B l v) (hb:Below w0.heap.size w0 w):FrR w l v:=by
 obtain ⟨css,h1,h2,h3⟩:=h
 obtain ⟨A,c,rfl,h4,h5,_,h6⟩:=own_open h2
 refine ⟨A,c,rfl,h4,h5,fun h0 => ?_⟩
 obtain ⟨g,cur,rfl,_,hh,hc⟩:=h6 h0
 have hl:∀ x ∈ css,x.length=7:=fun x hx => by
  obtain ⟨i,hi,rfl⟩:=List.mem_iff_getElem.1 hx
  exact (h3 i _ _ (List.getElem?_eq_getElem (by omega)) (List.getElem?_eq_getElem hi)).len
 refine ⟨g,cur,_,rfl,hh,fun k fr hk => ?_⟩
 have hlt:=lt_of_at hk
 have hcs:css[k]? =some (css[k]'(by omega)):=List.getElem?_eq_getElem _
 refine ⟨_,(h3 k fr _ hk hcs).keep fun b cs f hh => (hb.block b (heap_lt hh)).trans hh,fun j hj => ?_⟩
 rw [hc (7*k+j) (by omega),flat_rows css k _ hl hcs j hj]
theorem FrO.snoc {w0 w:World} {B:Nat} {l:List Fr0} {v:Value} {css:List (List Value)} {f:Fr0} {us:List Value} (h1:css.length=l.length) (h3:∀ (i:Nat) (f:Fr0) (cs:List Value),l[i]? =some f→css[i]? =some cs→FrC w0 f cs)
 (ho:w.ownsRow B 87 7 v (l.length+1) (css.flatten++us)) (hu:FrC w0 f us):FrO w0 w B (l++[f]) v:=by
 refine ⟨css++[us],by simp [h1],by simpa using ho,fun i f' cs hf hc => ?_⟩
 by_cases hi:i < l.length
 ·rw [List.getElem?_append_left hi] at hf
  rw [List.getElem?_append_left (by omega)] at hc
  exact h3 i f' cs hf hc
 ·have h0:i=l.length:=by
   have:=lt_of_at hf
   simp at this
   omega
  subst h0
  rw [← h1] at hc
  simp at hf hc
  subst hf;subst hc
  exact hu
set_option maxRecDepth 100000 in
set_option maxHeartbeats 16000000 in
theorem body_any {w:World} {p:P} {v:Value} (hv:TP w (fun _ => True) p.t v) (hok:p.t.ok) {bar:Nat} {gs:List P} (hw:wrgP p=false) (hg:gatP deepF p=some gs) (hgl:gs.length≤2000) :
 Calls Tryz.prog 132 #[v,.int .i64 (bar:Int)] w fun e w' => (∃ v',e=.returned v'∧FrR w' (goalsF gs bar) v')∧Below w.heap.size w w':=by
 obtain ⟨k,n,s,A,m,c,rfl⟩:=hv.agg
 have hwt:wrongT p.t=false:=by rw [wrong_t _ p (Nat.le_refl _)];exact hw
 obtain ⟨hq1,hq2⟩:=gat_t _ _ _ hg
 have B0:=Lib.hid (show Below w.heap.size w (w.alloc (Obj.cells #[.int .i64 k,.int .i64 n,.string s,.slice A m c] 51)) from belA (Below.refl _ _) _)
 have G0:=Lib.hid (pgoals_any hok (S:=fun b => b < (w.alloc (Obj.cells #[.int .i64 k,.int .i64 n,.string s,.slice A m c] 51)).heap.size) (fun _ h => h) ((hv.below B0.out).keep fun b cs f _ hb => ⟨hb,heap_lt hb⟩))
 have Q1:=Lib.hid hq1
 have Q2:=Lib.hid hq2
 clear hv hg hq1 hq2
 go_enter Tryz.func132,Tryz.ntmps132
 go_wp2_with fail
 refine G0.out.mono ?_
 rintro e w1 ⟨⟨A1,m1,c1,rfl,tl⟩,b1⟩
 rw [hwt]
 obtain ⟨Pp,qs,TL1⟩:=tl.out hwt
 obtain ⟨A2,c2,e2,hc2,hA2,hx2⟩:=TL1.all
 cases e2
 have HT:=Lib.hid TL1
 have B1:=Lib.hid (B0.out.trans (b1.mono B0.out.size))
 have er0:erW false=0:=rfl
 rw [er0]
 clear tl b1 TL1 G0 hx2 hwt er0
 have hlen:(gatN p.t).length=gs.length:=Q1.out
 rw [hlen]
 clear hlen
 go_wp2_with fail
 go_loopw [7,24] (fun u7 iv wr => ∃ (i:Nat) (A7:Option Addr) (c7:Nat),u7=.slice A7 i c7∧iv=.int .i64 (i:Int)∧i≤gs.length∧Hid (FrO w1 wr w1.heap.size ((goalsF gs bar).take i) (.slice A7 i c7))∧Hid (Below w1.heap.size w1 wr)) (fun _ iv _ => ((gs.length:Int) - intOf iv).toNat)
 case atStart => exact ⟨0,none,0,rfl,rfl,by omega,Lib.hid ⟨[],rfl,World.ownsRow_nil _ _ _ _,fun i f cs h => by simp at h⟩,Lib.hid (Below.refl _ _)⟩
 case round =>
  obtain ⟨i,A7,c7,rfl,rfl,hi,hf,hb⟩:=hrel
  by_cases hin:i < gs.length
  ·have hin':(i:Int) < (gs.length:Int):=by omega
   have hin2:i < (gatN p.t).length:=by have:=Q1.out;omega
   obtain ⟨g,q,rfl,_,hgl2,_,t0,t1,t2,t3,htp⟩:=HT.out.at_ rfl hin2
   have HTP:=Lib.hid (Q2.out i _ _ (List.getElem?_eq_getElem hin2) (List.getElem?_eq_getElem hin) _ _ _ (htp.more fun _ _ => trivial))
   obtain ⟨css,e1,e2,e3⟩:=hf.out
   have hl7:((goalsF gs bar).take i).length=i:=by simp [goalsF];omega
   rw [hl7] at e2
   have E1:=Lib.hid e1
   have E2:=Lib.hid e2
   have E3:=Lib.hid e3
   have r0:=(World.cell?_of_block (a:=⟨g,i*4,none⟩) (hb.out.block g hgl2)).trans t0
   have r1:=(World.cell?_of_block (a:=⟨g,i*4+1,none⟩) (hb.out.block g hgl2)).trans t1
   have r2:=(World.cell?_of_block (a:=⟨g,i*4+2,none⟩) (hb.out.block g hgl2)).trans t2
   have r3:=(World.cell?_of_block (a:=⟨g,i*4+3,none⟩) (hb.out.block g hgl2)).trans t3
   clear htp e1 e2 e3 hl7 t0 t1 t2 t3
   go_wp2_with (at_builtin;go_must (refine wpList_push_any _ rfl _ _ _ rfl elFr w1.heap.size (.slice A7 i c7) i css.flatten rfl (own_below E2.out (belA (belA (Below.refl _ _) _) _)) (wr.heap.size+1) 1 [.int .i64 0,.int .i64 (bar:Int),.int .i64 0,.int .i64 q.k,.int .i64 q.n,.string q.s,.slice q.A q.m q.c] rfl rfl ?_ ?_ (by omega) (by unfold maxLen;omega) (by have:=hb.out.size;simp;omega) ?_))
   ·intro j u hu
    rw [cell_of_row _ _ j _ _ _ (heap_at _ _ (by simp))]
    simpa using hu
   ·intro u hu
    simp only [List.mem_cons,List.not_mem_nil,or_false] at hu
    rcases hu with rfl | rfl | rfl | rfl | rfl | rfl | rfl <;> rfl
   intro v9 w9 hown9 hb9
   have B9:=Lib.hid (hb.out.trans (((belA (belA (Below.refl _ _) _) _).mono hb.out.size).trans hb9))
   obtain ⟨A9,c9,rfl,_⟩:=own_open hown9
   have F9:=Lib.hid (show FrO w1 w9 w1.heap.size ((goalsF gs bar).take (i+1)) (.slice A9 (i+1) c9) from by
    have hg0:(goalsF gs bar)[i]? =some (.goal bar gs[i]):=by simp [goalsF,List.getElem?_eq_getElem hin]
    rw [List.take_add_one,hg0]
    refine FrO.snoc (us:=[.int .i64 0,.int .i64 (bar:Int),.int .i64 0,.int .i64 q.k,.int .i64 q.n,.string q.s,.slice q.A q.m q.c]) E1.out E3.out (by rw [show ((goalsF gs bar).take i).length=i by simp [goalsF];omega];exact hown9) ⟨_,rfl,_,_,_,_,rfl,HTP.out⟩)
   clear hown9 hb9
   go_wp2_with fail
   go_roundw
   case rel => exact ⟨i+1,A9,c9,by first | rfl | go_num,by first | rfl | go_num,by omega,F9,B9⟩
   case measure => simp [intOf];omega
  ·have hin':¬ (i:Int) < (gs.length:Int):=by omega
   go_wp2_with fail
   go_ret
   have e0:(goalsF gs bar).take i=goalsF gs bar:=List.take_of_length_le (by simp [goalsF];omega)
   have h9:=hf.out.row hb.out
   rw [e0] at h9
   exact ⟨⟨_,rfl,h9⟩,B1.out.trans (hb.out.mono B1.out.size)⟩
set_option maxRecDepth 100000 in
set_option maxHeartbeats 16000000 in
theorem do_any {X:MX} {S:Ms} {w:World} (h:MSt X S w) {t:P} {v:Value} (hv:TP w (fun _ => True) t.t v) (qt:t.lq) (kt:okP S.n t=true) {bar:Nat} {o:Oc} (ho:S.doB t bar=some o) (hp:plO o=true) (hF:S.fr.length≤100000) :
 Calls Tryz.prog 84 #[mP X,v,.int .i64 (bar:Int)] w fun e w' => OcM X o e w'∧KX X w w':=by
 obtain ⟨k,n,s,A,m,c,rfl⟩:=hv.agg
 obtain ⟨fv,cv,hbx,hfl,hch⟩:=h.box
 obtain ⟨fva,rfl⟩:=hfl.ptr
 have hlt:=h.lt
 obtain ⟨hw,gs,hg,rfl⟩:wrgP t=false∧∃ gs,gatP deepF t=some gs∧o=.go {S with fr:=goalsF gs bar++S.fr}:=by
  unfold Ms.doB at ho
  split at ho
  ·injection ho with ho;subst ho;cases hp
  ·rename_i hw
   cases hg:gatP deepF t with
   | none => rw [hg] at ho;cases ho
   | some gs => rw [hg] at ho;injection ho with ho;exact ⟨by simpa using hw,gs,rfl,ho.symm⟩
 obtain ⟨k1,k2⟩:kn S.n t=true∧t.size≤1000:=by simpa [okP] using kt
 obtain ⟨g1,g2,_⟩:=good_t S.n h.st.hn _ t (Nat.le_refl _) qt k1
 have hok:t.t.ok:=⟨g1,by omega⟩
 have hgl:gs.length≤2000:=by
  have:=(gat_ok _ g1).2.2
  have:=(gat_t _ _ _ hg).1
  omega
 have hq:frsQ (goalsF gs bar++S.fr):=fun f hf b g e => by
  rcases List.mem_append.1 hf with hf | hf
  ·obtain ⟨x,hx,rfl⟩:=List.mem_map.1 hf
   cases e
   exact gat_lq _ _ _ hg qt _ hx
  ·exact h.frq f hf b g e
 have hgf:(goalsF gs bar).length≤100000:=by simp [goalsF];omega
 have H:=Lib.hid h
 have HB:=Lib.hid hbx
 have B0:=Lib.hid (show Below w.heap.size w (w.alloc (Obj.cells #[.int .i64 k,.int .i64 n,.string s,.slice A m c] 51)).drew from (belA (Below.refl _ _) _).drew)
 have X0:=Lib.hid (show (w.alloc (Obj.cells #[.int .i64 k,.int .i64 n,.string s,.slice A m c] 51)).drew.heap[w.heap.size]? =some (Obj.cells #[.int .i64 k,.int .i64 n,.string s,.slice A m c] 51 (0,0)) from heap_alloc_new _ _)
 have BO:=Lib.hid (body_any (bar:=bar) (hv.below B0.out) hok hw hg hgl)
 have FH:=Lib.hid hfl
 clear h hv hbx hfl hch ho hg
 unfold mP
 go_enter Tryz.func84,Tryz.ntmps84
 go_upto_region 1 with fail
 refine rg [(5,fun u => AC u X.mb 0 [.pointer fva]),(6,fun u => AC u w.heap.size 0 [.int .i64 k,.int .i64 n,.string s,.slice A m c])]
  (hS:=⟨⟨cell_of_row _ _ 0 _ _ _ ((B0.out.block _ hlt.2.1).trans HB.out),trivial⟩,ac_of X0.out,trivial⟩) (h:=fun hH => ?_)
 generalize (w.alloc (Obj.cells #[.int .i64 k,.int .i64 n,.string s,.slice A m c] 51)).drew=W1 at B0 X0 BO hH ⊢
 refine tp 0 (h:=tp 1 (h:=tp 2 (h:=tp 3 (h:=tp 4 (h:=tl 5 (h:=tl 6 (h:=tp 7 (h:=r1 8 [5] (h:=fun K hK => ?_)))))))))
 go_simp
 refine BO.out.mono ?_
 rintro e w2 ⟨⟨v2,rfl,hf2⟩,b2⟩
 have F2:=Lib.hid hf2
 have B2:=Lib.hid (B0.out.trans (b2.mono B0.out.size))
 obtain ⟨A2,c2,rfl,_⟩:=hf2
 refine hK.out _ _ ⟨⟨cell_of_row _ _ 0 _ _ _ ((B2.out.block _ hlt.2.1).trans HB.out),trivial⟩,trivial⟩ (fun _ => ?_)
 clear hK K b2 BO
 refine r1 9 [] (h:=fun K hK => ?_)
 go_simp
 refine (mahead_any hgf (by omega) F2.out (FH.out.below B2.out)).mono ?_
 rintro e w3 ⟨⟨lv,rfl,hf3⟩,b3⟩
 obtain ⟨a3,rfl⟩:=hf3.ptr
 have B3:=Lib.hid (B2.out.trans (b3.mono B2.out.size))
 have M3:=(H.out.below B3.out).setFr hf3 hq
 have M3:=Lib.hid M3
 have X3:=(B3.out.block _ hlt.2.1).trans HB.out
 have f3:w3.frozen? ⟨X.mb,0,none⟩=false:=by simp [World.frozen?,X3]
 have z3:w3.cell? ⟨X.mb,0,none⟩=some (.pointer fva):=cell_of_row _ _ 0 _ _ _ X3
 refine hK.out _ _ trivial (fun _ => ?_)
 clear hK K b3 hf3 X3
 refine tp 10 (h:=tp 11 (h:=tp 12 (h:=r1 13 [] (h:=fun K hK => ?_))))
 go_simp
 refine hK.out _ _ trivial (fun _ => ?_)
 clear hK K
 refine dn (h:=?_)
 go_wp2_with fail
 go_end0
 exact ⟨⟨rfl,M3.out.1⟩,(KX.of hlt.1 B3.out).trans M3.out.2.wk⟩
end Go.Proofs.YtdgpmpccfjmmcaaGreatDoor
namespace Go.Proofs.YtdgpmpccfjmmcaaGreatDoor
open Go.RowKit
theorem AC.below {w w':World} {B g:Nat} (hg:g < B) (hb:Below B w w'):∀ {l:List Value} {j:Nat},AC w g j l→AC w' g j l
 | [],_,_ => trivial
 | _ ::_,_,h => ⟨(World.cell?_of_block (a:=⟨g,_,none⟩) (hb.block _ hg)).trans h.1,AC.below hg hb h.2⟩
structure GX (X:MX) (w:World):Prop where
 goals:GoalsX w
 mx:∃ mx:Int,w.cell? ⟨2,0,none⟩=some (.int .i64 mx)
 lt:0 < X.B∧2 < X.B
theorem GX.low {X:MX} {w w':World} (h:GX X w) (k:Below X.B w w'):GX X w':=
 ⟨fun n hn => (World.cell?_of_block (a:=⟨0,n,none⟩) (k.block _ h.lt.1)).trans (h.goals n hn),let ⟨mx,hm⟩:=h.mx;⟨mx,(World.cell?_of_block (a:=⟨2,0,none⟩) (k.block _ h.lt.2)).trans hm⟩,h.lt⟩
theorem kind_ne {w:World} {S:Nat→Prop} {p:P} {k0:Int} {v1 v2 v3:Value} (h:TP w S p.t (.agg #[.int .i64 k0,v1,v2,v3])) (hp:∀ n,p≠.v n):¬ k0=1:=by
 cases p with
 | v n => exact absurd rfl (hp n)
 | i n => obtain ⟨A,c,e,_⟩:=h;cases e;decide
 | a s => obtain ⟨A,c,e,_⟩:=h;cases e;decide
 | c s l => obtain ⟨A,c,e,_⟩:=h;cases e;decide
theorem resI_t (s:List UInt8) (n:Nat):resI (ba s) (n:Int)=resT s n:=by simp [resI,ba_lst]
set_option maxRecDepth 100000 in
set_option maxHeartbeats 16000000 in
theorem call_any {X:MX} {S:Ms} {w:World} (h:MSt X S w) {t:P} {gv:Value} (hg:TP w (fun _ => True) (P.c [99,97,108,108] [t]).t gv) (qt:t.lq) (hv:∀ n,t≠.v n) (kt:okP S.n t=true) {o:Oc} (ho:S.doB t S.ch.length=some o) (hp:plO o=true) (hF:S.fr.length≤100000) :
 Calls Tryz.prog 119 #[mP X,gv] w fun e w' => OcM X o e w'∧KX X w w':=by
 obtain ⟨A,c,rfl,hmc,_,hx⟩:=hg
 obtain ⟨b,cs,f,rfl,_,hb,hxs⟩:=hx (by simp)
 obtain ⟨v0,v1,v2,v3,r0,r1,r2,r3,htp⟩:=hxs 0 (by simp)
 obtain ⟨k0,k1,k2,A0,m0,c0,e⟩:=htp.agg
 cases e
 have hk0:(k0 == 1)=false:=by simpa using kind_ne htp hv
 obtain ⟨fv,cv,hbx,hfl,hch⟩:=h.box
 obtain ⟨css,hcl1,hcow,hcc⟩:=hch
 obtain ⟨CA,cca,rfl,_,_,_,_⟩:=own_open hcow
 have hlt:=h.lt
 have hb0:=heap_lt hb
 have H:=Lib.hid h
 have HT:=Lib.hid (show TP w (fun _ => True) t.t (.agg #[.int .i64 k0,.int .i64 k1,.string k2,.slice A0 m0 c0]) from htp)
 have HB:=Lib.hid hbx
 have AB:=Lib.hid (show AC w b 0 [.int .i64 k0,.int .i64 k1,.string k2,.slice A0 m0 c0] from ⟨(cell_of_row _ _ 0 _ _ _ hb).trans r0,(cell_of_row _ _ 1 _ _ _ hb).trans r1,(cell_of_row _ _ 2 _ _ _ hb).trans r2,(cell_of_row _ _ 3 _ _ _ hb).trans r3,trivial⟩)
 have B0:=Lib.hid (show Below w.heap.size w (w.alloc (Obj.cells #[.int .i64 4,.int .i64 0,.string (ba [99,97,108,108]),.slice (some ⟨b,0,none⟩) 1 c] 51)).drew from (belA (Below.refl _ _) _).drew)
 have X0:=Lib.hid (show (w.alloc (Obj.cells #[.int .i64 4,.int .i64 0,.string (ba [99,97,108,108]),.slice (some ⟨b,0,none⟩) 1 c] 51)).drew.heap[w.heap.size]? =some (Obj.cells #[.int .i64 4,.int .i64 0,.string (ba [99,97,108,108]),.slice (some ⟨b,0,none⟩) 1 c] 51 (0,0)) from heap_alloc_new _ _)
 clear h htp hbx hfl hcow hcc hx hxs r0 r1 r2 r3 hb
 unfold mP
 go_enter Tryz.func119,Tryz.ntmps119
 go_upto_region 1 with fail
 refine rg [(1,fun u => AC u w.heap.size 3 [.slice (some ⟨b,0,none⟩) 1 c]),(3,fun u => AC u b 0 [.int .i64 k0,.int .i64 k1,.string k2,.slice A0 m0 c0]),(5,fun u => AC u w.heap.size 3 [.slice (some ⟨b,0,none⟩) 1 c])]
  (hS:=⟨⟨cell_of_row _ _ 3 _ _ _ X0.out,trivial⟩,AB.out.below hb0 B0.out,⟨cell_of_row _ _ 3 _ _ _ X0.out,trivial⟩,trivial⟩) (h:=fun hH => ?_)
 generalize (w.alloc (Obj.cells #[.int .i64 4,.int .i64 0,.string (ba [99,97,108,108]),.slice (some ⟨b,0,none⟩) 1 c] 51)).drew=W1 at B0 X0 hH ⊢
 have hlt1:=hlt.2.1
 obtain ⟨A9,c9,hsl⟩:∃ (A9:Option Addr) (c9:Nat),∀ u:World,Sem.run Tryz.prog (Instr.slice 47 (.slice (some ⟨b,0,none⟩) 1 c) (some (.int .i64 1)) none none) u=.ok (.slice A9 0 c9) u:=by
  by_cases hc1:c=1
  ·subst hc1
   exact ⟨some ⟨b,0,none⟩,0,fun u => by go_simp⟩
  ·exact ⟨some ⟨b,4,none⟩,c - 1,fun u => by go_simp⟩
 refine tp 0 (h:=tl 1 (h:=tp 2 (h:=tl 3 (h:=tp 4 (h:=tl 5 (h:=?_))))))
 refine tp 6 (v:=.slice A9 0 c9) (h:=?_)
 refine r1 7 [1,3,5] (h:=fun K hK => ?_)
 go_simp
 have x7:=(Below.heap_alloc W1 (Obj.cells #[.int .i64 0,.int .i64 0,.string ⟨#[]⟩,.slice none 0 0] 51) _ (heap_lt X0.out)).trans X0.out
 refine hK.out _ _ ⟨⟨cell_of_row _ _ 3 _ _ _ x7,trivial⟩,AB.out.below hb0 (belA B0.out _),⟨cell_of_row _ _ 3 _ _ _ x7,trivial⟩,trivial⟩ (fun _ => ?_)
 clear hK K
 refine r1 8 [5] (h:=fun K hK => ?_)
 refine step_store_new W1 rfl (.tmp 4) (.tmp 12) 51 rfl #[.int .i64 0,.int .i64 0,.string ⟨#[]⟩,.slice none 0 0] #[.int .i64 k0,.int .i64 k1,.string k2,.slice A0 m0 c0] rfl rfl (by kernel_rfl) rfl (by simp [Value.oneCell']) rfl ?_
 have x8:=(Below.heap_alloc W1 (Obj.cells #[.int .i64 k0,.int .i64 k1,.string k2,.slice A0 m0 c0] 51) _ (heap_lt X0.out)).trans X0.out
 refine hK.out _ _ ⟨⟨cell_of_row _ _ 3 _ _ _ x8,trivial⟩,trivial⟩ (fun _ => ?_)
 clear hK K x7 x8
 refine tp 9 (h:=dn (h:=?_))
 have Bd:=Lib.hid (show Below w.heap.size w (W1.alloc (Obj.cells #[.int .i64 k0,.int .i64 k1,.string k2,.slice A0 m0 c0] 51)).drew from (belA B0.out _).drew)
 have Xd:=Lib.hid (show (W1.alloc (Obj.cells #[.int .i64 k0,.int .i64 k1,.string k2,.slice A0 m0 c0] 51)).drew.heap[W1.heap.size]? =some (Obj.cells #[.int .i64 k0,.int .i64 k1,.string k2,.slice A0 m0 c0] 51 (0,0)) from heap_alloc_new _ _)
 go_upto_region 9 with fail
 refine rg [(1,fun u => AC u W1.heap.size 0 [.int .i64 k0,.int .i64 k1,.string k2,.slice A0 m0 c0]),(5,fun u => AC u X.mb 11 [.slice CA S.ch.length cca])]
  (hS:=⟨ac_of Xd.out,⟨cell_of_row _ _ 11 _ _ _ ((Bd.out.block _ hlt1).trans HB.out),trivial⟩,trivial⟩) (h:=fun hH2 => ?_)
 generalize (W1.alloc (Obj.cells #[.int .i64 k0,.int .i64 k1,.string k2,.slice A0 m0 c0] 51)).drew=W2 at Bd Xd hH2 ⊢
 have DO:=Lib.hid (do_any (H.out.below Bd.out) (HT.out.below Bd.out) qt kt ho hp hF)
 refine tp 0 (h:=tl 1 (h:=tp 2 (h:=tp 3 (h:=tp 4 (h:=tl 5 (h:=tp 6 (h:=r1 7 [] (h:=fun K hK => ?_))))))))
 go_simp
 refine DO.out.mono ?_
 cases o with
 | go S' =>
  rintro e w9 ⟨⟨rfl,m9⟩,k9⟩
  have M9:=Lib.hid m9
  have K9:=Lib.hid ((KX.of hlt.1 Bd.out).trans k9)
  refine hK.out _ _ trivial (fun _ => ?_)
  clear hK K m9 k9
  refine dn (h:=?_)
  go_wp2_with fail
  go_end0
  exact ⟨⟨rfl,M9.out⟩,K9.out⟩
 | fail S' =>
  rintro e w9 ⟨⟨rfl,m9⟩,k9⟩
  exact ⟨rfl,⟨rfl,m9⟩,(KX.of hlt.1 Bd.out).trans k9⟩
 | ball S' t => cases hp
 | out S' k => cases hp
theorem call_open {pr:List Cl0} {S:Ms} {g:P} {n bar:Nat} {o:Oc} (hn:nameP g=some ([99,97,108,108],n)) (hr:resT [99,97,108,108] n=true) (ho:goalF pr S g bar=some o):∃ t,g=.c [99,97,108,108] [t]∧(∀ n,t≠.v n)∧okP S.n t=true∧S.doB t S.ch.length=some o:=by
 cases g with
 | v k => cases hn
 | i k => cases hn
 | a s =>
  injection hn with hn
  injection hn with h1 h2
  subst h1;subst h2
  simp [goalF,nameP,hr] at ho
 | c s l =>
  injection hn with hn
  injection hn with h1 h2
  subst h1;subst h2
  unfold goalF at ho
  simp only [nameP,hr,Bool.not_true,Bool.false_eq_true,if_false,if_true] at ho
  rcases l with _ | ⟨t,_ | ⟨t2,l⟩⟩
  ·cases ho
  ·have key:(if okP S.n t=true then S.doB t S.ch.length else none)=some o→okP S.n t=true∧S.doB t S.ch.length=some o:=fun h => by
    split at h
    ·rename_i hk;exact ⟨hk,h⟩
    ·cases h
   cases t with
   | v k => cases ho
   | i k => exact ⟨_,rfl,nofun,key ho⟩
   | a k => exact ⟨_,rfl,nofun,key ho⟩
   | c k l => exact ⟨_,rfl,nofun,key ho⟩
  ·simp at ho
theorem name_size {g:P} {s:List UInt8} {n:Nat} (hn:nameP g=some (s,n)) (hq:g.lq):(ba s).size≤4096:=by
 cases g with
 | v n => cases hn
 | i n => cases hn
 | a s' => cases hn;exact hq.1
 | c s' l => cases hn;exact hq.1.1
set_option maxRecDepth 100000 in
set_option maxHeartbeats 16000000 in
theorem goal_any {X:MX} {S:Ms} {w:World} (h:MSt X S w) (hfa:∀ c ∈ X.pr,c.goals=[]) (gx:GX X w) {g:P} {gv:Value} (hg:TP w (fun _ => True) g.t gv) (qg:g.lq) {bar:Nat} {o:Oc} (ho:goalF X.pr S g bar=some o) (hp:plO o=true)
 (hM:S.M.length≤100000) (hC:S.ch.length≤100000) (hF:S.fr.length≤100000) :
 Calls Tryz.prog 77 #[mP X,gv,.int .i64 (bar:Int)] w fun e w' => OcM X o e w'∧KX X w w':=by
 obtain ⟨s,n,hn⟩:∃ s n,nameP g=some (s,n):=by
  unfold goalF at ho
  cases hx:nameP g with
  | none => rw [hx] at ho;cases ho
  | some x => exact ⟨x.1,x.2,rfl⟩
 have HO:=Lib.hid ho
 unfold goalF at ho
 rw [hn] at ho
 simp only at ho
 obtain ⟨k,n0,GA,m,c,rfl,hnv,_⟩:=tp_first hg hn
 have hlt:=h.lt
 obtain ⟨mx,hmx⟩:=gx.mx
 have hns:=name_size hn qg
 have H:=Lib.hid h
 have HG:=Lib.hid hg
 have B0:=Lib.hid (show Below w.heap.size w (w.alloc (Obj.cells #[.int .i64 k,.int .i64 n0,.string (ba s),.slice GA m c] 51)) from belA (Below.refl _ _) _)
 have X0:=Lib.hid (show (w.alloc (Obj.cells #[.int .i64 k,.int .i64 n0,.string (ba s),.slice GA m c] 51)).heap[w.heap.size]? =some (Obj.cells #[.int .i64 k,.int .i64 n0,.string (ba s),.slice GA m c] 51 (0,0)) from heap_alloc_new _ _)
 have GG:=Lib.hid gx
 clear h hg gx hmx
 unfold mP
 go_enter Tryz.func77,Tryz.ntmps77
 go_wp2_with fail
 refine (pname_any _ _ _ _ _ _ _).mono ?_
 rintro e w1 ⟨rfl,b1⟩
 rw [hnv]
 have B1:=Lib.hid (B0.out.trans (b1.mono B0.out.size))
 have X1:=Lib.hid ((b1.block _ (heap_lt X0.out)).trans X0.out)
 have G1:=Lib.hid (GG.out.low (B1.out.mono hlt.1))
 obtain ⟨mx,hmx⟩:=G1.out.mx
 have RS:=Lib.hid (preserved_any (ba s) n w1 hmx G1.out.goals (by omega))
 rw [resI_t] at RS
 have x0:=cell_of_row _ _ 0 _ _ _ X1.out
 have x1:=cell_of_row _ _ 1 _ _ _ X1.out
 have x2:=cell_of_row _ _ 2 _ _ _ X1.out
 have x3:=cell_of_row _ _ 3 _ _ _ X1.out
 have M1:=Lib.hid (H.out.below B1.out)
 have T1:=Lib.hid (HG.out.below B1.out)
 clear b1 hmx
 cases hr:resT s n with
 | false =>
  rw [hr] at RS ho
  simp only [Bool.not_false,if_true] at ho
  have UA:=Lib.hid (user_any M1.out hfa T1.out qg hn ho hp hM hC hF)
  clear hr ho
  go_wp2_with fail
  refine RS.out.mono ?_
  rintro e w2 ⟨rfl,rfl⟩
  go_wp2_with fail
  refine UA.out.mono ?_
  cases o with
  | go S' =>
   rintro e w9 ⟨⟨rfl,m9⟩,k9⟩
   have M9:=Lib.hid m9
   have K9:=Lib.hid ((KX.of hlt.1 B1.out).trans k9)
   clear m9 k9
   go_wp2_with fail
   go_end0
   exact ⟨⟨rfl,M9.out⟩,K9.out⟩
  | fail S' =>
   rintro e w9 ⟨⟨rfl,m9⟩,k9⟩
   go_wp2_with fail
   exact ⟨rfl,⟨rfl,m9⟩,(KX.of hlt.1 B1.out).trans k9⟩
  | ball S' t => cases hp
  | out S' k => cases hp
 | true =>
  rw [hr] at RS ho
  simp only [Bool.not_true,Bool.false_eq_true,if_false] at ho
  by_cases hs:s=[99,97,108,108]
  ·subst hs
   rw [if_pos rfl] at ho
   obtain ⟨t,rfl,hv,kt,ho⟩:=call_open hn hr HO.out
   have CA:=Lib.hid (call_any M1.out T1.out qg.2.2.1 hv kt ho hp hF)
   have hcl:((ba [99,97,108,108]).toList == [99,97,108,108])=true:=by decide+kernel
   have hcd:((ba [99,97,108,108]).toList == [58,45])=false:=by decide+kernel
   clear hr ho
   go_wp2_with fail
   refine RS.out.mono ?_
   rintro e w2 ⟨rfl,rfl⟩
   go_wp2_with fail
   refine CA.out.mono ?_
   cases o with
   | go S' =>
    rintro e w9 ⟨⟨rfl,m9⟩,k9⟩
    have M9:=Lib.hid m9
    have K9:=Lib.hid ((KX.of hlt.1 B1.out).trans k9)
    clear m9 k9
    go_wp2_with fail
    go_end0
    exact ⟨⟨rfl,M9.out⟩,K9.out⟩
   | fail S' =>
    rintro e w9 ⟨⟨rfl,m9⟩,k9⟩
    go_wp2_with fail
    exact ⟨rfl,⟨rfl,m9⟩,(KX.of hlt.1 B1.out).trans k9⟩
   | ball S' t => cases hp
   | out S' k => cases hp
  ·rw [if_neg hs] at ho
   cases ho
end Go.Proofs.YtdgpmpccfjmmcaaGreatDoor
