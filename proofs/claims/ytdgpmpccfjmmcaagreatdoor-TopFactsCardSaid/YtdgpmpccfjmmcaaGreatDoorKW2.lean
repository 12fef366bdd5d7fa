/- The machine's try:clauses of a goal,one after the other. -/
import Derived.Test.YtdgpmpccfjmmcaaGreatDoorKJBa
import Derived.Test.YtdgpmpccfjmmcaaGreatDoorKJAt
import Derived.Test.YtdgpmpccfjmmcaaGreatDoorKVp
set_option linter.unusedVariables false
set_option linter.unusedSimpArgs false
namespace Go.Proofs.YtdgpmpccfjmmcaaGreatDoor
open Go.RowKit
theorem info_choice:(Tryz.prog.info? 169).map (fun i => (i.zero,i.size,i.bytes))=some (some (.agg #[.pointer none,.slice none 0 0,.slice none 0 0,.int .i64 0,.int .i64 0,.int .i64 0,.int .i64 0,.string ⟨#[]⟩,.slice none 0 0,.int .i64 0,.int .i64 0,.string ⟨#[]⟩,.slice none 0 0,.int .i64 0,.int .i64 0,.string ⟨#[]⟩,.slice none 0 0,.slice none 0 0,.int .i64 0]),19,272):=by kernel_rfl
theorem elCh:El Tryz.prog 80 169 (.agg #[.pointer none,.slice none 0 0,.slice none 0 0,.int .i64 0,.int .i64 0,.int .i64 0,.int .i64 0,.string ⟨#[]⟩,.slice none 0 0,.int .i64 0,.int .i64 0,.string ⟨#[]⟩,.slice none 0 0,.int .i64 0,.int .i64 0,.string ⟨#[]⟩,.slice none 0 0,.slice none 0 0,.int .i64 0]) 19 272:=by
 obtain ⟨i0,hi,hz0,hz1,hz2⟩:=info_parts info_choice
 exact ⟨Tryz.underlying80,⟨i0,hi,hz0,hz1,hz2⟩,rfl,by omega⟩
theorem info_frame:(Tryz.prog.info? 87).map (fun i => (i.zero,i.size,i.bytes))=some (some (.agg #[.int .i64 0,.int .i64 0,.int .i64 0,.int .i64 0,.int .i64 0,.string ⟨#[]⟩,.slice none 0 0]),7,80):=by kernel_rfl
theorem elFr:El Tryz.prog 122 87 (.agg #[.int .i64 0,.int .i64 0,.int .i64 0,.int .i64 0,.int .i64 0,.string ⟨#[]⟩,.slice none 0 0]) 7 80:=by
 obtain ⟨i0,hi,hz0,hz1,hz2⟩:=info_parts info_frame
 exact ⟨Tryz.underlying122,⟨i0,hi,hz0,hz1,hz2⟩,rfl,by omega⟩
theorem PrM.at_ {w:World} {s pb:Nat} {pr:List Cl0} (h:PrM w s pb pr) {k:Nat} {c:Cl0} (hk:pr[k]? =some c):∃ (g cc gi ci:Nat) (ins:List Ins) (GA:Option Addr) (gm gc:Nat) (pl:List Nat),w.cell? ⟨pb,0,none⟩=some (.slice (some ⟨g,0,none⟩) pr.length cc)∧k < pr.length∧
 w.cell? ⟨g,k*3,none⟩=some (.slice (some ⟨gi,0,none⟩) ins.length ci)∧w.cell? ⟨g,k*3+1,none⟩=some (.int .i64 (c.slots:Int))∧w.cell? ⟨g,k*3+2,none⟩=some (.slice GA gm gc)∧
 IRC w ins (.slice (some ⟨gi,0,none⟩) ins.length ci)∧ins.length≤20000∧NM w s pl (.slice GA gm gc)∧gm=pl.length∧pl.length=c.goals.length∧c.slots≤1000∧(∀ base,∃ f a2,buildI ins base f 1=some (shiftP base c.head,a2))∧∀ (j:Nat) (g:P),c.goals[j]? =some g→∃ p:Nat,pl[j]? =some p∧∀ base,∃ f a2,buildI ins base f p=some (shiftP base g,a2):=by
 obtain ⟨A,cc,hv,HA,hc,hg,hcs,hfg,f,h1,h2,h3⟩:=h
 have hlt:=lt_of_at hk
 obtain ⟨g,cs,fg,rfl,hh,hx⟩:=h3 (by omega)
 obtain ⟨v,⟨ins,cv,gv,pl,rfl,hi,h4,h5,h6,h7,h8,h9⟩,hv⟩:=hx k c hk
 obtain ⟨gi,ci,ics,fi,rfl,hi'⟩:=id hi
 obtain ⟨⟨GA,gc,rfl,hn⟩,hne⟩:=id h5
 have r:=fun (j:Nat) => cell_of_row w g j _ _ _ hh
 have e0:=hv 0 (by omega)
 have e1:=hv 1 (by omega)
 have e2:=hv 2 (by omega)
 rw [Nat.mul_comm] at e0 e1 e2
 exact ⟨g,cc,gi,ci,ins,GA,_,gc,pl,cell_of_row _ _ 0 _ _ _ h1,hlt,(r _).trans e0,(r _).trans e1,(r _).trans e2,hi,h4,h5,rfl,h6,h7,h8,h9⟩
mutual
theorem kn_mono {n m:Nat} (h:n≤m):∀ p:P,kn n p=true→kn m p=true
 | .v k,hk => by simp [kn] at hk ⊢;omega
 | .i _,_ => rfl
 | .a _,_ => rfl
 | .c _ l,hk => kns_mono h l hk
theorem kns_mono {n m:Nat} (h:n≤m):∀ l:List P,kns n l=true→kns m l=true
 | [],_ => rfl
 | p ::l,hk => by
  rw [kns,Bool.and_eq_true] at hk ⊢
  exact ⟨kn_mono h p hk.1,kns_mono h l hk.2⟩
end
theorem ST.few {B:Nat} {w:World} {sb n:Nat} {L:Bp} {M:List (Nat × Nat)} (h:ST B w sb n L M):L.length≤1000:=by
 obtain ⟨C,R,Hs,h1,h2,-⟩:=h.ex
 have hn:=h.hn
 obtain ⟨_,_,h3,_⟩:=h.ex
 have:=nodup_few 1000 ((Bt L).map Prod.fst) h2.ok.nd (fun x hx => by
  obtain ⟨p,hp,rfl⟩:=List.mem_map.1 hx
  have:=h2.ok.ok p hp
  exact ⟨this.1,this.2.1⟩)
 simpa [Bt] using this
def plO:Oc→Bool
 | .go _ => true
 | .fail _ => true
 | _ => false
def OcM (X:MX) (o:Oc) (e:Ending) (w':World):Prop:=match o with
 | .go S => e=.returned (.tuple #[])∧MSt X S w'
 | .fail S => e=.panicked [failP]∧MSt X S w'
 | _ => False
theorem KX.kt {X:MX} {S:Ms} {w w':World} (h:MSt X S w) (k:KX X w w'):KeepT X.sp w w':=fun b cs t f hb ht => by
 obtain ⟨fv,cv,hbx,-,-⟩:=h.box
 have hm:b≠X.mb:=fun e => by
  subst e
  rw [hbx] at hb
  injection hb with hb
  injection hb with _ hb
  subst hb
  rcases ht with h | h | h | h | h | ⟨h,_⟩ <;> exact absurd h (by decide)
 refine k.kd hb hm (fun e => ?_) (by rcases ht with rfl | rfl | rfl | rfl | rfl | ⟨rfl,_⟩ <;> rfl)
 subst e
 rw [h.steps] at hb
 injection hb with hb
 injection hb with _ hb
 subst hb
 rcases ht with h | h | h | h | h | ⟨_,h⟩
 ·exact absurd h (by decide)
 ·exact absurd h (by decide)
 ·exact absurd h (by decide)
 ·exact absurd h (by decide)
 ·exact absurd h (by decide)
 ·exact h rfl
theorem try_open {pr:List Cl0} {mark:Nat} {g:P} {bar:Nat} {S:Ms} {k:Nat} {rest:List Nat} {o:Oc} (h:tryF pr mark g bar S (k ::rest)=some o) (hp:plO o=true):∃ c,pr[k]? =some c∧S.n+c.slots≤1000∧okP S.n g=true∧okP (S.n+c.slots) (shiftP S.n c.head)=true∧∃ r,uniM S.L g (shiftP S.n c.head)=some r∧
 match r with
 | .many => False
 | .unlike => ∃ S',({S with n:=S.n+c.slots}:Ms).undo mark=some S'∧tryF pr mark g bar S' rest=some o
 | .ok L _ => o=.go {S with n:=S.n+c.slots,L:=L,fr:=goalsF (c.goals.map (shiftP S.n)) bar++S.fr,ch:=if rest=[] then S.ch else S.ch++[.more mark S.fr g rest bar]}:=by
 unfold tryF at h
 cases hc:pr[k]? with
 | none => rw [hc] at h;cases h
 | some c =>
  rw [hc] at h
  simp only at h
  split at h
  ·cases h
  rename_i hk
  simp at hk
  refine ⟨c,rfl,hk.1.1,hk.1.2,hk.2,?_⟩
  cases hu:uniM S.L g (shiftP S.n c.head) with
  | none => rw [hu] at h;cases h
  | some r =>
   rw [hu] at h
   refine ⟨r,rfl,?_⟩
   cases r with
   | many => injection h with h;subst h;cases hp
   | unlike =>
    simp only at h ⊢
    cases hx:({S with n:=S.n+c.slots}:Ms).undo mark with
    | none => rw [hx] at h;cases h
    | some S' => rw [hx] at h;exact ⟨S',rfl,h⟩
   | ok L f => injection h with h;exact h.symm
set_option maxRecDepth 100000 in
set_option maxHeartbeats 16000000 in
theorem try_any {X:MX} {S:Ms} {w:World} (h:MSt X S w) (hfa:∀ c ∈ X.pr,c.goals=[]) {gp:P} {gv:Value} (hg:TP w (fun _ => True) gp.t gv) (qg:gp.lq) {l:List Nat} {lv:Value} (hl:NM w X.sp l lv) {bar:Nat} {o:Oc} (ho:tryM X.pr S gp l bar=some o) (hp:plO o=true) (hM:S.M.length≤100000) (hC:S.ch.length≤100000) (hF:S.fr.length≤100000) (hL:l.length≤100000) :
 Calls Tryz.prog 81 #[mP X,gv,lv,.int .i64 (bar:Int)] w fun e w' => OcM X o e w'∧KX X w w':=by
 obtain ⟨k,n,s,GA,m,c,rfl⟩:=hg.agg
 obtain ⟨⟨A,lc,rfl,h1,h2,h3⟩,hne⟩:=id hl
 obtain ⟨fv,cv,hbx,hfl,hch⟩:=h.box
 have hlt:=h.lt
 have c10:w.cell? ⟨X.mb,10,none⟩=some (.pointer (some ⟨X.sb,0,none⟩)):=cell_of_row _ _ 10 _ _ _ hbx
 have H:=Lib.hid h
 have HG:=Lib.hid hg
 have HL:=Lib.hid hl
 have HO:=Lib.hid ho
 unfold mP
 obtain ⟨w0,hw0⟩:∃ w0,w0=w.alloc (Obj.cells #[.int .i64 k,.int .i64 n,.string s,.slice GA m c] 51):=⟨_,rfl⟩
 have B0:=Lib.hid (show Below w.heap.size w w0 by rw [hw0];exact belA (Below.refl _ _) _)
 have X0:=Lib.hid (show w0.heap[w.heap.size]? =some (Obj.cells #[.int .i64 k,.int .i64 n,.string s,.slice GA m c] 51 (0,0)) by rw [hw0];exact heap_alloc_new _ _)
 have H0:=Lib.hid (h.below B0.out)
 have c10':w0.cell? ⟨X.mb,10,none⟩=some (.pointer (some ⟨X.sb,0,none⟩)):=(World.cell?_of_block (a:=⟨X.mb,10,none⟩) (B0.out.block _ hlt.2.1)).trans c10
 clear h hg hl hbx hfl hch h3 ho
 go_enter Tryz.func81,Tryz.ntmps81
 go_wp2_with fail
 rw [← hw0]
 refine (st_mark H0.out.st (by omega)).mono ?_
 rintro e w1 ⟨rfl,s1,f1⟩
 have M1:=Lib.hid (show MSt X S.mark w1 from H0.out.store f1 s1)
 have K1:=Lib.hid (KX.sf f1)
 clear s1 f1 c10 c10'
 go_wp2_with fail
 go_loopw [30] (fun iv wr => ∃ (i:Nat) (Si:Ms),iv=.int .i64 (i:Int)∧i≤l.length∧Hid (MSt X Si wr)∧Hid (KX X w0 wr)∧Hid (tryF X.pr S.M.length gp bar Si (l.drop i)=some o)∧Hid (Si.fr=S.fr∧Si.ch=S.ch∧Si.M=S.mark.M)) (fun iv _ => ((l.length:Int) - intOf iv).toNat)
 case atStart => exact ⟨0,S.mark,rfl,by omega,M1,K1,Lib.hid HO.out,Lib.hid ⟨rfl,rfl,rfl⟩⟩
 case round =>
  obtain ⟨i,Si,rfl,hi,hm,hk,ht,hs⟩:=hrel
  have kt:=Lib.hid (hk.out.kt H0.out)
  by_cases hin:i < l.length
  ·have hin':(i:Int) < (l.length:Int):=by omega
   have hd:l.drop i=l[i] ::l.drop (i+1):=List.drop_eq_getElem_cons hin
   have ht':=ht.out
   rw [hd] at ht'
   obtain ⟨cl,hcl,hsl,hok1,hok2,r,hr,hrest⟩:=try_open ht' hp
   obtain ⟨⟨A',lc',e',_,_,hx⟩,hne'⟩:=(HL.out.keep (KeepT.of B0.out)).keep kt.out
   cases e'
   obtain ⟨gl,ol,lcs,lf,rfl,hgl,hlx⟩:=hx (by intro e;rw [e] at hin;cases hin)
   have d0:wr.cell? ⟨gl,ol+i,none⟩=some (.int .i64 ((l[i]:Nat):Int)):=by
    rw [cell_of_row _ _ (ol+i) _ _ _ hgl,hlx i hin,List.getD_eq_getElem?_getD,List.getElem?_eq_getElem hin];rfl
   obtain ⟨pg,pc,gi,ci,ins,PA,pm,pcc,pl,p0,hkl,p1,p2,p3,hir,hil,hnm,rfl,hpl,hsl',hbh,hbg⟩:=hm.out.pr.at_ hcl
   have hgo:cl.goals=[]:=hfa cl (List.mem_of_getElem? hcl)
   obtain rfl:pl=[]:=List.eq_nil_of_length_eq_zero (by rw [hpl,hgo];rfl)
   clear hpl hbg
   simp only [List.length_nil] at p3 hnm
   obtain ⟨fv,cv,hbx,hfl,hch⟩:=hm.out.box
   have m3:wr.cell? ⟨X.mb,3,none⟩=some (.pointer (some ⟨X.pb,0,none⟩)):=cell_of_row _ _ 3 _ _ _ hbx
   have hkl':((l[i]:Nat):Int) < (X.pr.length:Int):=by omega
   have Ba:=Lib.hid (show Below wr.heap.size wr (wr.alloc (Obj.cells #[.slice (some ⟨gi,0,none⟩) ins.length ci,.int .i64 (cl.slots:Int),.slice PA 0 pcc] 65)).drew from (belA (Below.refl _ _) _).drew)
   have Xa:=Lib.hid (show (wr.alloc (Obj.cells #[.slice (some ⟨gi,0,none⟩) ins.length ci,.int .i64 (cl.slots:Int),.slice PA 0 pcc] 65)).drew.heap[wr.heap.size]? =some (Obj.cells #[.slice (some ⟨gi,0,none⟩) ins.length ci,.int .i64 (cl.slots:Int),.slice PA 0 pcc] 65 (0,0)) from heap_alloc_new _ _)
   go_upto_region 6 with fail
   refine rg [(3,fun u => AC u X.mb 10 [.pointer (some ⟨X.sb,0,none⟩)]),(5,fun u => AC u wr.heap.size 1 [.int .i64 (cl.slots:Int)])] (hS:=⟨⟨cell_of_row _ _ 10 _ _ _ ((Ba.out.block _ (heap_lt hbx)).trans hbx),trivial⟩,⟨cell_of_row _ _ 1 _ _ _ Xa.out,trivial⟩,trivial⟩) (h:=fun hH => ?_)
   generalize (wr.alloc (Obj.cells #[.slice (some ⟨gi,0,none⟩) ins.length ci,.int .i64 (cl.slots:Int),.slice PA 0 pcc] 65)).drew=W6 at Ba Xa hH ⊢
   have M6:=Lib.hid (hm.out.below Ba.out)
   have K6:=Lib.hid (hk.out.on (Nat.le_trans hlt.1 B0.out.size) Ba.out)
   have I6:=Lib.hid (hir.below Ba.out)
   have N6:=Lib.hid (hnm.keep (KeepT.of Ba.out))
   clear hir hnm m3 p0 p1 p2 p3 d0 hx
   refine tp 0 (h:=tp 1 (h:=tp 2 (h:=tl 3 (h:=tp 4 (h:=tl 5 (h:=r1 6 [] (h:=fun K hK => ?_)))))))
   go_simp
   refine (st_fresh M6.out.st cl.slots hsl).mono ?_
   rintro e w7 ⟨rfl,s7,f7⟩
   have M7:=Lib.hid (M6.out.store f7 s7)
   have K7:=Lib.hid (KX.sf f7)
   refine hK.out _ _ trivial (fun _ => ?_)
   clear hK K s7 f7
   refine tp 7 (h:=dn (h:=?_))
   have hsz:w.heap.size < wr.heap.size:=by have:=heap_lt X0.out;have:=hk.out.low.size;omega
   have T6:=Lib.hid (KX.kt M6.out K7.out)
   have K7':=Lib.hid (K6.out.trans K7.out)
   have T7:=Lib.hid (K7'.out.kt H0.out)
   have X7:=K7.out.kd Xa.out (by omega) (by omega) rfl
   have I7:=Lib.hid (I6.out.keep fun b cs f hh => T6.out b cs _ f hh (.inr (.inr (.inl rfl))))
   have N7:=Lib.hid (N6.out.keep T6.out)
   have G7:=Lib.hid (T7.out _ _ _ _ X0.out (.inr (.inl rfl)))
   have P7:=Lib.hid (T7.out.tp (HG.out.below B0.out))
   obtain ⟨bf,ba2,hbf⟩:=hbh Si.n
   have BC:=Lib.hid (build_any hil (by omega) bf 1 _ ba2 hbf w7 _ I7.out)
   clear Xa hbf hbx hfl hch hgl hlx
   have q0:=cell_of_row _ _ 0 _ _ _ X7
   go_wp2_with fail
   refine BC.out.mono ?_
   rintro e w8 ⟨⟨x0,x1,x2,x3,rfl,t8⟩,b8⟩
   obtain ⟨y0,y1,y2,YA,ym,yc,e⟩:=t8.agg
   cases e
   have Ba:=Lib.hid (show Below w7.heap.size w7 (w8.alloc (Obj.cells #[.int .i64 y0,.int .i64 y1,.string y2,.slice YA ym yc] 51)).drew from (belA b8 _).drew)
   have Bb:=Lib.hid (show Below w8.heap.size w8 (w8.alloc (Obj.cells #[.int .i64 y0,.int .i64 y1,.string y2,.slice YA ym yc] 51)).drew from (belA (Below.refl _ _) _).drew)
   have Xa:=Lib.hid (show (w8.alloc (Obj.cells #[.int .i64 y0,.int .i64 y1,.string y2,.slice YA ym yc] 51)).drew.heap[w8.heap.size]? =some (Obj.cells #[.int .i64 y0,.int .i64 y1,.string y2,.slice YA ym yc] 51 (0,0)) from heap_alloc_new _ _)
   have ht8:=Lib.hid (t8.more fun _ _ => trivial)
   obtain ⟨fv7,cv7,hbx,-,-⟩:=M7.out.box
   clear b8 t8 BC q0
   go_upto_region 8 with fail
   refine rg [(3,fun u => AC u X.mb 10 [.pointer (some ⟨X.sb,0,none⟩)]),(4,fun u => AC u w.heap.size 0 [.int .i64 k,.int .i64 n,.string s,.slice GA m c]),(5,fun u => AC u w8.heap.size 0 [.int .i64 y0,.int .i64 y1,.string y2,.slice YA ym yc])]
    (hS:=⟨⟨cell_of_row _ _ 10 _ _ _ ((Ba.out.block _ (heap_lt hbx)).trans hbx),trivial⟩,ac_of ((Ba.out.block _ (heap_lt G7.out)).trans G7.out),ac_of Xa.out,trivial⟩) (h:=fun hH => ?_)
   generalize (w8.alloc (Obj.cells #[.int .i64 y0,.int .i64 y1,.string y2,.slice YA ym yc] 51)).drew=W9 at Ba Bb Xa hH ⊢
   have M9:=Lib.hid (M7.out.below Ba.out)
   have P9:=Lib.hid (P7.out.below Ba.out)
   have Y9:=Lib.hid (ht8.out.below Bb.out)
   obtain ⟨ko1,ko2⟩:kn (Si.n+cl.slots) gp=true∧gp.size≤1000:=by
    simp [okP] at hok1
    exact ⟨kn_mono (by omega) _ hok1.1,hok1.2⟩
   obtain ⟨ko3,ko4⟩:kn (Si.n+cl.slots) (shiftP Si.n cl.head)=true∧(shiftP Si.n cl.head).size≤1000:=by
    simpa [okP] using hok2
   have hqh:(shiftP Si.n cl.head).lq:=map_lq _ _ (H.out.clq cl (List.mem_of_getElem? hcl)).1
   have UN:=Lib.hid (st_unify M9.out.st P9.out Y9.out qg hqh ko1 ko3 ko2 ko4 hr)
   refine tp 0 (h:=tp 1 (h:=tp 2 (h:=tl 3 (h:=tl 4 (h:=tl 5 (h:=r1 6 [] (h:=fun K hK => ?_)))))))
   go_simp
   refine UN.out.mono ?_
   have HS:=Lib.hid hs.out
   have T9:=Lib.hid (K7'.out.on (Nat.le_trans hlt.1 B0.out.size) Ba.out)
   clear UN hbx
   cases r with
   | many => exact hrest.elim
   | unlike =>
    rintro e w10 ⟨⟨rfl,s10⟩,f10⟩
    have M10:=Lib.hid (M9.out.store f10 s10)
    have K10:=Lib.hid (T9.out.trans (KX.sf f10))
    obtain ⟨S',hu,hrec⟩:=hrest
    refine hK.out _ _ trivial (fun _ => ?_)
    clear hK K s10 f10
    refine tp 7 (h:=tp 8 (h:=tp 9 (h:=tp 10 (h:=tp 11 (h:=dn (h:=?_))))))
    obtain ⟨fv8,cv8,hbx,-,-⟩:=M10.out.box
    have m10:w10.cell? ⟨X.mb,10,none⟩=some (.pointer (some ⟨X.sb,0,none⟩)):=cell_of_row _ _ 10 _ _ _ hbx
    have hMi:Si.M[S.M.length]? =some (S.L.length,S.n):=by rw [HS.out.2.2];simp [Ms.mark]
    clear hbx
    go_wp2_with fail
    refine (st_undo M10.out.st (by rw [HS.out.2.2];simp [Ms.mark];omega) hMi).mono ?_
    rintro e w11 ⟨rfl,s11,f11⟩
    have hS':S'= {Si with n:=S.n,L:=Si.L.take S.L.length,M:=Si.M.take (S.M.length+1)}:=by
     unfold Ms.undo at hu
     simp only [hMi] at hu
     injection hu with hu
     exact hu.symm
    have M11:=Lib.hid (show MSt X S' w11 by rw [hS'];exact M10.out.store f11 s11)
    have K11:=Lib.hid (K10.out.trans (KX.sf f11))
    have HS':=Lib.hid (show S'.fr=S.fr∧S'.ch=S.ch∧S'.M=S.mark.M by
     rw [hS']
     exact ⟨HS.out.1,HS.out.2.1,by rw [HS.out.2.2];exact List.take_of_length_le (by simp [Ms.mark])⟩)
    clear s11 f11 hS' hu m10
    go_wp2_with fail
    go_roundw
    case rel => exact ⟨i+1,S',by first | rfl | go_num,by omega,M11,K11,Lib.hid hrec,HS'⟩
    case measure => simp [intOf];omega
   | ok L' f' =>
    rintro e w10 ⟨⟨uv,N,hN,rfl,iu,s10⟩,f10⟩
    obtain ⟨UA,uc,rfl,_,_,_⟩:=iu.open_
    have M10:=Lib.hid (M9.out.store f10 s10)
    have K10:=Lib.hid (T9.out.trans (KX.sf f10))
    have KL:=Lib.hid (KX.trans (KX.of M7.out.lt.1 Ba.out) (KX.sf f10))
    have U10:=Lib.hid iu
    refine hK.out _ _ trivial (fun _ => ?_)
    clear hK K s10 f10 iu
    refine tp 7 (h:=tp 8 (h:=tp 9 (h:=tp 10 (h:=tp 11 (h:=dn (h:=?_))))))
    have hw1:IntKind.i64.wrap ((i:Int)+1)=(i:Int)+1:=Go.IntWalk.i64_in _ ⟨by omega,by omega⟩
    generalize hul:(N.map fun x => (x.1:Int)).length=ul at*
    go_upto_region 13 with fail
    go_cut [84] (fun u84 wx => u84=.bool (decide (((i:Int)+1) < (l.length:Int)))∧wx=w10)
    case first =>
     go_wp2_with fail
     go_meet
     exact ⟨rfl,rfl⟩
    case rest =>
     obtain ⟨rfl,rfl⟩:=hcut
     apply_assumption
     obtain ⟨W10,hW10⟩:∃ W,W=wc:=⟨_,rfl⟩
     subst hW10
     go_cut [] (fun wx => Hid (MSt X {Si with n:=Si.n+cl.slots,L:=L',ch:=if l.drop (i+1)=[] then Si.ch else Si.ch++[.more S.M.length Si.fr gp (l.drop (i+1)) bar]} wx)∧Hid (KX X.m W10 wx))
     case first =>
      by_cases hlast:i+1 < l.length
      ·have hdec:decide (((i:Int)+1) < (l.length:Int))=true:=by simp;omega
       rw [hdec]
       obtain ⟨fv9,cv9,hbx,hfl9,hch9⟩:=M10.out.box
       have Bd:=Lib.hid (show Below W10.heap.size W10 W10.drew from (Below.refl _ _).drew)
       have GX:=Lib.hid ((K10.out.kt H0.out) _ _ _ _ X0.out (.inr (.inl rfl)))
       go_upto_region 14 with fail
       refine rg [(3,fun u => AC u X.mb 0 [fv9,.slice none 0 0,.slice none 0 0]),(5,fun u => AC u w.heap.size 0 [.int .i64 k,.int .i64 n,.string s,.slice GA m c])] (hS:=⟨⟨cell_of_row _ _ 0 _ _ _ hbx,cell_of_row _ _ 1 _ _ _ hbx,cell_of_row _ _ 2 _ _ _ hbx,trivial⟩,ac_of GX.out,trivial⟩) (h:=fun hH => ?_)
       generalize W10.drew=Wd at Bd hH ⊢
       obtain ⟨fva,rfl⟩:=hfl9.ptr
       have hb1:0≤(i:Int)+1∧(i:Int)+1≤(l.length:Int):=⟨by omega,by omega⟩
       have hb2:¬ lc=i+1:=by omega
       refine tp 0 (h:=tp 1 (h:=tp 2 (h:=tl 3 (h:=tp 4 (h:=tl 5 (h:=tp 6 (h:=tp 7 (h:=tp 8 (h:=tp 9 (h:=tp 10 (h:=tp 11 (h:=r1 12 [3,5] (h:=fun K hK => ?_)))))))))))))
       go_simp
       refine hK.out _ _ ⟨⟨(World.cell?_of_block (a:=⟨X.mb,0,none⟩) (Below.heap_alloc _ _ _ (Nat.lt_of_lt_of_le M10.out.lt.2.1 Bd.out.size))).trans hH.1.1,(World.cell?_of_block (a:=⟨X.mb,1,none⟩) (Below.heap_alloc _ _ _ (Nat.lt_of_lt_of_le M10.out.lt.2.1 Bd.out.size))).trans hH.1.2.1,(World.cell?_of_block (a:=⟨X.mb,2,none⟩) (Below.heap_alloc _ _ _ (Nat.lt_of_lt_of_le M10.out.lt.2.1 Bd.out.size))).trans hH.1.2.2.1,trivial⟩,ac_of ((Below.heap_alloc _ _ _ (Nat.lt_of_lt_of_le (heap_lt GX.out) Bd.out.size)).trans ((Bd.out.block _ (heap_lt GX.out)).trans GX.out)),trivial⟩ (fun hH2 => ?_)
       clear hK K
       refine r1 13 [] (h:=fun K hK => ?_)
       refine step_store_new Wd rfl (.tmp 17) (.tmp 96) 169 rfl #[.pointer none,.slice none 0 0,.slice none 0 0,.int .i64 0,.int .i64 0,.int .i64 0,.int .i64 0,.string ⟨#[]⟩,.slice none 0 0,.int .i64 0,.int .i64 0,.string ⟨#[]⟩,.slice none 0 0,.int .i64 0,.int .i64 0,.string ⟨#[]⟩,.slice none 0 0,.slice none 0 0,.int .i64 0] #[.pointer fva,.slice none 0 0,.slice none 0 0,.int .i64 (S.M.length:Int),.int .i64 0,.int .i64 0,.int .i64 0,.string ⟨#[]⟩,.slice none 0 0,.int .i64 0,.int .i64 0,.string ⟨#[]⟩,.slice none 0 0,.int .i64 k,.int .i64 n,.string s,.slice GA m c,.slice (some ⟨gl,ol+(i+1),none⟩) (l.length - (i+1)) (lc - (i+1)),.int .i64 (bar:Int)] rfl rfl (by kernel_rfl) rfl (by simp [Value.oneCell']) rfl ?_
       refine hK.out _ _ trivial (fun hH3 => ?_)
       clear hK K
       refine dn (h:=?_)
       obtain ⟨css,hcl1,hcow,hcc⟩:=id hch9
       obtain ⟨CA,cca,rfl,_,_,_,_⟩:=own_open hcow
       have Be:=Lib.hid (show Below W10.heap.size W10 (Wd.alloc (Obj.cells #[.pointer fva,.slice none 0 0,.slice none 0 0,.int .i64 (S.M.length:Int),.int .i64 0,.int .i64 0,.int .i64 0,.string ⟨#[]⟩,.slice none 0 0,.int .i64 0,.int .i64 0,.string ⟨#[]⟩,.slice none 0 0,.int .i64 k,.int .i64 n,.string s,.slice GA m c,.slice (some ⟨gl,ol+(i+1),none⟩) (l.length - (i+1)) (lc - (i+1)),.int .i64 (bar:Int)] 169)).drew from (belA Bd.out _).drew)
       have Xe:=Lib.hid (show (Wd.alloc (Obj.cells #[.pointer fva,.slice none 0 0,.slice none 0 0,.int .i64 (S.M.length:Int),.int .i64 0,.int .i64 0,.int .i64 0,.string ⟨#[]⟩,.slice none 0 0,.int .i64 0,.int .i64 0,.string ⟨#[]⟩,.slice none 0 0,.int .i64 k,.int .i64 n,.string s,.slice GA m c,.slice (some ⟨gl,ol+(i+1),none⟩) (l.length - (i+1)) (lc - (i+1)),.int .i64 (bar:Int)] 169)).drew.heap[Wd.heap.size]? =some (Obj.cells #[.pointer fva,.slice none 0 0,.slice none 0 0,.int .i64 (S.M.length:Int),.int .i64 0,.int .i64 0,.int .i64 0,.string ⟨#[]⟩,.slice none 0 0,.int .i64 0,.int .i64 0,.string ⟨#[]⟩,.slice none 0 0,.int .i64 k,.int .i64 n,.string s,.slice GA m c,.slice (some ⟨gl,ol+(i+1),none⟩) (l.length - (i+1)) (lc - (i+1)),.int .i64 (bar:Int)] 169 (0,0)) from heap_alloc_new _ _)
       clear hH hH2 hH3
       go_upto_region 15 with fail
       refine rg [(4,fun u => AC u X.mb 11 [.slice CA Si.ch.length cca]),(5,fun u => AC u Wd.heap.size 0 [.pointer fva,.slice none 0 0,.slice none 0 0,.int .i64 (S.M.length:Int),.int .i64 0,.int .i64 0,.int .i64 0,.string ⟨#[]⟩,.slice none 0 0,.int .i64 0,.int .i64 0,.string ⟨#[]⟩,.slice none 0 0,.int .i64 k,.int .i64 n,.string s,.slice GA m c,.slice (some ⟨gl,ol+(i+1),none⟩) (l.length - (i+1)) (lc - (i+1)),.int .i64 (bar:Int)])] (hS:=⟨⟨cell_of_row _ _ 11 _ _ _ ((Be.out.block _ (heap_lt hbx)).trans hbx),trivial⟩,ac_of Xe.out,trivial⟩) (h:=fun hH => ?_)
       generalize (Wd.alloc (Obj.cells #[.pointer fva,.slice none 0 0,.slice none 0 0,.int .i64 (S.M.length:Int),.int .i64 0,.int .i64 0,.int .i64 0,.string ⟨#[]⟩,.slice none 0 0,.int .i64 0,.int .i64 0,.string ⟨#[]⟩,.slice none 0 0,.int .i64 k,.int .i64 n,.string s,.slice GA m c,.slice (some ⟨gl,ol+(i+1),none⟩) (l.length - (i+1)) (lc - (i+1)),.int .i64 (bar:Int)] 169)).drew=We at Be Xe hH ⊢
       refine tp 0 (h:=tp 1 (h:=tp 2 (h:=tp 3 (h:=tl 4 (h:=tl 5 (hy:=fun u hF => load_whole (l:=[.pointer fva,.slice none 0 0,.slice none 0 0,.int .i64 (S.M.length:Int),.int .i64 0,.int .i64 0,.int .i64 0,.string ⟨#[]⟩,.slice none 0 0,.int .i64 0,.int .i64 0,.string ⟨#[]⟩,.slice none 0 0,.int .i64 k,.int .i64 n,.string s,.slice GA m c,.slice (some ⟨gl,ol+(i+1),none⟩) (l.length - (i+1)) (lc - (i+1)),.int .i64 (bar:Int)]) rfl rfl hF (by kernel_rfl) (by rfl)) (h:=r1 6 [4] (h:=fun K hK => ?_)))))))
       refine step_slice_one We rfl (.tmp 102) 80 169 rfl #[.pointer fva,.slice none 0 0,.slice none 0 0,.int .i64 (S.M.length:Int),.int .i64 0,.int .i64 0,.int .i64 0,.string ⟨#[]⟩,.slice none 0 0,.int .i64 0,.int .i64 0,.string ⟨#[]⟩,.slice none 0 0,.int .i64 k,.int .i64 n,.string s,.slice GA m c,.slice (some ⟨gl,ol+(i+1),none⟩) (l.length - (i+1)) (lc - (i+1)),.int .i64 (bar:Int)] Tryz.underlying80 (by kernel_rfl) ?_
       have hmw:X.mb < We.heap.size:=Nat.lt_of_lt_of_le M10.out.lt.2.1 Be.out.size
       have hchl:Si.ch.length≤100000:=by rw [HS.out.2.1];exact hC
       refine hK.out _ _ ⟨⟨(World.cell?_of_block (a:=⟨X.mb,11,none⟩) (Below.heap_alloc _ _ _ hmw)).trans hH.1.1,trivial⟩,trivial⟩ (fun hH2 => ?_)
       clear hK K
       obtain ⟨chi,ci1,ci2,ci3,ci4⟩:=elCh.hi
       refine r1 7 [] (h:=fun K hK => ?_)
       refine step_append_lies _ rfl _ _ _ rfl X.B 169 chi (.agg #[.pointer none,.slice none 0 0,.slice none 0 0,.int .i64 0,.int .i64 0,.int .i64 0,.int .i64 0,.string ⟨#[]⟩,.slice none 0 0,.int .i64 0,.int .i64 0,.string ⟨#[]⟩,.slice none 0 0,.int .i64 0,.int .i64 0,.string ⟨#[]⟩,.slice none 0 0,.slice none 0 0,.int .i64 0]) 19 272 Tryz.underlying80 ci1 ci2 ci3 ci4 rfl (by omega) _ Si.ch.length css.flatten rfl (own_below hcow (Be.out.alloc Be.out.size _)) ⟨We.heap.size,0,none⟩ 1 1 [.pointer fva,.slice none 0 0,.slice none 0 0,.int .i64 (S.M.length:Int),.int .i64 0,.int .i64 0,.int .i64 0,.string ⟨#[]⟩,.slice none 0 0,.int .i64 0,.int .i64 0,.string ⟨#[]⟩,.slice none 0 0,.int .i64 k,.int .i64 n,.string s,.slice GA m c,.slice (some ⟨gl,ol+(i+1),none⟩) (l.length - (i+1)) (lc - (i+1)),.int .i64 (bar:Int)] rfl rfl (World.news_of_block (heap_alloc_new _ _)) ?sm (by omega) (by unfold maxLen;omega) (by omega) (by have:=M10.out.lt.1;have:=Be.out.size;simp;omega) _ rfl ?_
       case sm => (intro u hu;simp at hu;rcases hu with rfl | rfl | rfl | rfl | rfl | rfl | rfl | rfl | rfl | rfl | rfl | rfl | rfl | rfl | rfl | rfl | rfl | rfl | rfl <;> rfl)
       intro g9 cap9 w9 hown9 hg9 hat9 hlt9
       have KTC:=Lib.hid (K10.out.kt H0.out)
       have hdn:l.drop (i+1)≠[]:=fun e => by have:=congrArg List.length e;simp at this;omega
       have hcnew:ChM W10 X.sp (.more S.M.length Si.fr gp (l.drop (i+1)) bar) _:=⟨_,_,_,hfl9,⟨_,_,_,_,rfl,KTC.out.tp (HG.out.below B0.out)⟩,hdn,((HL.out.keep (KeepT.of B0.out)).keep KTC.out).drop hlast,rfl⟩
       have PU:=Lib.hid (M10.out.push (Be.out.trans (belA (Below.refl We.heap.size We) _ |>.mono Be.out.size)) hbx hfl9 hcl1 hcow hcc hcnew (fun c' hc' => by rw [List.mem_singleton.1 hc'];exact ⟨M10.out.frq,qg,by simp;omega⟩) hown9 hg9)
       have hbz:=PU.out.2.2
       have f9:w9.frozen? ⟨X.mb,11,none⟩=false:=by simp [World.frozen?,hbz]
       have z9:w9.cell? ⟨X.mb,11,none⟩=some (.slice CA Si.ch.length cca):=cell_of_row _ _ 11 _ _ _ hbz
       refine hK.out _ _ trivial (fun _ => ?_)
       clear hK K
       refine tp 8 (h:=tp 9 (h:=r1 10 [] (h:=fun K hK => ?_)))
       go_simp
       refine hK.out _ _ trivial (fun _ => ?_)
       clear hK K
       refine dn (h:=?_)
       go_wp2_with fail
       go_meet
       refine ⟨Lib.hid ?_,Lib.hid PU.out.2.1⟩
       rw [if_neg hdn]
       exact PU.out.1
      ·have hdec:decide (((i:Int)+1) < (l.length:Int))=false:=by simp;omega
       rw [hdec]
       have hdn:l.drop (i+1)=[]:=List.drop_of_length_le (by omega)
       go_wp2_with fail
       go_meet
       refine ⟨Lib.hid ?_,Lib.hid (KX.refl _ _)⟩
       rw [if_pos hdn]
       exact M10.out
     case rest =>
      obtain ⟨m8,k8⟩:=hcut
      apply_assumption
      have hwr:=hk.out.low.size
      have hlt1:=hlt.1
      have hlt2:=hlt.2.1
      have hlt3:=hlt.2.2.1
      have hB0s:=B0.out.size
      have X10:=KL.out.kd X7 (by omega) (by omega) rfl
      have X8:=k8.out.kd X10 (show wr.heap.size≠X.mb by omega) (show wr.heap.size≠X.mb by omega) rfl
      have g2:=cell_of_row _ _ 2 _ _ _ X8
      have hUV:∀ g,(Value.slice UA ul uc).ownBlock=some g→g≠X.mb:=fun g hg e => by
       subst e
       obtain ⟨cs,f,hh⟩:=Go.Lib.ownsRow_kind U10.out _ hg
       obtain ⟨fv9,cv9,hbx9,-,-⟩:=M10.out.box
       rw [hbx9] at hh
       injection hh with hh
       injection hh with _ hh
       exact absurd hh (by decide)
      have U8:=Lib.hid (IRow.kx U10.out k8.out fun g hg => ⟨hUV g hg,hUV g hg⟩)
      have UV:=Lib.hid hUV
      have hNf:=M10.out.st.few
      obtain ⟨fv8,cv8,hbx8,hfl8,-⟩:=m8.out.box
      obtain ⟨fa8,rfl⟩:=hfl8.ptr
      have c0:wc.cell? ⟨X.mb,0,none⟩=some (.pointer fa8):=cell_of_row _ _ 0 _ _ _ hbx8
      have hFS:Si.fr.length≤100000:=by rw [HS.out.1];exact hF
      have F8:=Lib.hid (show FL wc Si.fr (.pointer fa8) from hfl8)
      have HBX:=Lib.hid hbx8
      have hmw:=heap_lt hbx8
      clear X10 X8 hbx8 hfl8 hUV X7
      go_wp2_with fail
      go_loopw [18,110] (fun u18 iv w2 => u18=.slice none 0 0∧iv=.int .i64 0∧w2=wc) (fun _ _ _ => 0)
      case atStart => exact ⟨rfl,rfl,rfl⟩
      case round =>
       obtain ⟨rfl,rfl,rfl⟩:=hrel
       have hnil:FrR wr [] (.slice none 0 0):=⟨none,0,rfl,Nat.le_refl _,fun _ => rfl,fun h => absurd h (by simp)⟩
       go_wp2_with fail
       refine (mahead_any (l:=[]) (by simp) (by omega) hnil F8.out).mono ?_
       rintro e w1 ⟨⟨lv,rfl,hf1⟩,hb1⟩
       obtain ⟨a1,rfl⟩:=hf1.ptr
       have hm1:=m8.out.below hb1
       obtain ⟨n1,n2⟩:=hm1.setFr hf1 hm1.frq
       have XB1:=(hb1.block _ hmw).trans HBX.out
       have N1:=Lib.hid n1
       have N2:=Lib.hid ((KX.of (X:=X.m) m8.out.lt.1 hb1).trans n2)
       have U9:=Lib.hid (IRow.kx (U8.out.below hb1) n2 fun g hg => ⟨UV.out g hg,UV.out g hg⟩)
       have f1:w1.frozen? ⟨X.mb,0,none⟩=false:=by simp [World.frozen?,XB1]
       have c1:w1.cell? ⟨X.mb,0,none⟩=some (.pointer fa8):=cell_of_row _ _ 0 _ _ _ XB1
       clear hb1 hf1 n1 n2 hm1 XB1
       have hulN:ul=N.length:=by rw [← hul];simp
       have S9:=Lib.hid (show IRow (w1.setCell ⟨X.mb,0,none⟩ (.pointer a1)) (.slice UA N.length uc) ((N.map (·.1)).map fun (n:Nat) => (n:Int)) from by
        have h:=U9.out
        rw [hulN] at h
        simpa [Function.comp_def] using h)
       have V9:=Lib.hid (show ∀ g,(Value.slice UA N.length uc).ownBlock=some g→g≠X.mb from by rw [← hulN];exact UV.out)
       have hNl:(N.map (·.1)).length≤100000:=by rw [hN,List.length_append] at hNf;simp;omega
       have hoo:=Lib.hid hrest
       clear hul hulN hrest hN
       go_wp2_with fail
       refine (settle_any N1.out S9.out V9.out hNl (by show (_++Si.fr).length≤_;simp;omega)).mono ?_
       rintro e w5 ⟨rfl,m5,k5⟩
       have M5:=Lib.hid m5
       have K5:=Lib.hid (N2.out.trans k5)
       clear m5 k5
       go_wp2_with fail
       refine bodyPost_ret (results_none rfl _ _ _) rfl ?_
       refine ⟨?_,(KX.of hlt.1 B0.out).trans (K10.out.trans (k8.out.trans K5.out).wk)⟩
       rw [hoo.out]
       refine ⟨rfl,?_⟩
       rw [hgo]
       exact M5.out
  ·have hin':¬ (i:Int) < (l.length:Int):=by omega
   have hi0:l.drop i=[]:=List.drop_of_length_le (by omega)
   have ht':=ht.out
   rw [hi0] at ht'
   injection ht' with ht'
   go_wp2_with fail
   refine (mfail_any _).mono ?_
   rintro e w2 ⟨rfl,rfl⟩
   go_wp2_with fail
   refine ⟨rfl,?_,(KX.of hlt.1 B0.out).trans hk.out⟩
   rw [← ht']
   exact ⟨rfl,hm.out⟩
end Go.Proofs.YtdgpmpccfjmmcaaGreatDoor
