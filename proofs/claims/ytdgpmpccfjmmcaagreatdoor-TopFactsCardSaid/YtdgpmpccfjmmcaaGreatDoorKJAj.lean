/- The program's store:back,Undo. The program's store:change;Attr;Set. The program's store:Attr,Set;Undo where there is no such mark. Terms' blocks through a call that leaves them alone. The reference's bindings in memory;the walks through coneyref08.find,coneyref08.walk. The walk through coneyref08.walk. The reference's reach:plain laws of the sets of variables that it gathers. The walk through coneyref08.reach. -/
import Derived.Test.YtdgpmpccfjmmcaaGreatDoorKJAi
import Derived.Deep.DeepCutAuto
import Derived.Test.YtdgpmpccfjmmcaaGreatDoorKJAg
import Derived.Deep.QuietTactic
import Derived.BigQuiet
set_option linter.unusedVariables false
set_option linter.unusedSimpArgs false
namespace Go.Proofs.YtdgpmpccfjmmcaaGreatDoor
open Go.RowKit
theorem flat_at {α:Type} (f:α→List Value) {s:Nat} (hf:∀ x,(f x).length=s):∀ (l:List α) (i:Nat) (x:α),l[i]? =some x→∀ j,j < s→(l.flatMap f)[i*s+j]? =(f x)[j]?
 | [],i,x,h,_,_ => by simp at h
 | y ::l,0,x,h,j,hj => by
  simp at h
  subst h
  rw [List.flatMap_cons,Nat.zero_mul,Nat.zero_add,List.getElem?_append_left (by rw [hf];exact hj)]
 | y ::l,i+1,x,h,j,hj => by
  rw [List.flatMap_cons,List.getElem?_append_right (by rw [hf,Nat.succ_mul];omega),hf,show (i+1)*s+j - s=i*s+j by rw [Nat.succ_mul];omega]
  exact flat_at f hf l i x (by simpa using h) j hj
theorem flat_len {α:Type} (f:α→List Value) {s:Nat} (hf:∀ x,(f x).length=s) (l:List α):(l.flatMap f).length=l.length*s:=by
 induction l with
 | nil => simp
 | cons x l ih => rw [List.flatMap_cons,List.length_append,hf,ih,List.length_cons,Nat.succ_mul];omega
theorem flat_set {α:Type} (f:α→List Value) {s:Nat} (hf:∀ x,(f x).length=s):∀ (l:List α) (i:Nat) (x:α),i < l.length→(l.set i x).flatMap f=(l.flatMap f).take (i*s)++f x++(l.flatMap f).drop (i*s+(f x).length)
 | [],i,x,h => by simp at h
 | y ::l,0,x,h => by
  rw [List.set_cons_zero,List.flatMap_cons,List.flatMap_cons,Nat.zero_mul,List.take_zero,Nat.zero_add,hf x,List.drop_left' (hf y)]
  rfl
 | y ::l,i+1,x,h => by
  have ih:=flat_set f hf l i x (by simpa using h)
  rw [List.set_cons_succ,List.flatMap_cons,ih,List.flatMap_cons,List.take_append,List.drop_append,hf y,hf x,show (i+1)*s - s=i*s by rw [Nat.succ_mul];omega,show (i+1)*s+s - s=i*s+s by rw [Nat.succ_mul];omega,
   List.take_of_length_le (l:=f y) (by rw [hf,Nat.succ_mul];omega),List.drop_of_length_le (l:=f y) (by rw [hf,Nat.succ_mul];omega)]
  simp
theorem cvals_len (c:CV):c.vals.length=9:=rfl
theorem evals_len (c:CV × Nat):(evals c).length=10:=rfl
theorem mvals_len (c:Nat × Nat):(mvals c).length=2:=rfl
theorem own_elem {α:Type} {f:α→List Value} {s:Nat} (hf:∀ x,(f x).length=s) {w:World} {B:Nat} {e:TypeId} {A:Option Addr} {n c:Nat} {l:List α} (h:w.ownsRow B e s (.slice A n c) n (l.flatMap f)) {i:Nat} {x:α} (hi:l[i]? =some x) (hn:n=l.length) :
 ∃ g,A=some ⟨g,0,none⟩∧B≤g∧(∃ cs,w.heap[g]? =some (.cells cs e (0,0))∧c*s=cs.size)∧n≤c∧∀ j u,(f x)[j]? =some u→w.cell? ⟨g,i*s+j,none⟩=some u:=by
 have hlt:i < l.length:=by
  rcases Nat.lt_or_ge i l.length with h1 | h1
  ·exact h1
  ·rw [List.getElem?_eq_none h1] at hi;cases hi
 rcases h.2 with ⟨_,h0⟩ | ⟨g,cap,cur,hv,hg,hh,hnc,_,hs,ht⟩
 ·omega
 ·injection hv with e1 _ e3
  subst e1;subst e3
  refine ⟨g,rfl,hg,⟨cur,hh,hs.symm⟩,hnc,fun j u hu => ?_⟩
  have hj:j < s:=by
   rcases Nat.lt_or_ge j (f x).length with h1 | h1
   ·rw [hf] at h1;exact h1
   ·rw [List.getElem?_eq_none h1] at hu;cases hu
  have h2:=flat_at f hf l i x hi j hj
  rw [hu,← ht,List.getElem?_take] at h2
  split at h2
  ·rw [cell_of_row w g _ _ _ _ hh,← Array.getElem?_toList]
   exact h2
  ·cases h2
theorem SF.setBox {B sb:Nat} {w w':World} (h:SF B w w') {cs:Array Value} {f:Nat × Nat} (hb:w'.heap[sb]? =some (.cells cs 121 f)) (hge:B≤sb) (j:Nat) (v:Value):SF B w (w'.setCell ⟨sb,j,none⟩ v):=
 ⟨h.low.setCell (p:=⟨sb,j,none⟩) hge v,fun k o hk hn => by
  have hk2:=h.far k o hk hn
  refine (Below.heap_setCell _ _ _ k ?_).trans hk2
  rintro rfl
  rw [show w'.heap[_]? =_ from hb] at hk2
  injection hk2 with hk2
  exact (hn _ _ _ hk2.symm).1 rfl⟩
theorem setCells_low {B:Nat} {w:World} {g:Nat} (hg:B≤g):∀ (us:List Value) (o:Nat) (w':World),Below B w w'→Below B w (w'.setCells g o us)
 | [],_,_,h => h
 | u ::us,o,_,h => setCells_low hg us (o+1) _ (h.setCell (p:=⟨g,o,none⟩) hg u)
theorem SF.setCells {B g:Nat} {w w':World} (h:SF B w w') {cs:Array Value} {f:Nat × Nat} (hb:w'.heap[g]? =some (.cells cs 220 f)) (hge:B≤g) (o:Nat) (us:List Value):SF B w (w'.setCells g o us):=
 ⟨setCells_low hge us o w' h.low,fun k o' hk hn => by
  have hk2:=h.far k o' hk hn
  refine (setCells_other ?_ _ _ _).trans hk2
  rintro rfl
  rw [hb] at hk2
  injection hk2 with hk2
  exact (hn _ _ _ hk2.symm).2.1 rfl⟩
def KM (w w':World):Prop:=∀ (k:Nat) (cs:Array Value) (f:Nat × Nat),w.heap[k]? =some (.cells cs 276 f)→w'.heap[k]? =some (.cells cs 276 f)
theorem KM.trans {a b c:World} (h:KM a b) (k:KM b c):KM a c:=fun g cs f h1 => k g cs f (h g cs f h1)
theorem KM.below {w w':World} (h:Below w.heap.size w w'):KM w w':=fun k _ _ h1 => (h.block k (heap_lt h1)).trans h1
theorem SM.undone {w w1 W:World} {B sb:Nat} {C:List CV} {R:List (CV × Nat)} {M:List (Nat × Nat)} {e:CV × Nat} {A1 A2:Option Addr} {c0 c1 c2 g:Nat}
 (hb:w.heap[sb]? =some (.cells #[.slice (some ⟨g,0,none⟩) C.length c0,.slice A1 (R.length+1) c1,.slice A2 M.length c2] 121 (0,0)))
 (h0:w.ownsRow B 220 9 (.slice (some ⟨g,0,none⟩) C.length c0) C.length (C.flatMap CV.vals)) (h1:w.ownsRow B 222 10 (.slice A1 (R.length+1) c1) (R.length+1) ((R++[e]).flatMap evals)) (h2:w.ownsRow B 276 2 (.slice A2 M.length c2) M.length (M.flatMap mvals))
 (hge:B≤sb) (he:e.2 < C.length) (hB:Below w.heap.size w w1) (hW:W=(w1.setCell ⟨sb,1,none⟩ (.slice A1 R.length c1)).setCells g (e.2*9) e.1.vals):SM W B sb (C.set e.2 e.1) R M∧SF B w W∧KM w W:=by
 have hbs:B≤w.heap.size:=by have:=heap_lt hb;omega
 have b1:=(hB.block _ (heap_lt hb)).trans hb
 obtain ⟨w2,hw2⟩:∃ w2,w2=w1.setCell ⟨sb,1,none⟩ (.slice A1 R.length c1):=⟨_,rfl⟩
 have b2:w2.heap[sb]? =some (.cells #[.slice (some ⟨g,0,none⟩) C.length c0,.slice A1 R.length c1,.slice A2 M.length c2] 121 (0,0)):=by rw [hw2];simpa using blk_set b1 1 (.slice A1 R.length c1)
 rw [← hw2] at hW
 have keep2:∀ (k:Nat) (cs:Array Value) (ty:TypeId) (f:Nat × Nat),w1.heap[k]? =some (.cells cs ty f)→ty≠121→w2.heap[k]? =some (.cells cs ty f):=fun k cs ty f hk hne => by
  rw [hw2]
  refine (Below.heap_setCell _ _ _ k ?_).trans hk
  rintro rfl
  rw [show w1.heap[_]? =_ from b1] at hk
  injection hk with hk
  injection hk with _ hk
  exact hne hk.symm
 have row2:∀ {t:TypeId} {s n:Nat} {v:Value} {xs:List Value},w.ownsRow B t s v n xs→t≠121→w2.ownsRow B t s v n xs:=fun h hne => by
  refine own_keep (own_below h hB) fun k hk => ?_
  obtain ⟨cs,f,hh⟩:=Go.Lib.ownsRow_kind (own_below h hB) k hk
  exact (keep2 _ _ _ _ hh hne).trans hh.symm
 have r0:=row2 h0 (by decide)
 obtain ⟨_,_,hg0⟩:∃ cs f,w2.heap[g]? =some (.cells cs 220 f):=Go.Lib.ownsRow_kind r0 g rfl
 have keepW:∀ (k:Nat) (cs:Array Value) (ty:TypeId) (f:Nat × Nat),w2.heap[k]? =some (.cells cs ty f)→ty≠220→W.heap[k]? =some (.cells cs ty f):=fun k cs ty f hk hne => by
  rw [hW]
  refine (setCells_other ?_ _ _ _).trans hk
  rintro rfl
  rw [hg0] at hk
  injection hk with hk
  injection hk with _ hk
  exact hne hk.symm
 have rowW:∀ {t:TypeId} {s n:Nat} {v:Value} {xs:List Value},w2.ownsRow B t s v n xs→t≠220→W.ownsRow B t s v n xs:=fun h hne => by
  refine own_keep h fun k hk => ?_
  obtain ⟨cs,f,hh⟩:=Go.Lib.ownsRow_kind h k hk
  exact (keepW _ _ _ _ hh hne).trans hh.symm
 refine ⟨⟨⟨some ⟨g,0,none⟩,c0,A1,c1,A2,c2,?_,?_,?_,?_⟩,hge⟩,?_,fun k cs f hk => keepW _ _ _ _ (keep2 _ _ _ _ ((hB.block k (heap_lt hk)).trans hk) (by decide)) (by decide)⟩
 ·rw [List.length_set];exact keepW _ _ _ _ b2 (by decide)
 ·rw [List.length_set,hW,flat_set CV.vals cvals_len C e.2 e.1 he]
  exact setCells_own r0 e.1.vals (by rw [cvals_len];have:(e.2+1)*9≤C.length*9:=Nat.mul_le_mul_right _ he;omega)
 ·refine rowW (row2 ?_ (by decide)) (by decide)
  have:=ownsRow_take h1 (k:=R.length) (by omega)
  rwa [List.flatMap_append,List.take_left' (flat_len evals evals_len R)] at this
 ·exact rowW (row2 h2 (by decide)) (by decide)
 ·rw [hW]
  refine SF.setCells ?_ hg0 (h0.lt g rfl).1 _ _
  rw [hw2]
  exact SF.setBox (SF.below hbs hB) b1 hge _ _
def backC (C:List CV) (R:List (CV × Nat)):List CV:=R.foldr (fun e C => C.set e.2 e.1) C
theorem backC_len (C:List CV) (R:List (CV × Nat)):(backC C R).length=C.length:=by
 induction R with
 | nil => rfl
 | cons e _ ih => exact (List.length_set ..).trans ih
def trailLen (w:World) (sb:Nat):Nat:=match w.cell? ⟨sb,1,none⟩ with
 | some (.slice _ n _) => n
 | _ => 0
theorem SM.trail_len {w:World} {B sb:Nat} {C:List CV} {R:List (CV × Nat)} {M:List (Nat × Nat)} (h:SM w B sb C R M):trailLen w sb=R.length:=by
 obtain ⟨A0,c0,A1,c1,A2,c2,hb,_,_,_⟩:=h.ex
 unfold trailLen
 rw [show w.cell? ⟨sb,1,none⟩=some (.slice A1 R.length c1) from (cell_of_row w sb 1 _ _ _ hb).trans rfl]
set_option maxRecDepth 100000 in
set_option maxHeartbeats 4000000 in
theorem sback_any {w:World} {B sb:Nat} {C:List CV} {R1 R2:List (CV × Nat)} {M:List (Nat × Nat)} (h:SM w B sb C (R1++R2) M) (hi:∀ e ∈ R2,e.2 < C.length) (hn:(R1++R2).length≤1000000) (hC:C.length≤1000000) :
 Calls Tryz.prog 130 #[.pointer (some ⟨sb,0,none⟩),.int .i64 (R1.length:Int)] w fun e w' => e=.returned (.tuple #[])∧SM w' B sb (backC C R2) R1 M∧SF B w w'∧KM w w':=by
 have H:=Lib.hid h
 have HI:=Lib.hid hi
 have HN:=Lib.hid hn
 clear h hi hn
 go_enter Tryz.func130,Tryz.ntmps130
 go_wp2_with fail
 go_loopw [4] (fun _ wr => ∃ Q1 Q2,R2=Q1++Q2∧SM wr B sb (backC C Q2) (R1++Q1) M∧SF B w wr∧KM w wr) (fun _ wr => trailLen wr sb)
 case atStart => exact ⟨R2,[],by simp,H.out,SF.refl _ _,fun _ _ _ h => h⟩
 case round =>
  obtain ⟨Q1,Q2,hQ,hr,hf,hkm⟩:=hrel
  have KMO:=Lib.hid hkm
  have HQ:=Lib.hid hQ
  have F:=Lib.hid hf
  clear hQ hf hkm
  rcases List.eq_nil_or_concat Q1 with h0 | ⟨Q,e,h0⟩
  ·subst h0
   have S:=Lib.hid hr
   obtain ⟨A0,c0,A1,c1,A2,c2,hb,r0,r1,r2⟩:=hr.ex
   have b1:=cell_of_row wr sb 1 _ _ _ hb
   have hl:=heap_lt hb
   have hgt:¬ ((R1.length:Int) > (R1.length:Int)):=by omega
   rw [List.append_nil] at b1
   clear hb r0 r1 r2 hr
   go_wp2_with fail
   go_end0
   have h:=S.out
   rw [List.append_nil] at h
   have hq:=HQ.out
   rw [List.nil_append] at hq
   exact ⟨rfl,by rw [hq];exact h,F.out,KMO.out⟩
  ·rw [List.concat_eq_append] at h0
   subst h0
   have hr2:SM wr B sb (backC C Q2) ((R1++Q)++[e]) M:=by rw [List.append_assoc];exact hr
   have hnn:=HN.out
   rw [HQ.out] at hnn
   have he:e.2 < (backC C Q2).length:=by rw [backC_len];exact HI.out e (by rw [HQ.out];simp)
   have hdl:(backC C Q2).length≤1000000:=by rw [backC_len];exact hC
   have hgt:((R1++Q).length+1:Int) > (R1.length:Int):=by simp;omega
   have hRn:(R1++Q).length≤1000000:=by simp at hnn ⊢;omega
   obtain ⟨R,hR⟩:∃ R,R1++Q=R:=⟨_,rfl⟩
   obtain ⟨D,hD⟩:∃ D,backC C Q2=D:=⟨_,rfl⟩
   have HR:=Lib.hid hR
   have HD:=Lib.hid hD
   rw [hR,hD] at hr2
   rw [hD] at he hdl
   rw [hR] at hgt hRn
   clear hR hD hr hnn
   obtain ⟨A0,c0,A1,c1,A2,c2,hb,r0,r1,r2⟩:=hr2.ex
   rw [List.length_append,List.length_singleton] at hb r1
   obtain ⟨g1,rfl,hg1,⟨cs1,hh1,hz1⟩,hc1,hel⟩:=own_elem evals_len r1 (i:=R.length) (x:=e) (by simp) (by simp)
   obtain ⟨old,hold⟩:∃ old,D[e.2]? =some old:=⟨_,List.getElem?_eq_getElem he⟩
   obtain ⟨g0,rfl,hg0,⟨cs0,hh0,hz0⟩,hc0,hel0⟩:=own_elem cvals_len r0 (i:=e.2) hold rfl
   have U:=Lib.hid (fun (w1 W:World) (h1:Below wr.heap.size wr w1) (hW:W=(w1.setCell ⟨sb,1,none⟩ (.slice (some ⟨g1,0,none⟩) R.length c1)).setCells g0 (e.2*9) e.1.vals) => SM.undone hb r0 r1 r2 hr2.ge he h1 hW)
   have HB:=Lib.hid hb
   have HG0:=Lib.hid hh0
   have HG1:=Lib.hid hh1
   obtain ⟨⟨b,⟨tk,tn,ts,tA,tm,tc⟩,⟨ak,an,as_,aA,am,ac⟩⟩,i⟩:=e
   have d0:=hel 0 _ rfl
   have d1:=hel 1 _ rfl
   have d2:=hel 2 _ rfl
   have d3:=hel 3 _ rfl
   have d4:=hel 4 _ rfl
   have d5:=hel 5 _ rfl
   have d6:=hel 6 _ rfl
   have d7:=hel 7 _ rfl
   have d8:=hel 8 _ rfl
   have d9:=hel 9 _ rfl
   obtain ⟨ob,⟨ok,on,os,oA,om,oc⟩,⟨pk,pn,ps,pA,pm,pc⟩⟩:=old
   have o0:=hel0 0 _ rfl
   have o1:=hel0 1 _ rfl
   have o2:=hel0 2 _ rfl
   have o3:=hel0 3 _ rfl
   have o4:=hel0 4 _ rfl
   have o5:=hel0 5 _ rfl
   have o6:=hel0 6 _ rfl
   have o7:=hel0 7 _ rfl
   have o8:=hel0 8 _ rfl
   obtain ⟨n,hnR⟩:∃ n,R.length=n:=⟨_,rfl⟩
   obtain ⟨m,hmD⟩:∃ m,D.length=m:=⟨_,rfl⟩
   simp only [hnR,hmD,Nat.add_zero] at*
   have b0:=cell_of_row wr sb 0 _ _ _ hb
   have b1:=cell_of_row wr sb 1 _ _ _ hb
   have hl:=heap_lt hb
   have hl1:=heap_lt hh1
   have hl0:=heap_lt hh0
   have zf:wr.frozen? ⟨sb,1,none⟩=false:=by simp [World.frozen?,hb]
   have of:∀ j,wr.frozen? ⟨g0,j,none⟩=false:=fun j => by simp [World.frozen?,hh0]
   have hne:sb≠g0:=by rintro rfl;rw [hb] at hh0;injection hh0 with hh0;injection hh0 with _ hh0;exact absurd hh0 (by decide)
   have HGE:=Lib.hid hr2.ge
   have LT:=Lib.hid (show trailLen wr sb=R.length+1 by rw [hr2.trail_len,List.length_append];rfl)
   clear hold hel0 hel hb hh0 hh1 r0 r1 r2 hr2
   go_wp2_with fail
   go_region
   clear d0 d1 d2 d3 d4 d5 d6 d7 d8 d9
   go_wp2_with fail
   go_region
   go_wp2_with fail
   go_region
   go_wp2_with fail
   have Z:=Lib.hid (U.out wr _ (Below.refl _ _) rfl)
   have hsz:=Z.out.2.1.low.size
   have hBz:=Nat.le_trans (Nat.le_trans HGE.out (Nat.le_of_lt hl)) hsz
   have BZ:=Lib.hid (fun (WZ:World) => (((Below.refl WZ.heap.size WZ).alloc (Nat.le_refl _) (Obj.cells #[.bool b,.int .i64 tk,.int .i64 tn,.string ts,.slice tA tm tc,.int .i64 ak,.int .i64 an,.string as_,.slice aA am ac,.int .i64 (i:Int)] 222)).drew.drew.drew))
   have N:=Lib.hid (Z.out.1.below (BZ.out _))
   have NF:=Lib.hid ((F.out.trans Z.out.2.1).trans (SF.below hBz (BZ.out _)))
   have NK:=Lib.hid ((KMO.out.trans Z.out.2.2).trans (KM.below (BZ.out _)))
   have NL:=Lib.hid (N.out.trail_len)
   go_roundw
   case rel =>
    refine ⟨Q,(⟨b,⟨tk,tn,ts,tA,tm,tc⟩,⟨ak,an,as_,aA,am,ac⟩⟩,i) ::Q2,?_,?_,NF.out,NK.out⟩
    ·rw [HQ.out,List.append_assoc];rfl
    ·rw [HR.out]
     have h:=N.out
     rw [← HD.out] at h
     exact h
   case measure =>
    rw [LT.out]
    exact Nat.lt_of_le_of_lt (Nat.le_of_eq NL.out) (by first | exact Nat.lt_succ_self _ | omega)
end Go.Proofs.YtdgpmpccfjmmcaaGreatDoor
namespace Go.Proofs.YtdgpmpccfjmmcaaGreatDoor
open Go.RowKit
theorem SM.trailed {w w1 w2 W:World} {B sb:Nat} {C:List CV} {R:List (CV × Nat)} {M:List (Nat × Nat)} {A0 A1 A2:Option Addr} {c0 c1 c2 g cap:Nat} {x:CV × Nat}
 (hb:w.heap[sb]? =some (.cells #[.slice A0 C.length c0,.slice A1 R.length c1,.slice A2 M.length c2] 121 (0,0)))
 (h0:w.ownsRow B 220 9 (.slice A0 C.length c0) C.length (C.flatMap CV.vals)) (h1:w.ownsRow B 222 10 (.slice A1 R.length c1) R.length (R.flatMap evals)) (h2:w.ownsRow B 276 2 (.slice A2 M.length c2) M.length (M.flatMap mvals))
 (hge:B≤sb) (hB:Below w.heap.size w w1) (hown:w2.ownsRow B 222 10 (.slice (some ⟨g,0,none⟩) (R.length+1) cap) (R.length+1) (R.flatMap evals++evals x)) (hg:w1.grownBy w2 (Value.slice A1 R.length c1).ownBlock)
 (hW:W=w2.setCell ⟨sb,1,none⟩ (.slice (some ⟨g,0,none⟩) (R.length+1) cap)):SM W B sb C (R++[x]) M∧SF B w W∧(∀ (k:Nat) (cs:Array Value) (ty:TypeId) (f:Nat × Nat),w1.heap[k]? =some (.cells cs ty f)→ty≠121→ty≠222→W.heap[k]? =some (.cells cs ty f)):=by
 have hbs:B≤w.heap.size:=by have:=heap_lt hb;omega
 have b2:=keepBox hb h1 hB hg (by decide)
 have keepW:∀ (k:Nat) (cs:Array Value) (ty:TypeId) (f:Nat × Nat),w2.heap[k]? =some (.cells cs ty f)→ty≠121→W.heap[k]? =some (.cells cs ty f):=fun k cs ty f hk hne => by
  rw [hW]
  refine (Below.heap_setCell _ _ _ k ?_).trans hk
  rintro rfl
  rw [show w2.heap[_]? =_ from b2] at hk
  injection hk with hk
  injection hk with _ hk
  exact hne hk.symm
 refine ⟨⟨⟨A0,c0,some ⟨g,0,none⟩,cap,A2,c2,?_,?_,?_,?_⟩,hge⟩,⟨?_,?_⟩,?_⟩
 ·rw [hW,List.length_append];simpa using blk_set b2 1 (.slice (some ⟨g,0,none⟩) (R.length+1) cap)
 ·refine own_keep (grownOther (own_below h1 hB) hg (own_below h0 hB) (by decide)) fun k hk => ?_
  obtain ⟨cs,f,hh⟩:=Go.Lib.ownsRow_kind (grownOther (own_below h1 hB) hg (own_below h0 hB) (by decide)) k hk
  exact (keepW _ _ _ _ hh (by decide)).trans hh.symm
 ·rw [flat_snoc,List.length_append]
  refine own_keep hown fun k hk => ?_
  obtain ⟨cs,f,hh⟩:=Go.Lib.ownsRow_kind hown k hk
  exact (keepW _ _ _ _ hh (by decide)).trans hh.symm
 ·refine own_keep (grownOther (own_below h1 hB) hg (own_below h2 hB) (by decide)) fun k hk => ?_
  obtain ⟨cs,f,hh⟩:=Go.Lib.ownsRow_kind (grownOther (own_below h1 hB) hg (own_below h2 hB) (by decide)) k hk
  exact (keepW _ _ _ _ hh (by decide)).trans hh.symm
 ·rw [hW]
  exact ((hB.mono hbs).grown hg (by have:=hB.size;omega) fun k hk => (h1.lt k hk).1).setCell (p:=⟨sb,1,none⟩) hge _
 ·intro k o hk hn
  have hk1:=(hB.block k (heap_lt hk)).trans hk
  have hk2:w2.heap[k]? =some o:=by
   refine (hg.block k (heap_lt hk1) fun h => ?_).trans hk1
   obtain ⟨cs',f',hh'⟩:=Go.Lib.ownsRow_kind (own_below h1 hB) k h.symm
   rw [hk1] at hh'
   injection hh' with hh'
   exact (hn _ _ _ hh').2.2.1 rfl
  rw [hW]
  refine (Below.heap_setCell _ _ _ k ?_).trans hk2
  rintro rfl
  rw [show w2.heap[_]? =_ from b2] at hk2
  injection hk2 with hk2
  exact (hn _ _ _ hk2.symm).1 rfl
 ·intro k cs ty f hk hn1 hn2
  refine keepW _ _ _ _ ((hg.block k (heap_lt hk) fun h => ?_).trans hk) hn1
  obtain ⟨cs',f',hh'⟩:=Go.Lib.ownsRow_kind (own_below h1 hB) k h.symm
  rw [hk] at hh'
  injection hh' with hh'
  injection hh' with _ hh'
  exact hn2 hh'
theorem SM.put {w W:World} {B sb n:Nat} {C:List CV} {R:List (CV × Nat)} {M:List (Nat × Nat)} {A1 A2:Option Addr} {c0 c1 c2 g:Nat} {x:CV}
 (hb:w.heap[sb]? =some (.cells #[.slice (some ⟨g,0,none⟩) C.length c0,.slice A1 R.length c1,.slice A2 M.length c2] 121 (0,0)))
 (h0:w.ownsRow B 220 9 (.slice (some ⟨g,0,none⟩) C.length c0) C.length (C.flatMap CV.vals)) (h1:w.ownsRow B 222 10 (.slice A1 R.length c1) R.length (R.flatMap evals)) (h2:w.ownsRow B 276 2 (.slice A2 M.length c2) M.length (M.flatMap mvals))
 (hge:B≤sb) (hn:n < C.length) (hW:W=w.setCells g (n*9) x.vals):SM W B sb (C.set n x) R M∧SF B w W:=by
 have hbs:B≤w.heap.size:=by have:=heap_lt hb;omega
 obtain ⟨_,_,hg0⟩:∃ cs f,w.heap[g]? =some (.cells cs 220 f):=Go.Lib.ownsRow_kind h0 g rfl
 have keepW:∀ (k:Nat) (cs:Array Value) (ty:TypeId) (f:Nat × Nat),w.heap[k]? =some (.cells cs ty f)→ty≠220→W.heap[k]? =some (.cells cs ty f):=fun k cs ty f hk hne => by
  rw [hW]
  refine (setCells_other ?_ _ _ _).trans hk
  rintro rfl
  rw [hg0] at hk
  injection hk with hk
  injection hk with _ hk
  exact hne hk.symm
 have rowW:∀ {t:TypeId} {s n:Nat} {v:Value} {xs:List Value},w.ownsRow B t s v n xs→t≠220→W.ownsRow B t s v n xs:=fun h hne => by
  refine own_keep h fun k hk => ?_
  obtain ⟨cs,f,hh⟩:=Go.Lib.ownsRow_kind h k hk
  exact (keepW _ _ _ _ hh hne).trans hh.symm
 refine ⟨⟨⟨some ⟨g,0,none⟩,c0,A1,c1,A2,c2,?_,?_,rowW h1 (by decide),rowW h2 (by decide)⟩,hge⟩,?_⟩
 ·rw [List.length_set];exact keepW _ _ _ _ hb (by decide)
 ·rw [List.length_set,hW,flat_set CV.vals cvals_len C n x hn]
  exact setCells_own h0 x.vals (by rw [cvals_len];have:(n+1)*9≤C.length*9:=Nat.mul_le_mul_right _ hn;omega)
 ·rw [hW]
  exact SF.setCells (SF.refl _ _) hg0 (h0.lt g rfl).1 _ _
theorem unfrozen {w:World} {g:Nat} {cs:Array Value} {t:TypeId} (h:w.heap[g]? =some (.cells cs t (0,0))):∀ j,w.frozen? ⟨g,j,none⟩=false:=fun j => by simp [World.frozen?,h]
def CV.val (c:CV):Value:=.agg c.vals.toArray
def TV.val (t:TV):Value:=.agg t.vals.toArray
set_option maxRecDepth 100000 in
set_option maxHeartbeats 4000000 in
theorem schange_any {w:World} {B sb:Nat} {C:List CV} {R:List (CV × Nat)} {M:List (Nat × Nat)} (h:SM w B sb C R M) (hn:R.length≤1000000) {n:Nat} {old:CV} (ho:C[n]? =some old) (c:CV) :
 Calls Tryz.prog 273 #[.pointer (some ⟨sb,0,none⟩),.int .i64 (n:Int),c.val] w fun e w' => e=.returned (.tuple #[])∧SM w' B sb (C.set n c) (R++[(old,n)]) M∧SF B w w':=by
 have hnl:n < C.length:=by
  rcases Nat.lt_or_ge n C.length with h1 | h1
  ·exact h1
  ·rw [List.getElem?_eq_none h1] at ho;cases ho
 obtain ⟨q,⟨tk,tn,ts,tA,tm,tc⟩,⟨ak,an,as_,aA,am,ac⟩⟩:=c
 obtain ⟨ob,⟨ok,on,os,oA,om,oc⟩,⟨pk,pn,ps,pA,pm,pc⟩⟩:=old
 have hBw:B≤w.heap.size:=by obtain ⟨A0,c0,A1,c1,A2,c2,hb,_⟩:=h.ex;have:=heap_lt hb;have:=h.ge;omega
 obtain ⟨W,hW⟩:∃ W,W=w.alloc (Obj.cells #[.bool q,.int .i64 tk,.int .i64 tn,.string ts,.slice tA tm tc,.int .i64 ak,.int .i64 an,.string as_,.slice aA am ac] 220):=⟨_,rfl⟩
 have XB:W.heap[w.heap.size]? =some (.cells #[.bool q,.int .i64 tk,.int .i64 tn,.string ts,.slice tA tm tc,.int .i64 ak,.int .i64 an,.string as_,.slice aA am ac] 220 (0,0)):=by rw [hW];exact heap_alloc_new _ _
 have BW:Below w.heap.size w W:=by rw [hW];exact (Below.refl _ _).alloc (Nat.le_refl _) _
 have FW:=Lib.hid (SF.below hBw BW)
 have hge:=h.ge
 have h':=h.below BW
 obtain ⟨A0,c0,A1,c1,A2,c2,hb,h0,h1,h2⟩:=h'.ex
 obtain ⟨g0,rfl,hg0,⟨cs0,hh0,hz0⟩,hc0,hel⟩:=own_elem cvals_len h0 (i:=n) ho rfl
 have b0:=cell_of_row W sb 0 _ _ _ hb
 have b1:=cell_of_row W sb 1 _ _ _ hb
 have hl:=heap_lt hb
 have hl0:=heap_lt hh0
 have HB:=Lib.hid hb
 have HGE:=Lib.hid hge
 have H0:=Lib.hid h0
 have H1:=Lib.hid h1
 have H2:=Lib.hid h2
 have HXB:=Lib.hid XB
 have HO:=Lib.hid ho
 obtain ⟨item,ii1,ii2,ii3,ii4⟩:=elEntry.hi
 have o0:=hel 0 _ rfl
 have o1:=hel 1 _ rfl
 have o2:=hel 2 _ rfl
 have o3:=hel 3 _ rfl
 have o4:=hel 4 _ rfl
 have o5:=hel 5 _ rfl
 have o6:=hel 6 _ rfl
 have o7:=hel 7 _ rfl
 have o8:=hel 8 _ rfl
 simp only [Nat.add_zero] at o0
 have hni:(n:Int) < (C.length:Int):=by omega
 have hBW:B≤W.heap.size:=by have:=BW.size;omega
 show Calls Tryz.prog 273 #[.pointer (some ⟨sb,0,none⟩),.int .i64 (n:Int),.agg #[.bool q,.int .i64 tk,.int .i64 tn,.string ts,.slice tA tm tc,.int .i64 ak,.int .i64 an,.string as_,.slice aA am ac]] w _
 clear hb h h' h0 h1 h2 hel hh0 ho XB BW hge
 go_enter Tryz.func273,Tryz.ntmps273
 go_upto_region 1 with fail
 rw [← hW]
 clear hW
 go_upto_region 2 with fail
 go_cut [] (fun wx => SM wx B sb C (R++[(⟨ob,⟨ok,on,os,oA,om,oc⟩,⟨pk,pn,ps,pA,pm,pc⟩⟩,n)]) M∧SF B W wx∧wx.heap[w.heap.size]? =some (.cells #[.bool q,.int .i64 tk,.int .i64 tn,.string ts,.slice tA tm tc,.int .i64 ak,.int .i64 an,.string as_,.slice aA am ac] 220 (0,0)))
 case first =>
  go_wp2_with fail
  go_region_law (refine step_append_lies _ rfl _ _ _ rfl B 222 item (.agg #[.bool false,.int .i64 0,.int .i64 0,.string ⟨#[]⟩,.slice none 0 0,.int .i64 0,.int .i64 0,.string ⟨#[]⟩,.slice none 0 0,.int .i64 0]) 10 128 Tryz.underlying118 ii1 ii2 ii3 ii4 rfl (by omega) _ R.length _ rfl (own_below H1.out (by first | exact ((Below.refl _ _).drew).alloc (Nat.le_refl _) _ | exact ((Below.refl _ _).alloc (Nat.le_refl _) _).drew | exact (Below.refl _ _).alloc (Nat.le_refl _) _)) ⟨W.heap.size,0,none⟩ 1 1 [.bool ob,.int .i64 ok,.int .i64 on,.string os,.slice oA om oc,.int .i64 pk,.int .i64 pn,.string ps,.slice pA pm pc,.int .i64 (n:Int)] rfl rfl (World.news_of_block (heap_alloc_new _ _)) (by intro u hu;simp only [List.mem_cons,List.not_mem_nil,or_false] at hu;rcases hu with rfl | rfl | rfl | rfl | rfl | rfl | rfl | rfl | rfl | rfl <;> rfl) (by omega) (by unfold maxLen;omega) (by omega) (by simp;omega) _ rfl ?_;intro g1 cap1 w10 hown1 hg1 hat1 hlt1;have Z10:=keepBox HB.out H1.out (by first | exact ((Below.refl _ _).drew).alloc (Nat.le_refl _) _ | exact ((Below.refl _ _).alloc (Nat.le_refl _) _).drew | exact (Below.refl _ _).alloc (Nat.le_refl _) _) hg1 (by decide);have z1:=cell_of_row w10 sb 1 _ _ _ Z10;have zl:=heap_lt Z10;have zf:w10.frozen? ⟨sb,1,none⟩=false:=(by simp [World.frozen?,Z10]))
  all_goals
   have S:=Lib.hid (SM.trailed (x:=(⟨ob,⟨ok,on,os,oA,om,oc⟩,⟨pk,pn,ps,pA,pm,pc⟩⟩,n)) HB.out H0.out H1.out H2.out HGE.out (by first | exact ((Below.refl _ _).drew).alloc (Nat.le_refl _) _ | exact ((Below.refl _ _).alloc (Nat.le_refl _) _).drew | exact (Below.refl _ _).alloc (Nat.le_refl _) _) hown1 hg1 rfl)
   clear hown1 hg1 hat1 hlt1 Z10 b0 b1
   go_wp2_with fail
   go_meet
   case rel => exact ⟨S.out.1,S.out.2.1,S.out.2.2 _ _ _ _ ((by first | exact ((Below.refl _ _).drew).alloc (Nat.le_refl _) _ | exact ((Below.refl _ _).alloc (Nat.le_refl _) _).drew | exact (Below.refl _ _).alloc (Nat.le_refl _) _:Below W.heap.size W _).block _ (heap_lt HXB.out) |>.trans HXB.out) (by decide) (by decide)⟩
 case rest =>
  clear b0 b1 o0 o1 o2 o3 o4 o5 o6 o7 o8 hl hl0
  obtain ⟨hs,hf,hx⟩:=hcut
  obtain ⟨A0,c0,A1,c1,A2,c2,hb,h0,h1,h2⟩:=hs.ex
  obtain ⟨g0,rfl,hg0,⟨cs0,hh0,hz0⟩,hc0,hel⟩:=own_elem cvals_len h0 (i:=n) HO.out rfl
  have U:=Lib.hid (fun (WW:World) => SM.put (W:=WW) (x:=⟨q,⟨tk,tn,ts,tA,tm,tc⟩,⟨ak,an,as_,aA,am,ac⟩⟩) hb h0 h1 h2 hs.ge hnl)
  have b0:=cell_of_row _ sb 0 _ _ _ hb
  have hl:=heap_lt hb
  have hl0:=heap_lt hh0
  have hlx:=heap_lt hx
  have of:=unfrozen hh0
  have o0:=hel 0 _ rfl
  have o1:=hel 1 _ rfl
  have o2:=hel 2 _ rfl
  have o3:=hel 3 _ rfl
  have o4:=hel 4 _ rfl
  have o5:=hel 5 _ rfl
  have o6:=hel 6 _ rfl
  have o7:=hel 7 _ rfl
  have o8:=hel 8 _ rfl
  have x0:=cell_of_row _ w.heap.size 0 _ _ _ hx
  have x1:=cell_of_row _ w.heap.size 1 _ _ _ hx
  have x2:=cell_of_row _ w.heap.size 2 _ _ _ hx
  have x3:=cell_of_row _ w.heap.size 3 _ _ _ hx
  have x4:=cell_of_row _ w.heap.size 4 _ _ _ hx
  have x5:=cell_of_row _ w.heap.size 5 _ _ _ hx
  have x6:=cell_of_row _ w.heap.size 6 _ _ _ hx
  have x7:=cell_of_row _ w.heap.size 7 _ _ _ hx
  have x8:=cell_of_row _ w.heap.size 8 _ _ _ hx
  simp only [Nat.add_zero] at o0
  have F:=Lib.hid (FW.out.trans hf)
  clear hel hh0 hx hb h0 h1 h2 hs hf
  go_wp2_with fail
  go_region
  go_wp2_with fail
  go_end0
  have Z:=U.out _ rfl
  exact ⟨rfl,Z.1.below (Below.refl _ _).drew,(F.out.trans Z.2).trans (SF.below (Nat.le_trans hBw (F.out.trans Z.2).low.size) (Below.refl _ _).drew)⟩
end Go.Proofs.YtdgpmpccfjmmcaaGreatDoor
namespace Go.Proofs.YtdgpmpccfjmmcaaGreatDoor
open Go.RowKit
theorem belS {w w':World} (h:Below w.heap.size w w') (o:Obj):Below w.heap.size w (w'.alloc o):=h.alloc h.size o
def noneV:Value:=.agg #[.int .i64 0,.int .i64 0,.string ⟨#[]⟩,.slice none 0 0]
set_option maxRecDepth 100000 in
set_option maxHeartbeats 4000000 in
theorem sattr_in {w:World} {B sb:Nat} {C:List CV} {R:List (CV × Nat)} {M:List (Nat × Nat)} (h:SM w B sb C R M) {n:Nat} {c:CV} (ho:C[n]? =some c) :
 Calls Tryz.prog 91 #[.pointer (some ⟨sb,0,none⟩),.int .i64 (n:Int)] w fun e w' => e=.returned c.attr.val∧Below w.heap.size w w':=by
 have hnl:n < C.length:=by
  rcases Nat.lt_or_ge n C.length with h1 | h1
  ·exact h1
  ·rw [List.getElem?_eq_none h1] at ho;cases ho
 obtain ⟨A0,c0,A1,c1,A2,c2,hb,h0,h1,h2⟩:=h.ex
 obtain ⟨g0,rfl,hg0,⟨cs0,hh0,hz0⟩,hc0,hel⟩:=own_elem cvals_len h0 (i:=n) ho rfl
 have b0:=cell_of_row w sb 0 _ _ _ hb
 have hl:=heap_lt hb
 have hl0:=heap_lt hh0
 obtain ⟨q,⟨tk,tn,ts,tA,tm,tc⟩,⟨ak,an,as_,aA,am,ac⟩⟩:=c
 have o5:=hel 5 _ rfl
 have o6:=hel 6 _ rfl
 have o7:=hel 7 _ rfl
 have o8:=hel 8 _ rfl
 have hni:(n:Int) < (C.length:Int):=by omega
 have hn0:¬ ((n:Int) < 0):=by omega
 have hnge:¬ ((n:Int)≥(C.length:Int)):=by omega
 clear hb h h0 h1 h2 hel hh0 ho
 go_enter Tryz.func91,Tryz.ntmps91
 go_wp2_with fail
 refine bodyPost_ret (v:=.agg #[.int .i64 ak,.int .i64 an,.string as_,.slice aA am ac]) (by simp [results,go_sem]) rfl ?_
 exact ⟨rfl,(belS (Below.refl _ _) _)⟩
set_option maxRecDepth 100000 in
set_option maxHeartbeats 4000000 in
theorem sattr_out {w:World} {B sb:Nat} {C:List CV} {R:List (CV × Nat)} {M:List (Nat × Nat)} (h:SM w B sb C R M) {n:Int} (ho:n < 0∨(C.length:Int)≤n) :
 Calls Tryz.prog 91 #[.pointer (some ⟨sb,0,none⟩),.int .i64 n] w fun e w' => e=.returned noneV∧Below w.heap.size w w':=by
 obtain ⟨A0,c0,A1,c1,A2,c2,hb,h0,h1,h2⟩:=h.ex
 have b0:=cell_of_row w sb 0 _ _ _ hb
 have hl:=heap_lt hb
 clear hb h h0 h1 h2
 by_cases hn:n < 0
 ·go_enter Tryz.func91,Tryz.ntmps91
  go_wp2_with fail
  refine bodyPost_ret (v:=noneV) (by simp [results,go_sem,noneV]) rfl ?_
  exact ⟨rfl,(belS (Below.refl _ _) _)⟩
 ·have hge:n≥(C.length:Int):=by omega
  clear ho
  go_enter Tryz.func91,Tryz.ntmps91
  go_wp2_with fail
  refine bodyPost_ret (v:=noneV) (by simp [results,go_sem,noneV]) rfl ?_
  exact ⟨rfl,(belS (Below.refl _ _) _)⟩
end Go.Proofs.YtdgpmpccfjmmcaaGreatDoor
namespace Go.Proofs.YtdgpmpccfjmmcaaGreatDoor
open Go.RowKit
theorem TP.row {w w':World} {t:T} {v:Value} (ht:TP w (fun _ => True) t v) (hk:∀ (b:Nat) (cs:Array Value) (f:Nat × Nat),w.heap[b]? =some (.cells cs 51 f)→w'.heap[b]? =w.heap[b]?):TP w' (fun _ => True) t v:=
 ht.keep fun b cs f _ hh => ⟨(hk b cs f hh).trans hh,trivial⟩
end Go.Proofs.YtdgpmpccfjmmcaaGreatDoor
namespace Go.Proofs.YtdgpmpccfjmmcaaGreatDoor
open Go.RowKit
end Go.Proofs.YtdgpmpccfjmmcaaGreatDoor
namespace Go.Proofs.YtdgpmpccfjmmcaaGreatDoor
open Go.RowKit
theorem TP.kind {w:World} {S:Nat→Prop} {t:T} {k n:Int} {s x:Value} (h:TP w S t (.agg #[.int .i64 k,.int .i64 n,s,x])) (ht:t.ok) (hk:k=1):t.var? =some n∧0≤n∧n < 1000:=by
 cases t with
 | nil => exact h.elim
 | mk ku nu su mu au =>
  obtain ⟨_,_,e,_⟩:=h
  injection e with e
  simp only [Array.mk.injEq,List.cons.injEq,and_true] at e
  obtain ⟨e1,e2,_⟩:=e
  injection e1 with _ e1
  injection e2 with _ e2
  subst e1;subst e2
  have:=ht.var hk
  exact ⟨var_iff.mpr ⟨hk,rfl⟩,this.1,this.2.1⟩
end Go.Proofs.YtdgpmpccfjmmcaaGreatDoor
namespace Go.Proofs.YtdgpmpccfjmmcaaGreatDoor
open Go.RowKit
end Go.Proofs.YtdgpmpccfjmmcaaGreatDoor
namespace Go.Proofs.YtdgpmpccfjmmcaaGreatDoor
open Go.RowKit
end Go.Proofs.YtdgpmpccfjmmcaaGreatDoor
