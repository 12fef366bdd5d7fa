/- The program's store:its cells as bindings;walk. The program's store:known,bind. The machine's plain terms:what may stand in them,and stays so. The machine,plainly:an answer's text. What the texts of the laws' queries are read as,plainly:terms with blanks behind the commas;texts of few bytes have few tokens. What a query is read as,as one of the machine's terms. -/
import Derived.Test.YtdgpmpccfjmmcaaGreatDoorKJAj
import Derived.Test.YtdgpmpccfjmmcaaGreatDoorKJAg
import Derived.Deep.QuietTactic
import Derived.BigQuiet
import Derived.Test.YtdgpmpccfjmmcaaGreatDoorKJAi
import Derived.Test.YtdgpmpccfjmmcaaGreatDoorKJAe
set_option linter.unusedVariables false
set_option linter.unusedSimpArgs false
namespace Go.Proofs.YtdgpmpccfjmmcaaGreatDoor
open Go.RowKit
theorem TP.sf {B:Nat} {w w':World} {S:Nat→Prop} {t:T} {v:Value} (ht:TP w S t v) (h:SF B w w'):TP w' S t v:=
 ht.keep fun b cs f hS hh => ⟨h.far b _ hh (fun cs' ty' f' e => by injection e with _ e;subst e;decide),hS⟩
structure CL (w:World) (C:List CV) (L:Bs):Prop where
 ok:EnvOk L
 inn:∀ p ∈ L,p.1 < (C.length:Int)
 kn:∀ p ∈ L,∀ v,p.2.hasV v→v < (C.length:Int)
 cell:∀ (i:Nat) (c:CV),C[i]? =some c→(findB L (i:Int)=none→c.b=false)∧∀ t,findB L (i:Int)=some t→c.b=true∧TP w (fun _ => True) t (.agg #[.int .i64 c.tg.k,.int .i64 c.tg.n,.string c.tg.s,.slice c.tg.A c.tg.m c.tg.c])
theorem CL.keep {w w':World} {C:List CV} {L:Bs} (h:CL w C L) (hk:∀ {t:T} {v:Value},TP w (fun _ => True) t v→TP w' (fun _ => True) t v):CL w' C L:=
 ⟨h.ok,h.inn,h.kn,fun i c hc => ⟨(h.cell i c hc).1,fun t ht => ⟨((h.cell i c hc).2 t ht).1,hk ((h.cell i c hc).2 t ht).2⟩⟩⟩
theorem CL.sf {B:Nat} {w w':World} {C:List CV} {L:Bs} (h:CL w C L) (hf:SF B w w'):CL w' C L:=h.keep fun ht => ht.sf hf
theorem CL.below {w w':World} {C:List CV} {L:Bs} (h:CL w C L) (hb:Below w.heap.size w w'):CL w' C L:=h.keep fun ht => ht.below hb
theorem CL.bound {w:World} {C:List CV} {L:Bs} (h:CL w C L) {i:Nat} {c:CV} (hc:C[i]? =some c):c.b=(findB L (i:Int)).isSome:=by
 have:=h.cell i c hc
 cases hf:findB L (i:Int) with
 | none => rw [this.1 hf];rfl
 | some t => rw [(this.2 t hf).1];rfl
theorem CL.far {w:World} {C:List CV} {L:Bs} (h:CL w C L) {n:Int} (hn:(C.length:Int)≤n):findB L n=none:=by
 cases hf:findB L n with
 | none => rfl
 | some t => have:=h.inn _ (findB_mem hf);simp only at this;omega
theorem SM.cellAt {w:World} {B sb:Nat} {C:List CV} {R:List (CV × Nat)} {M:List (Nat × Nat)} (h:SM w B sb C R M) {n:Nat} {c:CV} (ho:C[n]? =some c) :
 ∃ (g0 c0:Nat) (cs:Array Value),w.cell? ⟨sb,0,none⟩=some (.slice (some ⟨g0,0,none⟩) C.length c0)∧sb < w.heap.size∧w.heap[g0]? =some (.cells cs 220 (0,0))∧C.length≤c0∧∀ j u,c.vals[j]? =some u→w.cell? ⟨g0,n*9+j,none⟩=some u:=by
 obtain ⟨A0,c0,A1,c1,A2,c2,hb,h0,h1,h2⟩:=h.ex
 obtain ⟨g0,rfl,hg0,⟨cs0,hh0,hz0⟩,hc0,hel⟩:=own_elem cvals_len h0 (i:=n) ho rfl
 exact ⟨g0,c0,cs0,cell_of_row w sb 0 _ _ _ hb,heap_lt hb,hh0,hc0,hel⟩
theorem SM.lenAt {w:World} {B sb:Nat} {C:List CV} {R:List (CV × Nat)} {M:List (Nat × Nat)} (h:SM w B sb C R M) :
 ∃ (A0:Option Addr) (c0:Nat),w.cell? ⟨sb,0,none⟩=some (.slice A0 C.length c0)∧sb < w.heap.size:=by
 obtain ⟨A0,c0,A1,c1,A2,c2,hb,h0,h1,h2⟩:=h.ex
 exact ⟨A0,c0,cell_of_row w sb 0 _ _ _ hb,heap_lt hb⟩
theorem at_of_lt {C:List CV} {n:Nat} (h:n < C.length):∃ c,C[n]? =some c:=⟨_,List.getElem?_eq_getElem h⟩
theorem lt_of_at {α:Type} {C:List α} {n:Nat} {c:α} (h:C[n]? =some c):n < C.length:=by
 rcases Nat.lt_or_ge n C.length with h1 | h1
 ·exact h1
 ·rw [List.getElem?_eq_none h1] at h;cases h
theorem TP.var_of {w:World} {S:Nat→Prop} {t:T} {n:Int} {s:ByteArray} {A:Option Addr} {m c:Nat} (ht:TP w S t (.agg #[.int .i64 1,.int .i64 n,.string s,.slice A m c])) (hok:t.ok):t.var? =some n∧∃ i:Nat,n=(i:Int)∧i < 1000:=by
 cases t with
 | nil => exact ht.elim
 | mk ku nu su mu au =>
  obtain ⟨_,_,e,_⟩:=ht
  injection e with e
  simp only [Array.mk.injEq,List.cons.injEq,and_true] at e
  obtain ⟨e1,e2,_⟩:=e
  injection e1 with _ e1
  injection e2 with _ e2
  subst e1;subst e2
  have:=hok.var rfl
  exact ⟨var_iff.mpr ⟨rfl,rfl⟩,n.toNat,by omega,by omega⟩
theorem TP.novar_of {w:World} {S:Nat→Prop} {t:T} {k n:Int} {s:ByteArray} {A:Option Addr} {m c:Nat} (ht:TP w S t (.agg #[.int .i64 k,.int .i64 n,.string s,.slice A m c])) (hk:k≠1):t.var? =none:=by
 cases t with
 | nil => exact ht.elim
 | mk ku nu su mu au =>
  obtain ⟨_,_,e,_⟩:=ht
  injection e with e
  simp only [Array.mk.injEq,List.cons.injEq,and_true] at e
  obtain ⟨e1,_⟩:=e
  injection e1 with _ e1
  subst e1
  simp [T.var?,hk]
theorem msr_step {L:Bs} {r:Int→Nat} (hr:∀ p ∈ L,∀ v,p.2.hasV v→r v < r p.1) {n:Int} {x:T} (hx:findB L n=some x) {w:World} {S:Nat→Prop} {k q:Int} {s:ByteArray} {A:Option Addr} {m c:Nat} (ht:TP w S x (.agg #[.int .i64 k,.int .i64 q,.string s,.slice A m c])) :
 (if k=1 then cntR L r (r q+1) else 0) < cntR L r (r n+1):=by
 have h2:=cntR_lt L r (findB_mem hx)
 simp only at h2
 split
 ·rename_i hq
  have hv2:x.hasV q:=by
   cases x with
   | nil => exact ht.elim
   | mk ku nu su mu au =>
    obtain ⟨_,_,e,_⟩:=ht
    injection e with e
    simp only [Array.mk.injEq,List.cons.injEq,and_true] at e
    obtain ⟨e1,e2,_⟩:=e
    injection e1 with _ e1
    injection e2 with _ e2
    subst e1;subst e2
    exact .inl ⟨hq,rfl⟩
  have h1:=hr _ (findB_mem hx) q hv2
  have h3:=cntR_mono L r (k:=r q+1) (k':=r n) h1
  omega
 ·omega
theorem put_new0 {w wr:World} {B g:Nat} {u0 u1 u2 u3:Value} {ty:TypeId} {m:Nat × Nat} (h:wr.heap[g]? =some (.cells #[u0,u1,u2,u3] ty m)) (hB:B≤g) (hb:Below B w wr) (x0 x1 x2 x3:Value) :
 ((((wr.setCell ⟨g,0,none⟩ x0).setCell ⟨g,1,none⟩ x1).setCell ⟨g,2,none⟩ x2).setCell ⟨g,3,none⟩ x3).heap[g]? =some (.cells #[x0,x1,x2,x3] ty m)∧
 (∀ k,k≠g→((((wr.setCell ⟨g,0,none⟩ x0).setCell ⟨g,1,none⟩ x1).setCell ⟨g,2,none⟩ x2).setCell ⟨g,3,none⟩ x3).heap[k]? =wr.heap[k]?)∧
 Below B w ((((wr.setCell ⟨g,0,none⟩ x0).setCell ⟨g,1,none⟩ x1).setCell ⟨g,2,none⟩ x2).setCell ⟨g,3,none⟩ x3):=by
 obtain ⟨p0,p1,p2,p3⟩:=box_put4 h x0 x1 x2 x3 rfl
 exact ⟨p0,fun k hk => p2 k hk,p3 _ _ hB hb⟩
theorem bel_drew {B:Nat} {a w:World} (h:Below B a w):Below B a w.drew:=h.drew
set_option maxRecDepth 100000 in
set_option maxHeartbeats 4000000 in
theorem swalk_any {w0 w:World} {B sb:Nat} {C:List CV} {R:List (CV × Nat)} {M:List (Nat × Nat)} {L:Bs} (h:SM w0 B sb C R M) (hc:CL w0 C L) {t:T} {v:Value} (hv:TP w0 (fun _ => True) t v) (ht:t.ok) (hb0:Below w0.heap.size w0 w) :
 Calls Tryz.prog 90 #[.pointer (some ⟨sb,0,none⟩),v] w fun e w' => (∃ v',e=.returned v'∧TP w0 (fun _ => True) (walkN L t) v')∧Below w.heap.size w w':=by
 obtain ⟨k,n,s,A,m,c,rfl⟩:=hv.agg
 have H:=Lib.hid (h.below hb0)
 have HC:=Lib.hid hc
 have HV:=Lib.hid hv
 have HB0:=Lib.hid hb0
 obtain ⟨_,_,_,hls⟩:=(h.below hb0).lenAt
 clear h hc hv hb0
 go_enter Tryz.func90,Tryz.ntmps90
 obtain ⟨r,hr⟩:=HC.out.ok.acyc
 have HR:=Lib.hid hr
 clear hr
 go_wp2_with fail
 go_loopw [28] (fun _ wr => ∃ (j:Nat) (k' n':Int) (s':ByteArray) (A':Option Addr) (m' c':Nat),wr.heap[w.heap.size]? =some (.cells #[.int .i64 k',.int .i64 n',.string s',.slice A' m' c'] 51 (0,0))∧
  TP w0 (fun _ => True) (walkF L j t) (.agg #[.int .i64 k',.int .i64 n',.string s',.slice A' m' c'])∧wr.heap[w.heap.size+1]? =some (.cells #[.int .i64 0,.int .i64 0,.string ⟨#[]⟩,.slice none 0 0] 51 (0,0))∧Below w.heap.size w wr) (fun _ wr => msrW L r w.heap.size wr)
 case atStart =>
  have B0:=((Below.refl w.heap.size w).alloc (Nat.le_refl _) (Obj.cells #[.int .i64 k,.int .i64 n,.string s,.slice A m c] 51)).alloc (by simp) (Obj.cells #[.int .i64 0,.int .i64 0,.string ⟨#[]⟩,.slice none 0 0] 51)
  refine ⟨0,k,n,s,A,m,c,?_,?_,?_,B0⟩
  ·exact (Below.heap_alloc _ _ _ (by simp)).trans (heap_alloc_new _ _)
  ·exact HV.out
  ·exact (congrArg _ (by simp)).trans (heap_alloc_new _ _)
 case round =>
  obtain ⟨j,k',n',s',A',m',c',hx,htp,hy,hb⟩:=hrel
  have HX:=Lib.hid hx
  have HY:=Lib.hid hy
  have HB:=Lib.hid hb
  have HT:=Lib.hid htp
  have HS:=Lib.hid (H.out.below hb)
  have hok:=HC.out.ok.walkF_ok ht j
  obtain ⟨x0,x1,x2,x3⟩:=box4 hx
  obtain ⟨y0,y1,y2,y3⟩:=box4 hy
  have xf:=unfrozen hx
  have yf:=unfrozen hy
  have hgl:=heap_lt hx
  have hgl1:=heap_lt hy
  have hsl:=Nat.lt_of_lt_of_le hls hb.size
  have hsz:=hb.size
  clear hx hy hb htp
  have P1:=Lib.hid (fun nq => put_new0 (w:=w) (wr:=wr.drewN nq) HY.out (Nat.le_succ _) (bel_drewN HB.out nq) (.int .i64 k') (.int .i64 n') (.string s') (.slice A' m' c'))
  cases hk:(k' == 1) with
  | true =>
   obtain rfl:k'=1:=by simpa using hk
   obtain ⟨hv1,i,rfl,hi⟩:=HT.out.var_of hok
   have HV1:=Lib.hid hv1
   have HM:=Lib.hid (show msrW L r w.heap.size wr=cntR L r (r (i:Int)+1) by rw [msrW_of HX.out,if_pos rfl])
   clear hv1 hok
   by_cases hin:i < C.length
   ·obtain ⟨c1,hc1⟩:=at_of_lt hin
    obtain ⟨g0,c0,cs,b0,hl,hh0,hcc,hel⟩:=HS.out.cellAt hc1
    have hbb:=HC.out.bound hc1
    have hcell:=HC.out.cell i c1 hc1
    obtain ⟨q,⟨tk,tn,ts,tA,tm,tc⟩,⟨ak,an,as_,aA,am,ac⟩⟩:=c1
    have o0:=hel 0 _ rfl
    have o1:=hel 1 _ rfl
    have o2:=hel 2 _ rfl
    have o3:=hel 3 _ rfl
    have o4:=hel 4 _ rfl
    simp only [Nat.add_zero] at o0
    have hl0:=heap_lt hh0
    have hini:(i:Int) < (C.length:Int):=by omega
    cases q with
    | true =>
     obtain ⟨x,hx⟩:∃ x,findB L (i:Int)=some x:=by
      cases hf:findB L (i:Int) with
      | none => rw [hf] at hbb;cases hbb
      | some x => exact ⟨x,rfl⟩
     have hxt:=(hcell.2 x hx).2
     have HSX:=Lib.hid (show walkF L (j+1) t=x by simp only [walkF,stepW,HV1.out,hx])
     have HL:=Lib.hid (msr_step HR.out hx hxt)
     have HXT:=Lib.hid hxt
     have P2:=Lib.hid (put_new0 HX.out (Nat.le_refl _) HB.out (.int .i64 tk) (.int .i64 tn) (.string ts) (.slice tA tm tc))
     clear hel hh0 hcell hbb hc1 hx hxt
     go_wp2_with fail
     go_quiet (fail)
     go_wp2_with fail
     go_region
     go_wp2_with fail
     go_roundw
     case rel =>
      exact ⟨j+1,tk,tn,ts,tA,tm,tc,P2.out.1,by rw [HSX.out];exact HXT.out,(P2.out.2.1 _ (by omega)).trans HY.out,by first | exact bel_drew (bel_drewN P2.out.2.2 _) | exact bel_drewN P2.out.2.2 _ | exact bel_drew P2.out.2.2⟩
     case measure =>
      rw [HM.out];exact Nat.lt_of_le_of_lt (Nat.le_of_eq (msrW_of P2.out.1)) HL.out
    | false =>
     have HD:=Lib.hid (show walkN L t=walkF L j t from walkN_eq HC.out.ok (by
      intro n2 hn2
      rw [HV1.out] at hn2
      injection hn2 with hn2
      subst hn2
      cases hf:findB L (i:Int) with
      | none => rfl
      | some x => rw [hf] at hbb;cases hbb))
     clear hel hh0 hcell hbb hc1
     go_wp2_with fail
     go_quiet (fail)
     go_wp2_with fail
     obtain ⟨p0,p1,p2,p3⟩:=box4 (P1.out nq).1
     refine bodyPost_ret (v:=.agg #[.int .i64 1,.int .i64 (i:Int),.string s',.slice A' m' c']) (by simp [results,go_sem,p0,p1,p2,p3]) rfl ?_
     rw [HD.out]
     exact ⟨⟨_,rfl,HT.out⟩,(P1.out nq).2.2⟩
   ·obtain ⟨A0,c0,b0,hl⟩:=HS.out.lenAt
    have HD:=Lib.hid (show walkN L t=walkF L j t from walkN_eq HC.out.ok (by
     intro n2 hn2
     rw [HV1.out] at hn2
     injection hn2 with hn2
     subst hn2
     exact HC.out.far (by omega)))
    have hini:¬ (i:Int) < (C.length:Int):=by omega
    go_wp2_with fail
    go_quiet (fail)
    go_wp2_with fail
    obtain ⟨p0,p1,p2,p3⟩:=box4 (P1.out nq).1
    refine bodyPost_ret (v:=.agg #[.int .i64 1,.int .i64 (i:Int),.string s',.slice A' m' c']) (by simp [results,go_sem,p0,p1,p2,p3]) rfl ?_
    rw [HD.out]
    exact ⟨⟨_,rfl,HT.out⟩,(P1.out nq).2.2⟩
  | false =>
   have hk1:k'≠1:=by simpa using hk
   have HD:=Lib.hid (show walkN L t=walkF L j t from walkN_eq HC.out.ok (by
    intro n2 hn2
    rw [HT.out.novar_of hk1] at hn2
    cases hn2))
   clear hk1
   go_wp2_with fail
   go_quiet (fail)
   go_wp2_with fail
   obtain ⟨p0,p1,p2,p3⟩:=box4 (P1.out nq).1
   refine bodyPost_ret (v:=.agg #[.int .i64 k',.int .i64 n',.string s',.slice A' m' c']) (by simp [results,go_sem,p0,p1,p2,p3]) rfl ?_
   rw [HD.out]
   exact ⟨⟨_,rfl,HT.out⟩,(P1.out nq).2.2⟩
end Go.Proofs.YtdgpmpccfjmmcaaGreatDoor
namespace Go.Proofs.YtdgpmpccfjmmcaaGreatDoor
open Go.RowKit
def allV (t:T) (n:Int):Prop:=∀ u,t.hasV u→u < n
def KnownP (t:T) (n:Int) (w:World) (e:Ending) (w':World):Prop:=(∃ b,e=.returned (.bool b)∧(b=true↔allV t n))∧Below w.heap.size w w'
set_option maxRecDepth 100000 in
set_option maxHeartbeats 4000000 in
theorem sknown_any {B sb:Nat} {C:List CV} {R:List (CV × Nat)} {M:List (Nat × Nat)}:∀ (t:T),t.ok→∀ (w:World) (v:Value) (S:Nat→Prop),SM w B sb C R M→TP w S t v→
 Calls Tryz.prog 128 #[.pointer (some ⟨sb,0,none⟩),v] w fun e w' => KnownP t (C.length:Int) w e w':=by
 intro t
 induction t with
 | nil => exact fun h => h.1.elim
 | mk k n s m a ih =>
  intro hok w v S h hv
  obtain ⟨A,c,rfl⟩:∃ A c,v=.agg #[.int .i64 k,.int .i64 n,.string s,.slice A m c]:=by
   obtain ⟨A,c,e,_⟩:=hv;exact ⟨A,c,e⟩
  obtain ⟨A0,c0,b0,hl⟩:=h.lenAt
  have H:=Lib.hid h
  have HV:=Lib.hid hv
  have IH:=Lib.hid ih
  have OK:=Lib.hid hok
  have hfew:=hok.few
  clear h hv ih hok
  cases hk:(k == 1) with
  | true =>
   obtain rfl:k=1:=by simpa using hk
   by_cases hlt:n < (C.length:Int)
   all_goals
    go_enter Tryz.func128,Tryz.ntmps128
    go_wp2_with fail
    go_quiet (fail)
    go_wp2_with fail
    go_ret
    refine ⟨⟨_,rfl,?_⟩,bel_drewN (belS (Below.refl _ _) _) _⟩
    have h0:=(OK.out.var rfl).2.2.2
    constructor
    ·intro hb u hu
     rcases hu with ⟨_,rfl⟩ | ⟨h,_⟩
     ·first | exact hlt | (simp at hb;done) | simpa using hb
     ·exact absurd h (by decide)
    ·intro hb
     have:=hb n (.inl ⟨rfl,rfl⟩)
     first | rfl | (simp;omega) | exact absurd this hlt
  | false =>
   have hk1:k≠1:=by simpa using hk
   have HK4:=Lib.hid (show 0 < m→k=4 from fun h => Classical.byContradiction fun e => by have:=OK.out.plain e;omega)
   have HK1:=Lib.hid hk1
   clear hk1
   go_enter Tryz.func128,Tryz.ntmps128
   go_wp2_with fail
   go_loopw [21] (fun iv wr => ∃ i:Nat,iv=.int .i64 (i:Int)∧i≤m∧Below w.heap.size w wr∧∀ q,q < i→allV (a q) (C.length:Int)) (fun iv _ => m - (intOf iv).toNat)
   case atStart => exact ⟨0,rfl,Nat.zero_le _,belS (Below.refl _ _) _,fun q hq => absurd hq (by omega)⟩
   case round =>
    obtain ⟨i,rfl,hi,hb,hq⟩:=hrel
    have HB:=Lib.hid hb
    have HQ:=Lib.hid hq
    clear hq
    by_cases him:i < m
    ·have him':(i:Int) < (m:Int):=by omega
     obtain ⟨_,_,_,_,_,_,hargs⟩:=(HV.out.below hb).args
     obtain ⟨b,k0,k1,k2,B0,m0,q0,rfl,hbw,hbl,d0,d1,d2,d3,hti⟩:=hargs i him
     have BX:=Lib.hid (belS (Below.refl wr.heap.size wr) (Obj.cells #[.int .i64 k0,.int .i64 k1,.string k2,.slice B0 m0 q0] 51))
     have CI:=Lib.hid (IH.out i (OK.out.arg him) _ _ _ ((H.out.below hb).below BX.out) (hti.below BX.out))
     clear hti hargs hb
     go_wp2_with fail
     refine CI.out.mono ?_
     rintro e w5 ⟨⟨bb,rfl,hbb⟩,h5⟩
     have BB:=Lib.hid hbb
     have B5:=Lib.hid (HB.out.trans ((BX.out.trans (h5.mono BX.out.size)).mono HB.out.size))
     clear hbb h5 CI
     cases bb with
     | true =>
      have HA:=Lib.hid (BB.out.mp rfl)
      go_wp2_with fail
      go_roundw
      case rel =>
       refine ⟨i+1,by go_num,him,B5.out,fun q hq => ?_⟩
       by_cases hqi:q=i
       ·subst hqi;exact HA.out
       ·exact HQ.out q (by omega)
      case measure => simp [intOf];omega
     | false =>
      have HA:=Lib.hid (show ¬ allV (a i) (C.length:Int) from fun h => by have:=BB.out.mpr h;cases this)
      go_wp2_with fail
      go_ret
      exact ⟨⟨false,rfl,(fun h => by cases h),fun h => absurd (fun u hu => h u (.inr ⟨HK4.out (by omega),i,him,hu⟩)) HA.out⟩,B5.out⟩
    ·obtain rfl:i=m:=by omega
     go_wp2_with fail
     go_ret
     exact ⟨⟨true,rfl,fun _ u hu => by
      rcases hu with ⟨h,_⟩ | ⟨_,q,hq,hu⟩
      ·exact absurd h HK1.out
      ·exact HQ.out q hq u hu,fun _ => rfl⟩,HB.out⟩
set_option maxRecDepth 100000 in
set_option maxHeartbeats 4000000 in
theorem sbind_any {w:World} {B sb:Nat} {C:List CV} {R:List (CV × Nat)} {M:List (Nat × Nat)} (h:SM w B sb C R M) (hn:R.length≤1000000) {n:Nat} {c:CV} (ho:C[n]? =some c) (a:TV) :
 Calls Tryz.prog 202 #[.pointer (some ⟨sb,0,none⟩),.int .i64 (n:Int),.agg #[.int .i64 a.k,.int .i64 a.n,.string a.s,.slice a.A a.m a.c]] w fun e w' =>
  e=.returned (.tuple #[])∧SM w' B sb (C.set n ⟨true,a,c.attr⟩) (R++[(c,n)]) M∧SF B w w':=by
 obtain ⟨g0,c0,cs,b0,hl,hh0,hcc,hel⟩:=h.cellAt ho
 have hnl:=lt_of_at ho
 have hBw:B≤w.heap.size:=by have:=h.ge;omega
 have hl0:=heap_lt hh0
 obtain ⟨ak,an,as_,aA,am,ac⟩:=a
 obtain ⟨q,⟨tk,tn,ts,tA,tm,tc⟩,⟨pk,pn,ps,pA,pm,pc⟩⟩:=c
 have o0:=hel 0 _ rfl
 have o1:=hel 1 _ rfl
 have o2:=hel 2 _ rfl
 have o3:=hel 3 _ rfl
 have o4:=hel 4 _ rfl
 have o5:=hel 5 _ rfl
 have o6:=hel 6 _ rfl
 have o7:=hel 7 _ rfl
 have o8:=hel 8 _ rfl
 simp only [Nat.add_zero] at o0
 have hni:(n:Int) < (C.length:Int):=by omega
 have CC:=Lib.hid (fun (W:World) (hW:Below w.heap.size w W) => schange_any (h.below hW) hn ho ⟨true,⟨ak,an,as_,aA,am,ac⟩,⟨pk,pn,ps,pA,pm,pc⟩⟩)
 have SB:=Lib.hid (fun (W:World) (hW:Below w.heap.size w W) => SF.below hBw hW)
 clear h hel hh0 ho
 go_enter Tryz.func202,Tryz.ntmps202
 go_wp2_with fail
 go_region
 go_wp2_with fail
 refine (CC.out _ (belS (belS (Below.refl _ _) _) _).drew).mono ?_
 rintro e w5 ⟨rfl,hs,hf⟩
 have S5:=Lib.hid hs
 have F5:=Lib.hid ((SB.out _ (belS (belS (Below.refl _ _) _) _).drew).trans hf)
 clear hs hf CC SB
 go_wp2_with fail
 go_end0
 exact ⟨rfl,S5.out,F5.out⟩
end Go.Proofs.YtdgpmpccfjmmcaaGreatDoor
namespace Go.Proofs.YtdgpmpccfjmmcaaGreatDoor
mutual
def P.lq:P→Prop
 | .v _ => True
 | .i n => I64 n
 | .a s => nameOk (ba s)
 | .c s l => nameOk (ba s)∧l≠[]∧lqs l
def lqs:List P→Prop
 | [] => True
 | p ::l => p.lq∧lqs l
end
theorem lqs_iff:∀ l:List P,lqs l↔∀ x ∈ l,x.lq
 | [] => by simp [lqs]
 | p ::l => by rw [lqs,lqs_iff l];simp
theorem kns_iff (n:Nat):∀ l:List P,kns n l=true↔∀ x ∈ l,kn n x=true
 | [] => by simp [kns]
 | p ::l => by rw [kns,Bool.and_eq_true,kns_iff n l];simp
theorem sizes_mem:∀ (l:List P),∀ x ∈ l,x.size≤sizesP l
 | [],x,h => by cases h
 | y ::l,x,hx => by
  rw [sizesP]
  rcases List.mem_cons.1 hx with rfl | hx
  ·omega
  ·have:=sizes_mem l x hx;omega
theorem good_t (n:Nat) (hn:n≤1000):∀ (k:Nat) (p:P),p.size≤k→p.lq→kn n p=true→p.t.good∧p.t.nodes=p.size∧allV p.t n
 | _,.v m,_,_,h => by
  simp only [kn,decide_eq_true_eq] at h
  refine ⟨⟨.inl ⟨rfl,by omega,by omega,rfl,rfl⟩,fun i hi => absurd hi (by omega)⟩,by simp [P.t,T.nodes,sumTo,P.size],fun u hu => ?_⟩
  simp only [P.t,T.hasV] at hu
  rcases hu with ⟨_,e⟩ | ⟨e,_⟩
  ·omega
  ·exact absurd e (by decide)
 | _,.i m,_,hq,_ => by
  refine ⟨⟨.inr (.inl ⟨rfl,hq,rfl,rfl⟩),fun i hi => absurd hi (by omega)⟩,by simp [P.t,T.nodes,sumTo,P.size],fun u hu => ?_⟩
  simp only [P.t,T.hasV] at hu
  rcases hu with ⟨e,_⟩ | ⟨e,_⟩ <;> exact absurd e (by decide)
 | _,.a s,_,hq,_ => by
  refine ⟨⟨.inr (.inr (.inl ⟨rfl,rfl,hq,rfl⟩)),fun i hi => absurd hi (by omega)⟩,by simp [P.t,T.nodes,sumTo,P.size],fun u hu => ?_⟩
  simp only [P.t,T.hasV] at hu
  rcases hu with ⟨e,_⟩ | ⟨e,_⟩ <;> exact absurd e (by decide)
 | 0,.c s l,h,_,_ => by simp [P.size] at h
 | k+1,.c s l,h,hq,hk => by
  simp only [P.lq] at hq
  obtain ⟨h1,h2,h3⟩:=hq
  rw [lqs_iff] at h3
  simp only [kn] at hk
  rw [kns_iff] at hk
  simp only [P.size] at h
  have each:∀ (i:Nat) (hi:i < l.length),(tsP l i).good∧(tsP l i).nodes=(l[i]).size∧allV (tsP l i) n:=fun i hi => by
   rw [ts_at l i hi]
   exact good_t n hn k _ (by have:=sizes_mem l _ (List.getElem_mem hi);omega) (h3 _ (List.getElem_mem hi)) (hk _ (List.getElem_mem hi))
  have hlen:0 < l.length:=List.length_pos_iff.2 h2
  refine ⟨⟨.inr (.inr (.inr ⟨rfl,rfl,h1,hlen⟩)),fun i hi => (each i hi).1⟩,?_,fun u hu => ?_⟩
  ·have hs:∀ (q:Nat),q≤l.length→sumTo q (fun i => (tsP l i).nodes)=sizesP (l.take q):=by
    intro q
    induction q with
    | zero => intro _;simp [sumTo,sizesP]
    | succ q ih =>
     intro hq
     rw [sumTo,ih (by omega),List.take_succ_eq_append_getElem (by omega)]
     have happ:∀ (a:List P) (x:P),sizesP (a++[x])=sizesP a+x.size:=by
      intro a x
      induction a with
      | nil => simp [sizesP]
      | cons y a ih => simp only [List.cons_append,sizesP,ih];omega
     rw [happ,(each q (by omega)).2.1]
   simp only [P.t,T.nodes,P.size]
   rw [hs _ (Nat.le_refl _),List.take_length]
  ·simp only [P.t,T.hasV] at hu
   rcases hu with ⟨e,_⟩ | ⟨_,i,hi,hu⟩
   ·exact absurd e (by decide)
   ·exact (each i hi).2.2 u hu
def LQ (L:Bp):Prop:=∀ x ∈ L,x.2.lq
theorem LQ.find {L:Bp} (h:LQ L) {n:Nat} {x:P} (hf:findP L n=some x):x.lq:=by
 induction L with
 | nil => cases hf
 | cons y L ih =>
  obtain ⟨k,z⟩:=y
  unfold findP at hf
  split at hf
  ·injection hf with hf;subst hf;exact h (k,z) List.mem_cons_self
  ·exact ih (fun x hx => h x (List.mem_cons_of_mem _ hx)) hf
theorem LQ.walkQ {L:Bp} (h:LQ L):∀ (j:Nat) (p:P),p.lq→(walkQ L j p).lq
 | 0,p,hp => hp
 | j+1,.v n,hp => by
  unfold Go.Proofs.YtdgpmpccfjmmcaaGreatDoor.walkQ
  cases hf:findP L n with
  | none => exact hp
  | some x => exact h.walkQ j x (h.find hf)
 | j+1,.i n,hp => hp
 | j+1,.a s,hp => hp
 | j+1,.c s l,hp => hp
theorem LQ.walk {L:Bp} (h:LQ L) {p:P} (hp:p.lq):(walkP L p).lq:=h.walkQ _ p hp
theorem LQ.snoc {L:Bp} (h:LQ L) (n:Nat) {p:P} (hp:p.lq):LQ (L++[(n,p)]):=fun x hx => by
 rcases List.mem_append.1 hx with hx | hx
 ·exact h x hx
 ·rw [List.mem_singleton.1 hx];exact hp
theorem LQ.take {L:Bp} (h:LQ L) (k:Nat):LQ (L.take k):=fun x hx => h x (List.mem_of_mem_take hx)
theorem uni_lq (fo:Nat):∀ (f:Nat) (L:Bp) (st:List (P × P)) (L':Bp) (f':Nat),uniP fo f L st=some (.ok L' f')→LQ L→(∀ x ∈ st,x.1.lq∧x.2.lq)→LQ L'
 | 0,L,[],L',f',h,hL,_ => by injection h with h;injection h with h;subst h;exact hL
 | 0,L,x ::st,L',f',h,_,_ => by injection h with h;cases h
 | f+1,L,[],L',f',h,hL,_ => by injection h with h;injection h with h;subst h;exact hL
 | f+1,L,(x,y) ::st,L',f',h,hL,hst => by
  unfold uniP at h
  have h0:=hst (x,y) List.mem_cons_self
  have hst':∀ x ∈ st,x.1.lq∧x.2.lq:=fun z hz => hst z (List.mem_cons_of_mem _ hz)
  have hx:=hL.walk h0.1
  have hy:=hL.walk h0.2
  simp only at h hx hy
  generalize walkP L x=a at*
  generalize walkP L y=b at*
  have same:uniP fo f L st=some (.ok L' f')→LQ L':=fun h => uni_lq fo f L st L' f' h hL hst'
  have bind:∀ (n:Nat) (q:P),q.lq→uniP fo f (L++[(n,q)]) st=some (.ok L' f')→LQ L':=fun n q hq h => uni_lq fo f _ st L' f' h (hL.snoc n hq) hst'
  have vx:∀ (n:Nat) (q:P),q.lq→(match occP L n fo q with
   | none => none
   | some true => some RP.unlike
   | some false => uniP fo f (L++[(n,q)]) st)=some (.ok L' f')→LQ L':=fun n q hq h => by
   cases ho:occP L n fo q with
   | none => rw [ho] at h;cases h
   | some b =>
    rw [ho] at h
    cases b with
    | true => injection h with h;cases h
    | false => exact bind n q hq h
  cases a with
  | v n =>
   cases b with
   | v m =>
    simp only at h
    by_cases e:n=m
    ·rw [if_pos e] at h;exact same h
    ·rw [if_neg e] at h
     by_cases e2:n < m
     ·rw [if_pos e2] at h;exact bind m _ hx h
     ·rw [if_neg e2] at h;exact bind n _ hy h
   | i m => exact vx n _ hy h
   | a m => exact vx n _ hy h
   | c s l => exact vx n _ hy h
  | i n =>
   cases b with
   | v m => exact vx m _ hx h
   | i m =>
    simp only at h
    by_cases e:n=m
    ·rw [if_pos e] at h;exact same h
    ·rw [if_neg e] at h;injection h with h;cases h
   | a m => injection h with h;cases h
   | c s l => injection h with h;cases h
  | a n =>
   cases b with
   | v m => exact vx m _ hx h
   | i m => injection h with h;cases h
   | a m =>
    simp only at h
    by_cases e:n=m
    ·rw [if_pos e] at h;exact same h
    ·rw [if_neg e] at h;injection h with h;cases h
   | c s l => injection h with h;cases h
  | c n k =>
   cases b with
   | v m => exact vx m _ hx h
   | i m => injection h with h;cases h
   | a m => injection h with h;cases h
   | c s l =>
    simp only at h
    by_cases e:n=s∧k.length=l.length
    ·rw [if_pos e] at h
     simp only [P.lq] at hx hy
     have h1:=(lqs_iff k).1 hx.2.2
     have h2:=(lqs_iff l).1 hy.2.2
     refine uni_lq fo f L _ L' f' h hL fun z hz => ?_
     rcases List.mem_append.1 hz with hz | hz
     ·obtain ⟨z1,z2⟩:=z
      exact ⟨h1 _ (List.of_mem_zip hz).1,h2 _ (List.of_mem_zip hz).2⟩
     ·exact hst' z hz
    ·rw [if_neg e] at h;injection h with h;cases h
theorem res_lq {L:Bp} (hL:LQ L):∀ (f:Nat) (p q:P),resP L f p=some q→p.lq→q.lq
 | 0,p,q,h,_ => by cases h
 | f+1,p,q,h,hp => by
  unfold resP at h
  have hw:=hL.walk hp
  generalize walkP L p=w at*
  cases w with
  | v n => obtain rfl:=Option.some.inj h;exact hw
  | i n => obtain rfl:=Option.some.inj h;exact hw
  | a n => obtain rfl:=Option.some.inj h;exact hw
  | c s l =>
   simp only at h
   obtain ⟨ys,hys,rfl⟩:=Option.map_eq_some_iff.1 h
   simp only [P.lq] at hw ⊢
   have key:∀ (l ys:List P),l.foldr (fun x r => match resP L f x,r with
    | some y,some ys => some (y ::ys)
    | _,_ => none) (some [])=some ys→(∀ x ∈ l,x.lq)→ys.length=l.length∧∀ x ∈ ys,x.lq:=by
    intro l
    induction l with
    | nil =>
     intro ys h _
     obtain rfl:=Option.some.inj h
     exact ⟨rfl,fun x hx => by cases hx⟩
    | cons x l ih =>
     intro ys h hl
     rw [List.foldr_cons] at h
     cases hx:resP L f x with
     | none => rw [hx] at h;simp at h
     | some y =>
      rw [hx] at h
      cases hr:(l.foldr (fun x r => match resP L f x,r with
       | some y,some ys => some (y ::ys)
       | _,_ => none) (some [])) with
      | none => rw [hr] at h;simp at h
      | some zs =>
       rw [hr] at h
       obtain rfl:=Option.some.inj h
       obtain ⟨h1,h2⟩:=ih zs hr fun z hz => hl z (List.mem_cons_of_mem _ hz)
       refine ⟨by simp [h1],fun z hz => ?_⟩
       rcases List.mem_cons.1 hz with rfl | hz
       ·exact res_lq hL f x z hx (hl x List.mem_cons_self)
       ·exact h2 z hz
   obtain ⟨h1,h2⟩:=key l ys hys ((lqs_iff l).1 hw.2.2)
   refine ⟨hw.1,fun e => hw.2.1 ?_,(lqs_iff ys).2 h2⟩
   rw [e] at h1
   exact List.eq_nil_of_length_eq_zero h1.symm
theorem gat_lq:∀ (f:Nat) (p:P) (gs:List P),gatP f p=some gs→p.lq→∀ g ∈ gs,g.lq
 | 0,p,gs,h,_ => by cases h
 | f+1,.v n,gs,h,hp => by
  obtain rfl:=Option.some.inj h
  intro g hg
  rw [List.mem_singleton.1 hg]
  simp only [P.lq,lqs]
  exact ⟨by decide,by simp,trivial,trivial⟩
 | f+1,.i n,gs,h,hp => by
  obtain rfl:=Option.some.inj h
  intro g hg
  rw [List.mem_singleton.1 hg];exact hp
 | f+1,.a s,gs,h,hp => by
  obtain rfl:=Option.some.inj h
  intro g hg
  split at hg
  ·cases hg
  ·rw [List.mem_singleton.1 hg];exact hp
 | f+1,.c s l,gs,h,hp => by
  unfold gatP at h
  have other:some [P.c s l]=some gs→∀ g ∈ gs,g.lq:=fun h => by
   obtain rfl:=Option.some.inj h
   intro g hg
   rw [List.mem_singleton.1 hg];exact hp
  rcases l with _ | ⟨x,_ | ⟨y,_ | ⟨z,l⟩⟩⟩
  ·cases h
  ·exact other h
  rotate_left
  ·exact other h
  ·simp only at h
   by_cases e:s=[44]
   ·rw [if_pos e] at h
    cases hx:gatP f x with
    | none => rw [hx] at h;cases h
    | some a =>
     cases hy:gatP f y with
     | none => rw [hx,hy] at h;cases h
     | some b =>
      rw [hx,hy] at h
      obtain rfl:=Option.some.inj h
      simp only [P.lq,lqs] at hp
      intro g hg
      rcases List.mem_append.1 hg with hg | hg
      ·exact gat_lq f x a hx hp.2.2.1 g hg
      ·exact gat_lq f y b hy hp.2.2.2.1 g hg
   ·rw [if_neg e] at h;exact other h
mutual
theorem map_lq (f:Nat→Nat):∀ p:P,p.lq→(mapP f p).lq
 | .v _,_ => trivial
 | .i _,h => h
 | .a _,h => h
 | .c s l,h => by
  simp only [mapP,P.lq] at h ⊢
  refine ⟨h.1,fun e => h.2.1 ?_,maps_lq f l h.2.2⟩
  cases l with
  | nil => rfl
  | cons x l => simp [mapPs] at e
theorem maps_lq (f:Nat→Nat):∀ l:List P,lqs l→lqs (mapPs f l)
 | [],_ => trivial
 | p ::l,h => by
  simp only [mapPs,lqs] at h ⊢
  exact ⟨map_lq f p h.1,maps_lq f l h.2⟩
end
theorem walk_c (L:Bp) (s:List UInt8) (l:List P):walkP L (.c s l)=.c s l:=by
 unfold walkP
 cases L.length <;> rfl
theorem szf_none (L:Bp) (most f:Nat):∀ l:List P,l.foldl (fun r x => match r with
 | none => none
 | some n => if n≤most then szP L most f n x else some n) none=none
 | [] => rfl
 | _ ::l => szf_none L most f l
theorem sz_size (L:Bp) (most:Nat):∀ (f n:Nat) (p:P) (z:Nat),szP L most f n p=some z→n+1≤z∧(z≤most→n+p.size≤z)
 | 0,n,p,z,h => by cases h
 | f+1,n,p,z,h => by
  unfold szP at h
  by_cases hm:most < n+1
  ·rw [if_pos hm] at h
   obtain rfl:=Option.some.inj h
   exact ⟨Nat.le_refl _,fun h => by omega⟩
  ·rw [if_neg hm] at h
   have key:∀ (l:List P) (n z:Nat),l.foldl (fun r x => match r with
    | none => none
    | some n => if n≤most then szP L most f n x else some n) (some n)=some z→n≤z∧(z≤most→n+sizesP l≤z):=by
    intro l
    induction l with
    | nil =>
     intro n z h
     obtain rfl:=Option.some.inj h
     exact ⟨Nat.le_refl _,fun _ => by simp [sizesP]⟩
    | cons x l ih =>
     intro n z h
     rw [List.foldl_cons] at h
     simp only at h
     by_cases hn:n≤most
     ·rw [if_pos hn] at h
      cases hx:szP L most f n x with
      | none => rw [hx,szf_none] at h;cases h
      | some y =>
       rw [hx] at h
       obtain ⟨h1,h2⟩:=ih y z h
       obtain ⟨h3,h4⟩:=sz_size L most f n x y hx
       refine ⟨by omega,fun hz => ?_⟩
       have:=h2 hz
       have:=h4 (by omega)
       simp only [sizesP]
       omega
     ·rw [if_neg hn] at h
      obtain ⟨h1,h2⟩:=ih n z h
      exact ⟨h1,fun hz => by omega⟩
   cases p with
   | c s l =>
    rw [walk_c] at h
    simp only at h
    obtain ⟨h1,h2⟩:=key l (n+1) z h
    refine ⟨h1,fun hz => ?_⟩
    have:=h2 hz
    simp only [P.size]
    omega
   | _ =>
    refine ⟨?_,fun _ => ?_⟩
    all_goals
     try simp only [P.size]
     split at h
     ·exact (key _ _ _ h).1
     ·have:=Option.some.inj h;omega
end Go.Proofs.YtdgpmpccfjmmcaaGreatDoor
namespace Go.Proofs.YtdgpmpccfjmmcaaGreatDoor
end Go.Proofs.YtdgpmpccfjmmcaaGreatDoor
namespace Go.Proofs.YtdgpmpccfjmmcaaGreatDoor
end Go.Proofs.YtdgpmpccfjmmcaaGreatDoor
namespace Go.Proofs.YtdgpmpccfjmmcaaGreatDoor
def TE:T→T→Prop
 | .nil,.nil => True
 | .mk k n s m a,.mk k' n' s' m' a' => k=k'∧n=n'∧s=s'∧m=m'∧∀ i,i < m→TE (a i) (a' i)
 | _,_ => False
theorem TE.refl:∀ t:T,TE t t
 | .nil => trivial
 | .mk _ _ _ _ a => ⟨rfl,rfl,rfl,rfl,fun i _ => TE.refl (a i)⟩
theorem TE.teq:∀ {t t':T},TE t t'→TEq t t'
 | .nil,.nil,_ => TEq.refl _
 | .nil,.mk _ _ _ _ _,h => h.elim
 | .mk _ _ _ _ _,.nil,h => h.elim
 | .mk k n s m a,.mk k' n' s' m' a',h => by
  obtain ⟨rfl,rfl,rfl,rfl,h⟩:=h
  intro w S v hv
  obtain ⟨A,c,rfl,h1,h2,h3⟩:=hv
  refine ⟨A,c,rfl,h1,h2,fun hm => ?_⟩
  obtain ⟨b,cs,f,e1,e2,e3,e4⟩:=h3 hm
  refine ⟨b,cs,f,e1,e2,e3,fun i hi => ?_⟩
  obtain ⟨v0,v1,v2,v3,g0,g1,g2,g3,g4⟩:=e4 i hi
  exact ⟨v0,v1,v2,v3,g0,g1,g2,g3,TE.teq (h i hi) w S _ g4⟩
end Go.Proofs.YtdgpmpccfjmmcaaGreatDoor
