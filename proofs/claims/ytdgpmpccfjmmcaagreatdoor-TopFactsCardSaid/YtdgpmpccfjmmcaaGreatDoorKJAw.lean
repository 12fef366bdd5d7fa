/- The program's parser:a row of terms. The program's parser:inside brackets. The iterator slices.Backward over terms:its contract. The program's parser:a list. The program's parser:alone. The program's parser:what begins with an atom. The program's parser:an operand. The program's parser:the closure of 'term' that reads an operand. The program's parser:a term:the stack of pending operators. -/
import Derived.Test.YtdgpmpccfjmmcaaGreatDoorKJAv
import Derived.Test.YtdgpmpccfjmmcaaGreatDoorKJAd
import Derived.RangeFuncNested
import Derived.RangeFuncBound
import Derived.RangeFuncCalls
import Derived.RangeFuncLeaves
import Derived.Shelf.Abstract
import Derived.Shelf.RegionOpen
import Derived.WalkKit
import Derived.OwnWalkIn
import Derived.TacticsInMore
import Derived.LoopNIn
import Derived.LoopIn
import Derived.Test.YtdgpmpccfjmmcaaGreatDoorKOrd
import Derived.Deep.RegionHeld3
import Derived.Lib.OwnKind
set_option linter.unusedVariables false
set_option linter.unusedSimpArgs false
namespace Go.Proofs.YtdgpmpccfjmmcaaGreatDoor
open Go.RowKit
def RelT (w:World) (i:Nat):T→Nat→Value→World→Prop:=fun t j v w' => TP w' (fun b => w.heap.size≤b) t v∧t.good∧i+t.nodes≤j
theorem Pd.keepT {w w':World} {c:Rdc} {i:Nat} {ns:List ByteArray} (h:Pd w c i ns) (hk:∀ (b:Nat) (cs:Array Value) (t:TypeId) (m:Nat × Nat),w.heap[b]? =some (.cells cs t m)→t≠51→w'.heap[b]? =w.heap[b]?):Pd w' c i ns:=by
 obtain ⟨ht,hf,lv,nv,nn,hr⟩:=h
 refine ⟨ht.keep fun b cs hb => hk b _ _ _ hb (by decide),hf,lv,nv,nn,(hk _ _ _ _ hr.blk (by decide)).trans hr.blk,hr.lok,own_keep hr.own fun g hg => ?_,hr.up,hr.few⟩
 rcases hr.own.2 with ⟨hv,_⟩ | ⟨g',cap,cur,hv,_,hh,_⟩
 ·rw [hv] at hg;simp [Value.ownBlock] at hg
 ·rw [hv] at hg
  simp [Value.ownBlock] at hg
  subst hg
  exact hk _ _ _ _ hh (by decide)
def leftOf (c:Rdc) (w:World):Nat:=match w.cell? ⟨c.R,1,none⟩ with | some (.slice _ n _) => n | _ => 0
theorem Pd.left_eq {w:World} {c:Rdc} {i:Nat} {ns:List ByteArray} (h:Pd w c i ns):leftOf c w=c.tn - i:=by
 obtain ⟨_,_,lv,nv,nn,hr⟩:=h
 obtain ⟨A,cc,rfl,_,_⟩:=hr.lok
 have:=hr.cells.2.1
 simp [leftOf,this]
theorem Pd.few {w:World} {c:Rdc} {i:Nat} {ns:List ByteArray} (h:Pd w c i ns):i≤c.tn∧c.tn≤1000:=⟨h.up,h.1.few⟩
structure PRowI (c:Rdc) (w:World) (i:Nat) (v:Value) (wr:World) (j:Nat) (n g cap:Nat) (cs:Array Value) (ts:Nat→T) (ns:List ByteArray):Prop where
 hv:v=.slice (some ⟨g,0,none⟩) n cap
 hn:0 < n
 hcap:n≤cap
 hmax:cap≤maxLen
 hsz:cs.size=cap*4
 blk:wr.heap[g]? =some (.cells cs 51 (0,0))
 hg:w.heap.size≤g
 tp:Cells4 wr (fun b => w.heap.size≤b∧b≠g) cs n ts
 rd:Pd wr c j ns
 fr:Frp c w wr
 lo:i≤j
 few:n≤1+(j - i)
 ok:(∀ k,k < n→(ts k).good)∧i+(sumTo n fun k => (ts k).nodes)+(n - 1)≤j
theorem PRowI.own {c:Rdc} {w wr:World} {i j n g cap:Nat} {v:Value} {cs:Array Value} {ts:Nat→T} {ns:List ByteArray} (h:PRowI c w i v wr j n g cap cs ts ns):wr.ownsRow w.heap.size 51 4 v n (cs.toList.take (n*4)):=
 ⟨by have:=h.hsz;have:=h.hcap;simp;omega,.inr ⟨g,cap,cs,h.hv,h.hg,h.blk,h.hcap,h.hmax,h.hsz,rfl⟩⟩
theorem PRowI.stand {c:Rdc} {w wr w1:World} {i j n g cap j1:Nat} {v:Value} {cs:Array Value} {ts:Nat→T} {ns:List ByteArray} (h:PRowI c w i v wr j n g cap cs ts ns) {ns1:List ByteArray} (hf:Frp c wr w1) (hr:Pd w1 c j1 ns1) (hj:j≤j1) :
 PRowI c w i v w1 j1 n g cap cs ts ns1:=
 ⟨h.hv,h.hn,h.hcap,h.hmax,h.hsz,hf.boxp h.rd h.blk (by decide) (by decide),h.hg,fun k hk => by
  obtain ⟨v0,v1,v2,v3,h0,h1,h2,h3,ht⟩:=h.tp k hk
  exact ⟨v0,v1,v2,v3,h0,h1,h2,h3,ht.frp hf h.rd⟩,hr,h.fr.trans hf,Nat.le_trans h.lo hj,by have:=h.few;omega,h.ok.1,Nat.le_trans h.ok.2 hj⟩
theorem PRowI.push {c:Rdc} {w wr w1 w2:World} {i j n g cap g' cap':Nat} {v:Value} {cs:Array Value} {ts:Nat→T} {t:T} {a0 a1 a2 a3:Value} {ns:List ByteArray} (h:PRowI c w i v wr j n g cap cs ts ns)
 (hb:Below wr.heap.size wr w1) (ht:TP wr (fun b => w.heap.size≤b∧b≠g) t (.agg #[a0,a1,a2,a3])) (hok:t.good∧i+(sumTo n fun k => (ts k).nodes)+n+t.nodes≤j) (hfew:n+1≤1+(j - i))
 (hown:w2.ownsRow w.heap.size 51 4 (.slice (some ⟨g',0,none⟩) (n+1) cap') (n+1) (cs.toList.take (n*4)++[a0,a1,a2,a3])) (hg:w1.grownBy w2 v.ownBlock) (hat:v.ownBlock=some g'∨g'=w1.heap.size) (hB:c.B≤w.heap.size) :
 ∃ cs',PRowI c w i (.slice (some ⟨g',0,none⟩) (n+1) cap') w2 j (n+1) g' cap' cs' (snocT n ts t) ns:=by
 have hv:=h.hv
 subst hv
 rcases hown.2 with ⟨he,_⟩ | ⟨g2,cap2,cs',he,hgg,hh,hnc,hmx,hs2,htk⟩
 ·cases he
 injection he with he _ hcc
 injection he with he
 injection he with he _ _
 subst he hcc
 have hgw:g < wr.heap.size:=heap_lt h.blk
 have hgw1:g < w1.heap.size:=Nat.lt_of_lt_of_le hgw hb.size
 have hg':g'=g∨g'=w1.heap.size:=by
  rcases hat with hat | hat
  ·left;simpa [Value.ownBlock] using hat.symm
  ·exact .inr hat
 have hsz:=h.hsz
 have hcap:=h.hcap
 have keep:∀ (b:Nat),b < w1.heap.size→b≠g→w2.heap[b]? =w1.heap[b]?:=fun b hb1 hb2 => hg.block b hb1 (by simp [Value.ownBlock];exact hb2)
 have cell:∀ k,k < n*4→cs'[k]? =cs[k]?:=fun k hk => by
  have h1:(cs'.toList.take ((n+1)*4))[k]? =(cs.toList.take (n*4)++[a0,a1,a2,a3])[k]?:=by rw [htk]
  rw [List.getElem?_take,if_pos (by omega),List.getElem?_append_left (by simp;omega),List.getElem?_take,if_pos hk] at h1
  rwa [Array.getElem?_toList,Array.getElem?_toList] at h1
 have celln:∀ k,k < 4→cs'[4*n+k]? =[a0,a1,a2,a3][k]?:=fun k hk => by
  have h1:(cs'.toList.take ((n+1)*4))[4*n+k]? =(cs.toList.take (n*4)++[a0,a1,a2,a3])[4*n+k]?:=by rw [htk]
  have hl:(cs.toList.take (n*4)).length=4*n:=by simp;omega
  rw [List.getElem?_take,if_pos (by omega),List.getElem?_append_right (by omega),hl] at h1
  rw [Array.getElem?_toList] at h1
  rw [h1]
  congr 1
  omega
 have hblk1:w1.heap[g]? =some (.cells cs 51 (0,0)):=(hb.block g hgw).trans h.blk
 have move:∀ {t:T} {x:Value},TP wr (fun b => w.heap.size≤b∧b≠g) t x→TP w2 (fun b => w.heap.size≤b∧b≠g') t x:=fun ht => ht.keep fun b' cs1 f1 hS hb' => by
  have hl:=heap_lt hb'
  have hl1:=Nat.lt_of_lt_of_le hl hb.size
  refine ⟨((keep b' hl1 hS.2).trans (hb.block b' hl)).trans hb',hS.1,?_⟩
  rcases hg' with e | e
  ·rw [e];exact hS.2
  ·omega
 refine ⟨cs',rfl,by omega,hnc,hmx,hs2,hh,hgg,fun k hk => ?_,?_,?_,h.lo,hfew,?_⟩
 ·by_cases hkn:k=n
  ·subst hkn
   have hs:snocT k ts t k=t:=by simp [snocT]
   rw [hs]
   exact ⟨a0,a1,a2,a3,celln 0 (by omega),celln 1 (by omega),celln 2 (by omega),celln 3 (by omega),move ht⟩
  ·have hs:snocT n ts t k=ts k:=by simp [snocT,hkn]
   obtain ⟨v0,v1,v2,v3,h0,h1,h2,h3,ht'⟩:=h.tp k (by omega)
   rw [hs]
   exact ⟨v0,v1,v2,v3,(cell _ (by omega)).trans h0,(cell _ (by omega)).trans h1,(cell _ (by omega)).trans h2,(cell _ (by omega)).trans h3,move ht'⟩
 ·refine (h.rd.below hb).keepT fun b' cs1 t1 m1 hb' ht1 => keep b' (heap_lt hb') ?_
  rintro rfl
  rw [hblk1] at hb'
  injection hb' with hb'
  injection hb' with _ hb'
  exact ht1 hb'.symm
 ·have hf1:=h.fr.trans (Frp.of_below hb h.rd.base)
  have hgl:=h.hg
  refine ⟨hf1.low.grown hg (Nat.le_trans hB hf1.size) (by simp [Value.ownBlock];omega),fun b' cs1 t1 m1 hb' hR ht1 => ?_⟩
  have hl:=heap_lt hb'
  exact (keep b' (Nat.lt_of_lt_of_le hl hf1.size) (by omega)).trans (hf1.keep b' cs1 t1 m1 hb' hR ht1)
 ·obtain ⟨h1,h2⟩:=h.ok
  obtain ⟨hg1,hs1⟩:=hok
  refine ⟨fun k hk => ?_,?_⟩
  ·by_cases hkn:k=n
   ·subst hkn;simpa [snocT] using hg1
   ·simpa [snocT,hkn] using h1 k (by omega)
  ·have e1:(sumTo n fun k => (snocT n ts t k).nodes)=sumTo n fun k => (ts k).nodes:=sumTo_congr _ _ _ fun k hk => by simp [snocT,show k≠n by omega]
   have e2:(snocT n ts t n).nodes=t.nodes:=by simp [snocT]
   simp only [sumTo,e1,e2]
   omega
def RelRow (w:World) (i:Nat):List T→Nat→Value→World→Prop:=fun l j v w' => ∃ g cs f,v=.slice (some ⟨g,0,none⟩) l.length l.length∧0 < l.length∧l.length≤1+(j - i)∧w.heap.size≤g∧w'.heap[g]? =some (.cells cs 51 f)∧
 Cells4 w' (fun b => w.heap.size≤b∧b≠g) cs l.length (fun k => l.getD k .nil)∧(∀ k,k < l.length→(l.getD k .nil).good)∧i+(sumTo l.length fun k => (l.getD k .nil).nodes)+(l.length - 1)≤j
set_option maxRecDepth 100000 in
theorem clip_any {g n cap:Nat} (hn:0 < n) (hc:n≤cap) (w:World):Calls Tryz.prog 302 #[.slice (some ⟨g,0,none⟩) n cap] w fun e w' => e=.returned (.slice (some ⟨g,0,none⟩) n n)∧w'=w:=by
 go_enter Tryz.func302,Tryz.ntmps302
 go_wp2_with fail
 go_ret
 exact ⟨rfl,rfl⟩
end Go.Proofs.YtdgpmpccfjmmcaaGreatDoor
namespace Go.Proofs.YtdgpmpccfjmmcaaGreatDoor
open Go.RowKit
theorem Pd.putT {c:Rdc} {w:World} {i:Nat} {ns:List ByteArray} (h:Pd w c i ns) {g:Nat} {m:Nat × Nat} {u0 u1 u2 u3:Value} (hb:w.heap[g]? =some (.cells #[u0,u1,u2,u3] 51 m)) (x0 x1 x2 x3:Value) :
 Pd ((((w.setCell ⟨g,0,none⟩ x0).setCell ⟨g,1,none⟩ x1).setCell ⟨g,2,none⟩ x2).setCell ⟨g,3,none⟩ x3) c i ns:=by
 have h1:=h.set_far hb 0 x0 (by decide) (by decide) (by decide)
 have b1:=blk_set hb 0 x0
 have h2:=h1.set_far b1 1 x1 (by decide) (by decide) (by decide)
 have b2:=blk_set b1 1 x1
 have h3:=h2.set_far b2 2 x2 (by decide) (by decide) (by decide)
 have b3:=blk_set b2 2 x2
 exact h3.set_far b3 3 x3 (by decide) (by decide) (by decide)
theorem Frp.put {c:Rdc} {w0 w:World} (h:Frp c w0 w) {g:Nat} (hg:w0.heap.size≤g) (hB:c.B≤w0.heap.size) {t:TypeId} {m:Nat × Nat} {u0 u1 u2 u3:Value} (hb:w.heap[g]? =some (.cells #[u0,u1,u2,u3] t m)) (x0 x1 x2 x3:Value) :
 Frp c w0 ((((w.setCell ⟨g,0,none⟩ x0).setCell ⟨g,1,none⟩ x1).setCell ⟨g,2,none⟩ x2).setCell ⟨g,3,none⟩ x3):=by
 obtain ⟨_,_,p2,p3⟩:=box_put4 hb x0 x1 x2 x3 rfl
 exact ⟨p3 _ _ (by omega) h.low,fun b cs t' m' hb' hR ht => (p2 b (by have:=heap_lt hb';omega)).trans (h.keep b cs t' m' hb' hR ht)⟩
theorem ret_boxp {c:Rdc} {w wk:World} {i j:Nat} {ns':List ByteArray} {res:PR T} {t:T} {g:Nat} {m:Nat × Nat} {u0 u1 u2 u3 x0 x1 x2 x3:Value} (H:Pd wk c j ns') (F:Frp c w wk) (hB:c.B≤w.heap.size)
 (hbx:wk.heap[g]? =some (.cells #[u0,u1,u2,u3] 51 m)) (hg:w.heap.size≤g) (ht:TP wk (fun b => w.heap.size≤b∧b≠g) t (.agg #[x0,x1,x2,x3])) (hj:i≤j) (hgd:t.good) (hnd:i+t.nodes≤j) (hres:res=.ok (t,j,ns')) :
 PQ c w i res (RelT w i) (.returned (.agg #[x0,x1,x2,x3])) ((((wk.setCell ⟨g,0,none⟩ x0).setCell ⟨g,1,none⟩ x1).setCell ⟨g,2,none⟩ x2).setCell ⟨g,3,none⟩ x3):=by
 subst hres
 exact ⟨F.put hg hB hbx _ _ _ _,_,rfl,H.putT hbx _ _ _ _,hj,(tp_put hbx _ _ _ _ ht fun _ hb => hb.2).more fun _ hb => hb.1,hgd,hnd⟩
end Go.Proofs.YtdgpmpccfjmmcaaGreatDoor
namespace Go.Proofs.YtdgpmpccfjmmcaaGreatDoor
open Go.RowKit Go.Shelf
attribute [local go_sem] Oper.semAt_some
def Kb1 (n1 rb:Nat) (W W':World):Prop:=∀ b,b < n1→b≠rb→W'.heap[b]? =W.heap[b]?
theorem Kb1.refl (n1 rb:Nat) (W:World):Kb1 n1 rb W W:=fun _ _ _ => rfl
theorem Kb1.trans {n1 rb:Nat} {A B C:World} (h:Kb1 n1 rb A B) (k:Kb1 n1 rb B C):Kb1 n1 rb A C:=fun b h1 h2 => (k b h1 h2).trans (h b h1 h2)
def valAt (cs:Array Value) (i:Nat):Value:=.agg #[cs.getD (4*i) undef,cs.getD (4*i+1) undef,cs.getD (4*i+2) undef,cs.getD (4*i+3) undef]
def downL:Nat→List Nat
 | 0 => []
 | i+1 => i ::downL i
def cameL (nn i:Nat):List Nat:=(downL nn).take (nn - i)
theorem down_len:∀ n,(downL n).length=n
 | 0 => rfl
 | n+1 => by simp [downL,down_len n]
theorem down_get:∀ (n k:Nat),k < n→(downL n)[k]? =some (n - 1 - k)
 | 0,k,h => absurd h (by omega)
 | n+1,0,_ => by simp [downL]
 | n+1,k+1,h => by
  rw [downL,List.getElem?_cons_succ,down_get n k (by omega)]
  congr 1
  omega
theorem came_step {nn i:Nat} (h:i < nn):cameL nn i=cameL nn (i+1)++[i]:=by
 unfold cameL
 rw [show nn - i=(nn - (i+1))+1 by omega,List.take_add_one,down_get nn (nn - (i+1)) (by omega)]
 congr 2
 simp
 omega
theorem came_end (nn:Nat):cameL nn 0=downL nn:=by
 unfold cameL
 rw [List.take_of_length_le]
 rw [down_len];omega
theorem came_start (nn:Nat):cameL nn nn=[]:=by simp [cameL]
end Go.Proofs.YtdgpmpccfjmmcaaGreatDoor
namespace Go.Proofs.YtdgpmpccfjmmcaaGreatDoor
open Go.RowKit Go.Shelf
attribute [local go_sem] Oper.semAt_some
theorem key_grown {W W':World} {row:Option Nat} (hg:W.grownBy W' row) (hr:∀ q,row=some q→∃ o:Obj,W.heap[q]? =some o∧o.isCells=false) (b:Nat) (cs:Array Value) (t:TypeId) (m:Nat × Nat) (hb:W.heap[b]? =some (.cells cs t m)):W'.heap[b]? =some (.cells cs t m):=by
 refine (hg.block b (heap_lt hb) fun e => ?_).trans hb
 obtain ⟨o,ho,hc⟩:=hr b e.symm
 rw [hb] at ho
 injection ho with ho
 subst ho
 cases hc
theorem Pd.key {c:Rdc} {W W':World} {j:Nat} {ns:List ByteArray} (h:Pd W c j ns) (key:∀ (b:Nat) (cs:Array Value) (t:TypeId) (m:Nat × Nat),W.heap[b]? =some (.cells cs t m)→W'.heap[b]? =some (.cells cs t m)):Pd W' c j ns:=by
 obtain ⟨ht,hf,lv,nv,nn,hrw⟩:=h
 refine ⟨ht.keep fun b cs hb => (key b cs _ _ hb).trans hb.symm,hf,lv,nv,nn,key _ _ _ _ hrw.blk,hrw.lok,own_keep hrw.own fun q hq => ?_,hrw.up,hrw.few⟩
 rcases hrw.own.2 with ⟨hv,_⟩ | ⟨g',cap,cur,hv,_,hh,_⟩
 ·rw [hv] at hq;simp [Value.ownBlock] at hq
 ·rw [hv] at hq
  simp [Value.ownBlock] at hq
  subst hq
  exact (key _ _ _ _ hh).trans hh.symm
theorem TP.key {W W':World} {S:Nat→Prop} {t:T} {v:Value} (h:TP W S t v) (key:∀ (b:Nat) (cs:Array Value) (t:TypeId) (m:Nat × Nat),W.heap[b]? =some (.cells cs t m)→W'.heap[b]? =some (.cells cs t m)):TP W' S t v:=h.keep fun b cs f hS hb => ⟨key b cs _ f hb,hS⟩
theorem Frp.key {c:Rdc} {w W W':World} {row:Option Nat} (h:Frp c w W) (hB:c.B≤w.heap.size) (hg:W.grownBy W' row) (hr:∀ q,row=some q→w.heap.size≤q∧∃ o:Obj,W.heap[q]? =some o∧o.isCells=false):Frp c w W':=
 ⟨h.low.grown hg (Nat.le_trans hB h.size) fun k e => Nat.le_trans hB (hr k e).1,fun b cs t m hb h1 h2 => key_grown hg (fun q e => (hr q e).2) b cs t m (h.keep b cs t m hb h1 h2)⟩
theorem PQ.put {c:Rdc} {w W:World} {i i0 D:Nat} {res:PR T} {e:Ending} (h:PQ c w i res (RelT w i0) e W) (hB:c.B≤w.heap.size) {o o':Obj} (hD:w.heap.size≤D) (ho:W.heap[D]? =some o) (hc:o.isCells=false):PQ c w i res (RelT w i0) e (W.putObj D o'):=by
 have hg:=grownBy_putObj' W D o'
 have hr:∀ q,some D=some q→w.heap.size≤q∧∃ o:Obj,W.heap[q]? =some o∧o.isCells=false:=fun q e => by cases e;exact ⟨hD,o,ho,hc⟩
 have key:=key_grown hg fun q e => (hr q e).2
 obtain ⟨f,h⟩:=h
 refine ⟨f.key hB hg hr,?_⟩
 cases res with
 | error pk => exact h
 | ok y =>
  obtain ⟨v,h1,h2,h3,h4,h5⟩:=h
  exact ⟨v,h1,h2.key key,h3,h4.key key,h5⟩
theorem retMD {F:Fence} {n:Nat} {P:Program} {fn:Func} {R:Ending→World→Prop} {a:Act} {w:World} {v:Value} {D:Nat} (hK:w.heap[D]? =some (.deferred (some []))) (hr:(results fn a.tmps).run P (w.putObj D (.deferred none))=.ok v (w.putObj D (.deferred none))) (hd:a.defers=[{target:=.collected D,args:=#[]}]) (hR:R (.returned v) (w.putObj D (.deferred none))):bodyPostM F n P fn R .ret a w:=by
 show LeavesInM F n P fn a.tmps R a.defers .returning w
 rw [hd]
 exact ⟨by simp,.inl ⟨_,_,rfl,run_takeDeferred hK,⟨v,hr,hR⟩⟩⟩
end Go.Proofs.YtdgpmpccfjmmcaaGreatDoor
namespace Go.Proofs.YtdgpmpccfjmmcaaGreatDoor
open Go.RowKit
end Go.Proofs.YtdgpmpccfjmmcaaGreatDoor
namespace Go.Proofs.YtdgpmpccfjmmcaaGreatDoor
open Go.RowKit
def RelT2 (w:World) (i:Nat):T × Int→Nat→Value→World→Prop:=fun x j v w' => ∃ tv,v=.tuple #[tv,.int .i64 x.2]∧RelT w i x.1 j tv w'
theorem ret_box2 {c:Rdc} {w wk:World} {i0 i j:Nat} {ns':List ByteArray} {res:PR (T × Int)} {t:T} {pr:Int} {g:Nat} {m:Nat × Nat} {u0 u1 u2 u3 x0 x1 x2 x3:Value} (H:Pd wk c j ns') (F:Frp c w wk) (hB:c.B≤w.heap.size)
 (hbx:wk.heap[g]? =some (.cells #[u0,u1,u2,u3] 51 m)) (hg:w.heap.size≤g) (ht:TP wk (fun b => w.heap.size≤b∧b≠g) t (.agg #[x0,x1,x2,x3])) (hj:i≤j) (hgd:t.good) (hnd:i0+t.nodes≤j) (hres:res=.ok ((t,pr),j,ns')) :
 PQ c w i res (RelT2 w i0) (.returned (.tuple #[.agg #[x0,x1,x2,x3],.int .i64 pr])) ((((wk.setCell ⟨g,0,none⟩ x0).setCell ⟨g,1,none⟩ x1).setCell ⟨g,2,none⟩ x2).setCell ⟨g,3,none⟩ x3):=by
 subst hres
 exact ⟨F.put hg hB hbx _ _ _ _,_,rfl,H.putT hbx _ _ _ _,hj,_,rfl,(tp_put hbx _ _ _ _ ht fun _ hb => hb.2).more fun _ hb => hb.1,hgd,hnd⟩
theorem pcmp_good {nm:ByteArray} (h:nameOk nm) {l:List T} (h0:0 < l.length) (hl:∀ k,k < l.length→(l.getD k .nil).good):(cmpT nm l).good:=⟨.inr (.inr (.inr ⟨rfl,rfl,h,h0⟩)),hl⟩
theorem pcmp_nodes (nm:ByteArray) (l:List T):(cmpT nm l).nodes=1+sumTo l.length fun k => (l.getD k .nil).nodes:=rfl
theorem nx_fine {w:World} {c:Rdc} {j:Nat} {ns:List ByteArray} (h:Pd w c j ns) (hk:(nx c j).k≠0):(nx c j).fine∧(nx c j).t.size≤4096:=by
 have hlt:=nx_ltp h hk
 have hl:=h.1.len
 have e:nx c j=c.tk[j]'(by omega):=by unfold nx nxT;rw [dif_pos (by omega)]
 exact ⟨by rw [e];exact h.2.1 _ (List.getElem_mem _),(nx_sizep h).1⟩
end Go.Proofs.YtdgpmpccfjmmcaaGreatDoor
namespace Go.Proofs.YtdgpmpccfjmmcaaGreatDoor
open Go.RowKit
theorem fld_tok1 (a b d:Value) (s:ByteArray) (W:World):(Instr.field 116 (.agg #[a,.string s,b,d]) 1).run Tryz.prog W=.ok (.string s) W:=by kernel_rfl
theorem var_lt0 {x:ByteArray}:∀ (ns:List ByteArray) (i r:Nat),varI x ns i=some r→r < i+ns.length
 | [],_,_,h => by cases h
 | y ::ns,i,r,h => by
  unfold varI at h
  split at h
  ·injection h with h;subst h;simp
  ·have:=var_lt0 ns (i+1) r h
   simp only [List.length_cons]
   omega
theorem var_lt (x:ByteArray) (ns:List ByteArray):(varN x ns).1 < (varN x ns).2.length:=by
 unfold varN
 cases h:varI x ns 0 with
 | none => simp
 | some r => have:=var_lt0 ns 0 r h;simpa using this
section
variable {tk:List Tk} {sz:Nat} {tm:Int→Nat→List ByteArray→PR T} {most:Int} {i:Nat} {ns:List ByteArray} {x:Tk}
end
end Go.Proofs.YtdgpmpccfjmmcaaGreatDoor
namespace Go.Proofs.YtdgpmpccfjmmcaaGreatDoor
open Go.RowKit
structure Cb (w:World) (c:Rdc) (d5 s7 r3 m4:Nat) (D most:Int) (sv:Value):Prop where
 hd:w.heap[d5]? =some (.cells #[.int .i64 D] 3 (0,0))
 hs:w.heap[s7]? =some (.cells #[sv] 201 (0,0))
 hr:w.heap[r3]? =some (.cells #[.pointer (some ⟨c.R,0,none⟩)] 102 (0,0))
 hm:w.heap[m4]? =some (.cells #[.int .i64 most] 3 (0,0))
theorem Cb.fr {w w':World} {c:Rdc} {d5 s7 r3 m4:Nat} {D most:Int} {sv:Value} {j:Nat} {ns:List ByteArray} (h:Cb w c d5 s7 r3 m4 D most sv) (f:Frp c w w') (hp:Pd w c j ns):Cb w' c d5 s7 r3 m4 D most sv:=
 ⟨f.boxp hp h.hd (by decide) (by decide),f.boxp hp h.hs (by decide) (by decide),f.boxp hp h.hr (by decide) (by decide),f.boxp hp h.hm (by decide) (by decide)⟩
theorem Cb.cells {w:World} {c:Rdc} {d5 s7 r3 m4:Nat} {D most:Int} {sv:Value} (h:Cb w c d5 s7 r3 m4 D most sv):w.cell? ⟨d5,0,none⟩=some (.int .i64 D)∧w.cell? ⟨s7,0,none⟩=some sv∧w.cell? ⟨r3,0,none⟩=some (.pointer (some ⟨c.R,0,none⟩))∧w.cell? ⟨m4,0,none⟩=some (.int .i64 most):=
 ⟨cell_of_row _ _ 0 _ _ _ h.hd,cell_of_row _ _ 0 _ _ _ h.hs,cell_of_row _ _ 0 _ _ _ h.hr,cell_of_row _ _ 0 _ _ _ h.hm⟩
theorem Cb.lt {w:World} {c:Rdc} {d5 s7 r3 m4:Nat} {D most:Int} {sv:Value} (h:Cb w c d5 s7 r3 m4 D most sv):d5 < w.heap.size∧s7 < w.heap.size∧r3 < w.heap.size∧m4 < w.heap.size:=⟨heap_lt h.hd,heap_lt h.hs,heap_lt h.hr,heap_lt h.hm⟩
end Go.Proofs.YtdgpmpccfjmmcaaGreatDoor
namespace Go.Proofs.YtdgpmpccfjmmcaaGreatDoor
open Go.RowKit
structure PE where
 nm:ByteArray
 lt:T
 k0:Int
 k1:Int
 k2:ByteArray
 ka:Option Addr
 km:Nat
 kc:Nat
 p:Int
 outer:Int
 f:Nat
def PE.cells (e:PE):List Value:=[.string e.nm,.int .i64 e.k0,.int .i64 e.k1,.string e.k2,.slice e.ka e.km e.kc,.int .i64 e.p,.int .i64 e.outer]
def stCells:List PE→List Value
 | [] => []
 | e ::S => stCells S++e.cells
theorem own_fr {c:Rdc} {w w':World} {j:Nat} {ns:List ByteArray} (h:Frp c w w') (hr:Pd w c j ns) {B k n:Nat} {t:TypeId} {v:Value} {xs:List Value} (ho:w.ownsRow B t k v n xs) (h1:t≠9) (h2:t≠104):w'.ownsRow B t k v n xs:=
 own_keep ho fun g hg => by
  obtain ⟨cs,f,hh⟩:=Go.Lib.ownsRow_kind ho g hg
  exact (h.boxp hr hh h1 h2).trans hh.symm
structure TmM (c:Rdc) (w W:World) (D j:Nat) (S:List PE) (t:T) (a0 a1:Int) (a2:ByteArray) (a3:Option Addr) (a4 a5:Nat) (most:Int) (ns:List ByteArray) (sA:Option Addr) (cc tb:Nat):Prop where
 cb:Cb W c (w.heap.size+1+1) (w.heap.size+1+1+1+1) w.heap.size (w.heap.size+1) (D:Int) most (.slice sA S.length cc)
 res:W.heap[w.heap.size+1+1+1]? =some (.cells #[.int .i64 0,.int .i64 0,.string ⟨#[]⟩,.slice none 0 0] 51 (0,0))
 tbox:W.heap[tb]? =some (.cells #[.int .i64 a0,.int .i64 a1,.string a2,.slice a3 a4 a5] 51 (0,0))
 htb:w.heap.size+5≤tb
 ht:TP W (fun q => w.heap.size+5≤q∧q≠tb) t (.agg #[.int .i64 a0,.int .i64 a1,.string a2,.slice a3 a4 a5])
 row:W.ownsRow (w.heap.size+5) 208 7 (.slice sA S.length cc) S.length (stCells S)
 st:∀ e ∈ S,TP W (fun q => w.heap.size+5≤q∧q≠tb) e.lt (.agg #[.int .i64 e.k0,.int .i64 e.k1,.string e.k2,.slice e.ka e.km e.kc])
 rd:Pd W c j ns
 fr:Frp c w W
theorem TmM.stand {c:Rdc} {w W W1:World} {D j j1:Nat} {S:List PE} {t:T} {a0 a1:Int} {a2:ByteArray} {a3:Option Addr} {a4 a5:Nat} {most:Int} {ns ns1:List ByteArray} {sA:Option Addr} {cc tb:Nat} (h:TmM c w W D j S t a0 a1 a2 a3 a4 a5 most ns sA cc tb)
 (f:Frp c W W1) (hr:Pd W1 c j1 ns1):TmM c w W1 D j1 S t a0 a1 a2 a3 a4 a5 most ns1 sA cc tb:=
 ⟨h.cb.fr f h.rd,f.boxp h.rd h.res (by decide) (by decide),f.boxp h.rd h.tbox (by decide) (by decide),h.htb,h.ht.frp f h.rd,own_fr f h.rd h.row (by decide) (by decide),fun e he => (h.st e he).frp f h.rd,hr,h.fr.trans f⟩
theorem heap_ne {w:World} {a b:Nat} {cs cs':Array Value} {t t':TypeId} {m m':Nat × Nat} (h:w.heap[a]? =some (.cells cs t m)) (h':w.heap[b]? =some (.cells cs' t' m')) (hn:t≠t'):a≠b:=by
 rintro rfl
 rw [h] at h'
 injection h' with h'
 injection h' with _ h'
 exact hn h'
theorem five_boxes (w W5:World) (v0 v1 v2 v4:Value) (z0 z1 z2 z3:Value) {t0 t1 t2 t3 t4:TypeId} (h:(((((w.alloc (Obj.cells #[v0] t0)).alloc (Obj.cells #[v1] t1)).alloc (Obj.cells #[v2] t2)).alloc (Obj.cells #[z0,z1,z2,z3] t3)).alloc (Obj.cells #[v4] t4))=W5) :
 W5.heap.size=w.heap.size+5∧W5.heap[w.heap.size]? =some (.cells #[v0] t0 (0,0))∧W5.heap[w.heap.size+1]? =some (.cells #[v1] t1 (0,0))∧W5.heap[w.heap.size+1+1]? =some (.cells #[v2] t2 (0,0))∧W5.heap[w.heap.size+1+1+1]? =some (.cells #[z0,z1,z2,z3] t3 (0,0))∧W5.heap[w.heap.size+1+1+1+1]? =some (.cells #[v4] t4 (0,0))∧Below w.heap.size w W5:=by
 subst h
 have st:∀ (u:World) (o o':Obj) (g:Nat),u.heap[g]? =some o'→(u.alloc o).heap[g]? =some o':=fun u o o' g h => (Below.heap_alloc _ _ _ (heap_lt h)).trans h
 have nw:∀ (u:World) (o:Obj) (g:Nat),g=u.heap.size→(u.alloc o).heap[g]? =some o:=fun u o g h => heap_at u o h
 exact ⟨by simp,st _ _ _ _ (st _ _ _ _ (st _ _ _ _ (st _ _ _ _ (nw _ _ _ rfl)))),st _ _ _ _ (st _ _ _ _ (st _ _ _ _ (nw _ _ _ (by simp)))),st _ _ _ _ (st _ _ _ _ (nw _ _ _ (by simp))),st _ _ _ _ (nw _ _ _ (by simp)),nw _ _ _ (by simp),belP (belP (belP (belP (belP (Below.refl _ _) _) _) _) _) _⟩
theorem TmM.put {c:Rdc} {w W:World} {D j:Nat} {S:List PE} {t t':T} {a0 a1 b0 b1:Int} {a2 b2:ByteArray} {a3 b3:Option Addr} {a4 a5 b4 b5:Nat} {most:Int} {ns:List ByteArray} {sA:Option Addr} {cc tb:Nat} (h:TmM c w W D j S t a0 a1 a2 a3 a4 a5 most ns sA cc tb) (hB:c.B≤w.heap.size)
 (ht:TP W (fun q => w.heap.size+5≤q∧q≠tb) t' (.agg #[.int .i64 b0,.int .i64 b1,.string b2,.slice b3 b4 b5])) :
 TmM c w ((((W.setCell ⟨tb,0,none⟩ (.int .i64 b0)).setCell ⟨tb,1,none⟩ (.int .i64 b1)).setCell ⟨tb,2,none⟩ (.string b2)).setCell ⟨tb,3,none⟩ (.slice b3 b4 b5)) D j S t' b0 b1 b2 b3 b4 b5 most ns sA cc tb:=by
 have htb:=h.htb
 obtain ⟨P0,P1,P2,P3⟩:=box_put4 h.tbox (.int .i64 b0) (.int .i64 b1) (.string b2) (.slice b3 b4 b5) rfl
 refine ⟨⟨(P2 _ (by omega)).trans h.cb.hd,(P2 _ (by omega)).trans h.cb.hs,(P2 _ (by omega)).trans h.cb.hr,(P2 _ (by omega)).trans h.cb.hm⟩,(P2 _ (by omega)).trans h.res,P0,htb,tp_put h.tbox _ _ _ _ ht fun b hb => hb.2,own_keep h.row fun q hq => ?_,fun e he => tp_put h.tbox _ _ _ _ (h.st e he) fun b hb => hb.2,h.rd.putT h.tbox _ _ _ _,h.fr.put (by omega) hB h.tbox _ _ _ _⟩
 obtain ⟨cs,f,hh⟩:=Go.Lib.ownsRow_kind h.row q hq
 exact P2 q (heap_ne hh h.tbox (by decide))
end Go.Proofs.YtdgpmpccfjmmcaaGreatDoor
