/- The iterator slices.Backward over frames;frames put ahead of others. Frames put ahead of others. The machine's walks:settling,waking (nothing waits,nothing is constrained),cutting. The program's lexer:the deferred closure of Tokens,which recovers. -/
import Derived.Test.YtdgpmpccfjmmcaaGreatDoorKJAq
import Derived.Test.YtdgpmpccfjmmcaaGreatDoorKJAw
import Derived.Test.YtdgpmpccfjmmcaaGreatDoorKJAr
import Derived.Test.YtdgpmpccfjmmcaaGreatDoorKJAj
import Derived.Test.YtdgpmpccfjmmcaaGreatDoorKJAz
import Derived.Test.YtdgpmpccfjmmcaaGreatDoorKJAs
import Derived.Deep.DeepCutAuto
import Derived.Test.YtdgpmpccfjmmcaaGreatDoorKLp4
import Derived.Tactics2
import Derived.Defers
import Derived.Recover
import Derived.Laws.Pointers
set_option linter.unusedVariables false
set_option linter.unusedSimpArgs false
namespace Go.Proofs.YtdgpmpccfjmmcaaGreatDoor
open Go.RowKit Go.Shelf
attribute [local go_sem] Oper.semAt_some
def val7 (cs:Array Value) (i:Nat):Value:=.agg #[cs.getD (7*i) undef,cs.getD (7*i+1) undef,cs.getD (7*i+2) undef,cs.getD (7*i+3) undef,cs.getD (7*i+4) undef,cs.getD (7*i+5) undef,cs.getD (7*i+6) undef]
def encF {nn:Nat} (cs:Array Value) (x:Fin nn):Array Value:=#[.int .i64 (x.1:Int),val7 cs x.1]
set_option maxRecDepth 100000 in
set_option maxHeartbeats 4000000 in
theorem frback_in (n l sb nn cc n1 rb:Nat) (A:Option Addr) (g:Nat) (hA:0 < nn→A=some ⟨g,0,none⟩) (cs:Array Value) (hn:1≤n) (hnn:nn≤100000) (J Jx:List (Fin nn)→World→Prop) (W:World) (hsb:sb < n1∧sb≠rb) (hgb:0 < nn→g < n1∧g≠rb) {fs fg:Nat × Nat}
 (hb:W.heap[sb]? =some (.cells #[.slice A nn cc] 122 fs)) (hc:0 < nn→W.heap[g]? =some (.cells cs 87 fg)) (hcs:∀ k,k < nn*7→∃ v,cs[k]? =some v)
 (hY:∀ pre x W1,J pre W1→pre.length < nn→YieldAt Fence.wide (n - 1) Tryz.prog l (encF cs x) W1 fun e W' =>
   (e=.returned (.bool true)∧J (pre++[x]) W'∧Kb1 n1 rb W1 W')∨(e=.returned (.bool false)∧Jx (pre++[x]) W')) (h0:J [] W) :
 CallsIn Fence.wide n Tryz.prog 76 #[.func (.yield l) #[] #[],.pointer (some ⟨sb,0,none⟩)] W fun e W' => (∃ v,e=.returned v)∧
  ((∃ ys,ys.map Fin.val=downL nn∧J ys W')∨(∃ pre,True∧Jx pre W')):=by
 have s0:=cell_of_row W sb 0 _ _ _ hb
 refine callsIn_of_wp Tryz.func76 rfl trivial ?_ rfl
 simp only [Tryz.ntmps76,List.size_toArray,List.length_cons,List.length_nil,Nat.reduceAdd,Nat.reduceSub,Array.replicate_succ,Array.replicate_zero,List.push_toArray,List.append_toArray,List.nil_append,List.cons_append]
 gi_wp2
 gi_loopw [3] (fun iv wr => ∃ (i:Nat) (pre:List (Fin nn)),iv=.int .i64 ((i:Int) - 1)∧i≤nn∧Hid (pre.map Fin.val=cameL nn i)∧Hid (wr.heap[sb]? =some (.cells #[.slice A nn cc] 122 fs))∧Hid (0 < nn→wr.heap[g]? =some (.cells cs 87 fg))∧Hid (J pre wr)) (fun iv _ => (intOf iv+1).toNat)
 case atStart => exact ⟨nn,[],by simp,Nat.le_refl _,Lib.hid (by rw [came_start];rfl),Lib.hid hb,Lib.hid hc,Lib.hid h0⟩
 case round =>
  obtain ⟨i,pre,rfl,hi,hx,hbt,hct,hJs⟩:=hrel
  cases i with
  | zero =>
   gi_wp2
   go_end0
   exact ⟨⟨_,rfl⟩,.inl ⟨pre,by rw [hx.out,came_end],hJs.out⟩⟩
  | succ i =>
   have hn0:0 < nn:=by omega
   obtain rfl:=hA hn0
   obtain ⟨hg1,hg2⟩:=hgb hn0
   have hct0:=Lib.hid (hct.out hn0)
   rw [show (((i+1:Nat):Int) - 1)=(i:Int) by omega]
   have hlen:pre.length < nn:=by
    have:=congrArg List.length hx.out
    rw [List.length_map,cameL,List.length_take,down_len] at this
    omega
   obtain ⟨x,hxv⟩:∃ x:Fin nn,x.1=i:=⟨⟨i,by omega⟩,rfl⟩
   obtain ⟨v0,h0'⟩:=hcs (7*i) (by omega)
   obtain ⟨v1,h1'⟩:=hcs (7*i+1) (by omega)
   obtain ⟨v2,h2'⟩:=hcs (7*i+2) (by omega)
   obtain ⟨v3,h3'⟩:=hcs (7*i+3) (by omega)
   obtain ⟨v4,h4'⟩:=hcs (7*i+4) (by omega)
   obtain ⟨v5,h5'⟩:=hcs (7*i+5) (by omega)
   obtain ⟨v6,h6'⟩:=hcs (7*i+6) (by omega)
   have hval:val7 cs i=.agg #[v0,v1,v2,v3,v4,v5,v6]:=by
    unfold val7
    simp only [Array.getD_eq_getD_getElem?,h0',h1',h2',h3',h4',h5',h6',Option.getD_some]
   have hr:=fun (k:Nat) => cell_of_row wr g k _ _ _ hct0.out
   have c0:wr.cell? ⟨g,i*7,none⟩=some v0:=by rw [hr,Nat.mul_comm];exact h0'
   have c1:wr.cell? ⟨g,i*7+1,none⟩=some v1:=by rw [hr,Nat.mul_comm];exact h1'
   have c2:wr.cell? ⟨g,i*7+2,none⟩=some v2:=by rw [hr,Nat.mul_comm];exact h2'
   have c3:wr.cell? ⟨g,i*7+3,none⟩=some v3:=by rw [hr,Nat.mul_comm];exact h3'
   have c4:wr.cell? ⟨g,i*7+4,none⟩=some v4:=by rw [hr,Nat.mul_comm];exact h4'
   have c5:wr.cell? ⟨g,i*7+5,none⟩=some v5:=by rw [hr,Nat.mul_comm];exact h5'
   have c6:wr.cell? ⟨g,i*7+6,none⟩=some v6:=by rw [hr,Nat.mul_comm];exact h6'
   have hs0:=cell_of_row wr sb 0 _ _ _ hbt.out
   have hin:(i:Int) < (nn:Int):=by omega
   obtain ⟨fn,tmps,assign,body,hy,hR⟩:=hY pre x wr hJs.out hlen
   unfold encF at hy
   rw [hxv,hval] at hy
   have HX:=Lib.hid (show (pre++[x]).map Fin.val=cameL nn i by rw [List.map_append,hx.out,List.map_singleton,hxv];exact (came_step (by omega)).symm)
   clear hxv hval hr h0' h1' h2' h3' h4' h5' h6'
   gi_wp2
   refine hR.mono ?_
   rintro e W3 (⟨rfl,hJ3,hk3⟩ | ⟨rfl,hJx3⟩)
   ·have hb3:=Lib.hid ((hk3 sb hsb.1 hsb.2).trans hbt.out)
    have hc3:=Lib.hid (fun _:0 < nn => (hk3 g hg1 hg2).trans hct0.out)
    have HJ:=Lib.hid hJ3
    clear hk3 hJ3
    gi_wp2
    go_roundw
    case rel => exact ⟨i,pre++[x],by first | rfl | go_num,by omega,HX,hb3,hc3,HJ⟩
    case measure => simp [intOf]
   ·gi_wp2
    refine bodyPost_ret (results_none rfl _ _ _) rfl ?_
    exact ⟨⟨_,rfl⟩,.inr ⟨pre++[x],trivial,hJx3⟩⟩
theorem frback_stops (n sb nn cc n1 rb:Nat) (A:Option Addr) (g:Nat) (hA:0 < nn→A=some ⟨g,0,none⟩) (cs:Array Value) (w:World) (hn:1≤n) (hnn:nn≤100000) (hsb:sb < n1∧sb≠rb) (hgb:0 < nn→g < n1∧g≠rb) {fs fg:Nat × Nat}
 (hb:w.heap[sb]? =some (.cells #[.slice A nn cc] 122 fs)) (hc:0 < nn→w.heap[g]? =some (.cells cs 87 fg)) (hcs:∀ k,k < nn*7→∃ v,cs[k]? =some v) :
 SeqStopsK Fence.wide n Tryz.prog 76 #[.pointer (some ⟨sb,0,none⟩)] (encF (nn:=nn) cs) (Kb1 n1 rb) (fun ys => ys.map Fin.val=downL nn) (fun _ => True) nn w:=fun l J Jx W hW _ _ hY h0 =>
 frback_in n l sb nn cc n1 rb A g hA cs hn hnn J Jx W hsb hgb ((hW.block sb (heap_lt hb)).trans hb) (fun h => (hW.block g (heap_lt (hc h))).trans (hc h)) hcs hY h0
theorem frbackward_any (v:Value) (A:Option Addr) (nn cc:Nat) (hv:v=.slice A nn cc) (w:World):Calls Tryz.prog 42 #[v] w fun e w' => e=.returned (.func (.func 76) #[] #[.pointer (some ⟨w.heap.size,0,none⟩)])∧w'=w.alloc (.cells #[v] 122):=by
 subst hv
 go_enter Tryz.func42,Tryz.ntmps42
 go_wp2
 go_ret
 exact ⟨rfl,rfl⟩
end Go.Proofs.YtdgpmpccfjmmcaaGreatDoor
namespace Go.Proofs.YtdgpmpccfjmmcaaGreatDoor
open Go.RowKit Go.Shelf
attribute [local go_sem] Oper.semAt_some
theorem frs_down:∀ (l:List Fr0) (m:Nat),m≤l.length→((downL m).map fun k => l.getD k (.cut 0)).reverse=l.take m
 | l,0,_ => by simp [downL]
 | l,m+1,h => by
  simp only [downL,List.map_cons,List.reverse_cons,frs_down l m (by omega)]
  rw [List.take_succ_eq_append_getElem (by omega),List.getD_eq_getElem?_getD,List.getElem?_eq_getElem (by omega)]
  rfl
structure AhI (w W:World) (lb:Nat) (l r:List Fr0) (ks:List Nat) (lv:Value):Prop where
 bx:W.heap[lb]? =some (.cells #[lv] 75 (0,0))
 fl:FL W ((ks.map fun k => l.getD k (.cut 0)).reverse++r) lv
 low:Below w.heap.size w W
 lo:w.heap.size≤lb
theorem AhI.below {w W W':World} {lb:Nat} {l r:List Fr0} {ks:List Nat} {lv:Value} (h:AhI w W lb l r ks lv) (hb:Below W.heap.size W W'):AhI w W' lb l r ks lv:=
 ⟨(hb.block _ (heap_lt h.bx)).trans h.bx,h.fl.below hb,h.low.trans (hb.mono h.low.size),h.lo⟩
theorem AhI.key {w W W':World} {lb:Nat} {l r:List Fr0} {ks:List Nat} {lv:Value} {row:Option Nat} (h:AhI w W lb l r ks lv) (hg:W.grownBy W' row) (hr:∀ q,row=some q→w.heap.size≤q∧∃ o:Obj,W.heap[q]? =some o∧o.isCells=false):AhI w W' lb l r ks lv:=by
 have key:=key_grown hg fun q e => (hr q e).2
 exact ⟨key _ _ _ _ h.bx,h.fl.keep fun b cs ty f hh _ => key b cs ty f hh,h.low.grown hg h.low.size fun k e => (hr k e).1,h.lo⟩
theorem AhI.push {w W:World} {lb:Nat} {l r:List Fr0} {ks:List Nat} {lv:Value} (h:AhI w W lb l r ks lv) {k:Nat} {fr:Fr0} (hk:l[k]? =some fr) {us:List Value} (hu:FrC w fr us) :
 AhI w ((W.setCell ⟨lb,0,none⟩ (.pointer (some ⟨W.heap.size,0,none⟩))).alloc (Obj.cells (us++[lv,.int .i64 ((((ks.map fun k => l.getD k (.cut 0)).reverse++r).length:Int)+1)]).toArray 128)) lb l r (ks++[k]) (.pointer (some ⟨W.heap.size,0,none⟩)):=by
 have hlb:=heap_lt h.bx
 have hs:=h.low.size
 have far:∀ {b:Nat} {cs:Array Value} {t:TypeId} {f:Nat × Nat},W.heap[b]? =some (.cells cs t f)→t≠75→((W.setCell ⟨lb,0,none⟩ (.pointer (some ⟨W.heap.size,0,none⟩))).alloc (Obj.cells (us++[lv,.int .i64 ((((ks.map fun k => l.getD k (.cut 0)).reverse++r).length:Int)+1)]).toArray 128)).heap[b]? =some (.cells cs t f):=fun {b cs t f} hb ht => by
  refine (Below.heap_alloc _ _ _ (by have:=heap_lt hb;simpa using this)).trans ((Below.heap_setCell _ _ _ _ fun e => ?_).trans hb)
  have e:b=lb:=e
  subst e
  rw [h.bx] at hb
  injection hb with hb
  injection hb with _ hb
  exact ht hb.symm
 have hfr:l.getD k (.cut 0)=fr:=by rw [List.getD_eq_getElem?_getD,hk];rfl
 refine ⟨(Below.heap_alloc _ _ _ (by simpa using hlb)).trans (by simpa using blk_set h.bx 0 (.pointer (some ⟨W.heap.size,0,none⟩))),?_,(h.low.setCell (p:=⟨lb,0,none⟩) h.lo _).alloc (by simpa using hs) _,h.lo⟩
 rw [List.map_append,List.map_singleton,List.reverse_append,List.reverse_singleton,List.singleton_append,List.cons_append,hfr]
 refine ⟨W.heap.size,us,lv,rfl,hu.keep fun b cs f hb => far ((h.low.block b (heap_lt hb)).trans hb) (by decide),h.fl.keep fun b cs ty f hb ht => far hb (by rcases ht with rfl | rfl <;> decide),?_⟩
 have:=heap_alloc_new (W.setCell ⟨lb,0,none⟩ (.pointer (some ⟨W.heap.size,0,none⟩))) (Obj.cells (us++[lv,.int .i64 ((((ks.map fun k => l.getD k (.cut 0)).reverse++r).length:Int)+1)]).toArray 128)
 simpa using this
set_option maxRecDepth 100000 in
set_option maxHeartbeats 8000000 in
theorem mahead_any {w:World} {l r:List Fr0} {lv v:Value} (hn:l.length≤100000) (hr:r.length≤200000) (hf:FrR w l v) (hlink:FL w r lv) :
 Calls Tryz.prog 22 #[lv,v] w fun e w' => (∃ lv',e=.returned lv'∧FL w' (l++r) lv')∧Below w.heap.size w w':=by
 obtain ⟨a,rfl⟩:=hlink.ptr
 obtain ⟨A,c,rfl,hc,hA,hx⟩:=hf
 obtain ⟨g,cs,fg,hg⟩:∃ (g:Nat) (cs:Array Value) (fg:Nat × Nat),0 < l.length→A=some ⟨g,0,none⟩∧w.heap[g]? =some (.cells cs 87 fg)∧∀ (k:Nat) (fr:Fr0),l[k]? =some fr→∃ us:List Value,FrC w fr us∧∀ j,j < 7→cs[7*k+j]? =us[j]?:=by
  by_cases h0:0 < l.length
  ·obtain ⟨g,cs,f,h1⟩:=hx h0
   exact ⟨g,cs,f,fun _ => h1⟩
  ·exact ⟨0,#[],(0,0),fun h => absurd h h0⟩
 obtain ⟨nn,hnn⟩:∃ nn,nn=l.length:=⟨_,rfl⟩
 have HNN:=Lib.hid hnn
 have HG:=Lib.hid hg
 have FLH:=Lib.hid hlink
 have hcs:∀ k,k < nn*7→∃ u,cs[k]? =some u:=fun k hk => by
  obtain ⟨_,_,h3⟩:=hg (by omega)
  obtain ⟨us,hu,hus⟩:=h3 (k / 7) _ (List.getElem?_eq_getElem (by omega))
  obtain ⟨_,_,_,_,_,_,_,_,_,rfl⟩:=hu.seven
  have:=hus (k % 7) (Nat.mod_lt _ (by omega))
  rw [Nat.div_add_mod] at this
  rw [this]
  rcases (show k % 7=0∨k % 7=1∨k % 7=2∨k % 7=3∨k % 7=4∨k % 7=5∨k % 7=6 by omega) with h | h | h | h | h | h | h <;> rw [h] <;> exact ⟨_,rfl⟩
 have HCS:=Lib.hid hcs
 clear hx hA hg hcs
 refine (callsIn_wide (n:=10)).1 (callsIn_of_wp_marks Tryz.func22 rfl trivial (wpIn_wide.2 ?_))
 simp only [Tryz.ntmps22,List.size_toArray,List.length_cons,List.length_nil,Nat.reduceAdd,Nat.reduceSub,Array.replicate_succ,Array.replicate_zero,List.push_toArray,List.append_toArray,List.nil_append,List.cons_append]
 have I0:=Lib.hid (show AhI w ((w.alloc (Obj.cells #[.pointer a] 75)).alloc (Obj.cells #[.slice A l.length c] 122)) w.heap.size l r [] (.pointer a) from
  ⟨(Below.heap_alloc _ _ _ (by simp)).trans (heap_alloc_new _ _),hlink.below (belA (belA (Below.refl _ _) _) _),belA (belA (Below.refl _ _) _) _,Nat.le_refl _⟩)
 have SB:=Lib.hid (heap_at (w.alloc (Obj.cells #[.pointer a] 75)) (Obj.cells #[.slice A l.length c] 122) (g:=w.heap.size+1) (by simp))
 clear hlink
 go_wp2_with fail
 refine (frbackward_any _ A l.length c rfl _).mono ?_
 rintro e w1 ⟨rfl,rfl⟩
 go_wp2_with fail
 have hW7:((w.alloc (Obj.cells #[.pointer a] 75)).alloc (Obj.cells #[.slice A l.length c] 122)).heap.size=w.heap.size+2:=by simp
 have BW7:=Lib.hid (show Below w.heap.size w ((w.alloc (Obj.cells #[.pointer a] 75)).alloc (Obj.cells #[.slice A l.length c] 122)) from I0.out.low)
 generalize (w.alloc (Obj.cells #[.pointer a] 75)).alloc (Obj.cells #[.slice A l.length c] 122)=W7 at*
 have BS:=frback_stops 9 (w.heap.size+1) nn c W7.heap.size w.heap.size A g (fun h => (HG.out (by omega)).1) cs W7 (by omega) (by omega) ⟨by omega,by omega⟩ (fun h => by have:=heap_lt (HG.out (by omega)).2.1;exact ⟨by omega,by omega⟩) (by rw [hnn];exact SB.out) (fun h => (BW7.out.block _ (heap_lt (HG.out (by omega)).2.1)).trans (HG.out (by omega)).2.1) HCS.out
 refine (wpIn_wide (n:=10)).1 (wpIn_rangeFunc_ownH (n:=10) rfl (by omega) (gf:=76) (lb:=#[.pointer (some ⟨w.heap.size+1,0,none⟩)]) rfl trivial (enters_of Tryz.func76 (by kernel_rfl) rfl) BS
  (fun h k => h.trans k) (fun W l o o' hl ho _ _ b hb _ => World.putObj_heap_other (by omega)) (Below.refl _ _) (fun _ => rfl)
  (fun pre W => ∃ lv,AhI w W w.heap.size l r (pre.map Fin.val) lv∧W7.heap.size≤W.heap.size)
  (fun _ _ _ => False) ?_ (fun _ _ _ _ _ h _ _ => h) ⟨_,I0.out,Nat.le_refl _⟩
  (fun x a' W => ∃ Bx us,W7.heap.size≤Bx∧FrC w (l.getD x.1 (.cut 0)) us∧W.heap[Bx]? =some (.cells us.toArray 87 (0,0))∧val7 cs x.1=.agg us.toArray∧a'= {tmps:=#[.pointer a,.slice A l.length c,.pointer (some ⟨w.heap.size,0,none⟩),undef,.pointer none,undef,.pointer (some ⟨Bx,0,none⟩),.slice A l.length c,.func (.func 76) #[] #[.pointer (some ⟨w.heap.size+1,0,none⟩)],.int .i64 (x.1:Int),.agg us.toArray,undef,undef,undef,undef,undef,undef,undef,undef],defers:=[]}) ?_ ?_ ?_ ?_ ?_)
 ·rintro pre A0 B0 row ⟨lv,hI,hsz⟩ hg hr
  exact ⟨lv,hI.key hg fun q e => ⟨by have:=(hr q e).1;omega,(hr q e).2⟩,Nat.le_trans hsz hg.size⟩
 ·rintro x a' _ A0 B0 row ⟨Bx,us,h1,h2,h3,h4,h5⟩ hg hr
  exact ⟨Bx,us,h1,h2,key_grown hg (fun q e => (hr q e).2) _ _ _ _ h3,h4,h5⟩
 ·rintro l' pre x W K ⟨lv,hI,hsz⟩ hK
  have hxl:x.1 < l.length:=by have:=x.2;omega
  obtain ⟨us,hu,hus⟩:=(HG.out (by omega)).2.2 x.1 _ (List.getElem?_eq_getElem hxl)
  have hfr:l.getD x.1 (.cut 0)=l[x.1]:=by rw [List.getD_eq_getElem?_getD,List.getElem?_eq_getElem hxl];rfl
  obtain ⟨q0,q1,q2,q3,q4,q5,q6,q7,q8,e7⟩:=hu.seven
  have hval:val7 cs x.1=.agg us.toArray:=by
   rw [e7] at hus ⊢
   unfold val7
   have g0:=hus 0 (by omega)
   have g1:=hus 1 (by omega)
   have g2:=hus 2 (by omega)
   have g3:=hus 3 (by omega)
   have g4:=hus 4 (by omega)
   have g5:=hus 5 (by omega)
   have g6:=hus 6 (by omega)
   simp only [Nat.add_zero] at g0
   simp only [Array.getD_eq_getD_getElem?,g0,g1,g2,g3,g4,g5,g6]
   rfl
  have HU:=Lib.hid (show FrC w (l.getD x.1 (.cut 0)) us by rw [hfr];exact hu)
  have HI:=Lib.hid hI
  have HV:=Lib.hid hval
  unfold encF
  rw [hval]
  subst e7
  clear hu hus hI hval hfr
  gi_wp2
  exact hK _ _ ((KeepsOthers.alloc _ _).from _) (fun b hb _ => Below.heap_alloc _ _ _ (by omega)) ⟨lv,HI.out.below (belA (Below.refl _ _) _),by simp;omega⟩ ⟨W.heap.size,_,hsz,HU.out,heap_alloc_new _ _,HV.out,rfl⟩
 ·rintro l' pre x a' W hl' ⟨rr,hrr⟩ ⟨lv,hI,hsz⟩ ⟨Bx,us,h1,h2,h3,h4,rfl⟩ hlen
  obtain ⟨q0,q1,q2,q3,q4,q5,q6,q7,q8,e7⟩:=h2.seven
  subst e7
  have hxl:x.1 < l.length:=by have:=x.2;omega
  have HU:=Lib.hid h2
  have HI:=Lib.hid hI
  have hbx:=heap_lt h3
  have hbb:=heap_lt hI.bx
  have H3:=Lib.hid h3
  clear h2 hI h3 h4
  refine wpIn_block ?_
  obtain ⟨la,rfl⟩:=HI.out.fl.ptr
  have BD:=Lib.hid (show Below W.heap.size W W.drew from (Below.refl _ _).drew)
  have DI:=Lib.hid (HI.out.below BD.out)
  have DX:=Lib.hid ((BD.out.block _ hbx).trans H3.out)
  refine rgR [(0,fun u => AC u Bx 0 [.int .i64 q0,.int .i64 q1,.int .i64 q2,.int .i64 q3,.int .i64 q4,.string q5,.slice q6 q7 q8]),(1,fun u => AC u w.heap.size 0 [.pointer la]),(2,fun u => AC u w.heap.size 0 [.pointer la])] (hS:=⟨ac_of DX.out,ac_of DI.out.bx,ac_of DI.out.bx,trivial⟩) (h:=fun hH => ?_)
  have b0:=cell_of_row W _ 0 _ _ _ HI.out.bx
  have f0:W.frozen? ⟨w.heap.size,0,none⟩=false:=by simp [World.frozen?,HI.out.bx]
  have hwr:IntKind.i64.wrap ((pre.length:Int)+(r.length:Int)+1)=(pre.length:Int)+(r.length:Int)+1:=Go.IntWalk.i64_in _ ⟨by omega,by omega⟩
  have CL:=Lib.hid (mlen_any DI.out.fl)
  have hll:((pre.map Fin.val).map fun k => l.getD k (.cut 0)).reverse.length=pre.length:=by simp
  have hlen':(((((pre.map Fin.val).map fun k => l.getD k (.cut 0)).reverse++r).length:Nat):Int)≤300000:=by rw [List.length_append,hll];omega
  refine tl 1 (h:=tl 2 (h:=tl 0 (h:=r1 3 [0,1] (h:=fun K hK => ?_))))
  go_simp
  refine CL.out.mono ?_
  rintro e w2 ⟨rfl,rfl⟩
  refine hK.out _ _ ⟨hH.1,hH.2.1,trivial⟩ (fun hH2 => ?_)
  clear hK K
  refine tp 4 (h:=tp 5 (h:=r1 6 [] (h:=fun K hK => ?_)))
  go_simp
  refine hK.out _ _ trivial (fun hH3 => ?_)
  clear hK K
  refine r1 7 [] (h:=fun K hK => ?_)
  go_simp
  refine hK.out _ _ trivial (fun hH4 => ?_)
  clear hK K
  refine dn (h:=?_)
  have hk:l[x.1]? =some (l.getD x.1 (.cut 0)):=by rw [List.getD_eq_getElem?_getD,List.getElem?_eq_getElem hxl];rfl
  have PP:=HI.out.push hk HU.out
  simp only [List.length_append,hll] at PP
  rw [show ((pre.length+r.length:Nat):Int)=(pre.length:Int)+(r.length:Int) from by omega] at PP
  have far:∀ b,b < W.heap.size→b≠w.heap.size→((W.setCell ⟨w.heap.size,0,none⟩ (.pointer (some ⟨W.heap.size,0,none⟩))).alloc (Obj.cells #[.int .i64 q0,.int .i64 q1,.int .i64 q2,.int .i64 q3,.int .i64 q4,.string q5,.slice q6 q7 q8,.pointer la,.int .i64 ((pre.length:Int)+(r.length:Int)+1)] 128)).heap[b]? =W.heap[b]?:=fun b h1 h2 => (Below.heap_alloc _ _ _ (by simpa using h1)).trans (Below.heap_setCell _ _ _ _ h2)
  refine ⟨⟨by simp,fun k o _ hk ho => ?_⟩,fun b h1 h2 => far b (by omega) h2,.pointer (some ⟨W.heap.size,0,none⟩),?_,by simp;omega⟩
  ·refine (far k (heap_lt hk) fun e => ?_).trans hk
   subst e
   rw [HI.out.bx] at hk
   injection hk with hk
   subst hk
   cases ho
  ·rw [List.map_append]
   exact PP.below (Below.refl _ _).drew
 ·rintro D' xs W hD' hxs ⟨lv,hI,hsz⟩ hK
  have hxs:xs.map Fin.val=downL nn:=hxs
  have HI:=Lib.hid hI
  have HK:=Lib.hid hK
  have b0:=cell_of_row W _ 0 _ _ _ hI.bx
  have hl:=heap_lt hI.bx
  clear hI hK
  go_wp2_with fail
  refine retMD HK.out (v:=lv) (by simp [results,go_sem]) rfl ?_
  have K9:=HI.out.key (grownBy_putObj' W D' (.deferred none)) fun q e => by cases e;exact ⟨by omega,_,HK.out,rfl⟩
  refine ⟨⟨lv,rfl,?_⟩,K9.low⟩
  have:=K9.fl
  rw [hxs,frs_down l nn (by omega),hnn,List.take_length] at this
  exact this
 ·rintro D' cc' pre W _ _ h _
  exact h.elim
end Go.Proofs.YtdgpmpccfjmmcaaGreatDoor
namespace Go.Proofs.YtdgpmpccfjmmcaaGreatDoor
open Go.RowKit
def mP (X:MX):Value:=.pointer (some ⟨X.mb,0,none⟩)
theorem dom_any {X:MX} {S:Ms} {w:World} (h:MSt X S w) (k:Nat):Calls Tryz.prog 60 #[mP X,.int .i64 (k:Int)] w fun e w' => e=.returned (.tuple #[.slice none 0 0,.bool false])∧Below w.heap.size w w':=by
 obtain ⟨fv,cv,hbx,hfl,hch⟩:=h.box
 have c10:w.cell? ⟨X.mb,10,none⟩=some (.pointer (some ⟨X.sb,0,none⟩)):=cell_of_row _ _ 10 _ _ _ hbx
 have ST:=Lib.hid h.st
 unfold mP
 clear h hbx hfl hch
 go_enter Tryz.func60,Tryz.ntmps60
 go_wp2_with fail
 refine (st_attr ST.out k).mono ?_
 rintro e w1 ⟨rfl,h1⟩
 have hb:=Lib.hid (belA h1 (Obj.cells #[.int .i64 0,.int .i64 0,.string ⟨#[]⟩,.slice none 0 0] 51))
 have c0:=cell_of_row _ _ 0 _ _ _ (heap_alloc_new w1 (Obj.cells #[.int .i64 0,.int .i64 0,.string ⟨#[]⟩,.slice none 0 0] 51))
 clear h1
 go_wp2_with fail
 refine bodyPost_ret (v:=.tuple #[.slice none 0 0,.bool false]) (by simp [results,go_sem]) rfl ?_
 exact ⟨rfl,hb.out⟩
theorem IRow.kx {X:MX} {w w':World} {v:Value} {l:List Int} (h:IRow w v l) (k:KX X w w') (hv:∀ g,v.ownBlock=some g→g≠X.mb∧g≠X.sp):IRow w' v l:=
 own_keep h fun g hg => by
  obtain ⟨cs,f,hh⟩:=Go.Lib.ownsRow_kind h g hg
  exact (k.kd hh (hv g hg).1 (hv g hg).2 rfl).trans hh.symm
set_option maxRecDepth 100000 in
set_option maxHeartbeats 8000000 in
theorem wakes_any {X:MX} {S:Ms} {w:World} (h:MSt X S w) {v:Value} {l:List Int} (hl:IRow w v l) (hv:∀ g,v.ownBlock=some g→g≠X.mb) (hn:l.length≤100000) (hf:S.fr.length≤200000):Calls Tryz.prog 138 #[mP X,v] w fun e w' => e=.returned (.tuple #[])∧MSt X S w'∧KX X.m w w':=by
 obtain ⟨A,c,rfl,h1,h2,_⟩:=hl.open_
 have H:=Lib.hid h
 have HL:=Lib.hid hl
 have HV:=Lib.hid (show ∀ g,(Value.slice A l.length c).ownBlock=some g→g≠X.m.mb∧g≠X.m.sp from fun g hg => ⟨hv g hg,hv g hg⟩)
 unfold mP
 have hB0:=h.lt.1
 clear h hl hv h2
 go_enter Tryz.func138,Tryz.ntmps138
 go_wp2_with fail
 go_loopw [4,12] (fun u4 iv wr => ∃ (i:Nat),u4=.slice none 0 0∧iv=.int .i64 (i:Int)∧i≤l.length∧Hid (MSt X S wr)∧Hid (KX X.m w wr)∧Hid (IRow wr (.slice A l.length c) l)) (fun _ iv _ => ((l.length:Int) - intOf iv).toNat)
 case atStart => exact ⟨0,rfl,rfl,by omega,H,Lib.hid (KX.refl _ _),HL⟩
 case round =>
  obtain ⟨i,rfl,rfl,hi,hm,hk,hr⟩:=hrel
  obtain ⟨fv,cv,hbx,hfl,hch⟩:=hm.out.box
  have hlt:=hm.out.lt
  have hw0:=hk.out.low.size
  by_cases hin:i < l.length
  ·have hin':(i:Int) < (l.length:Int):=by omega
   obtain ⟨A',c',e',_,_,hx⟩:=hr.out.open_
   cases e'
   obtain ⟨g,rfl,hg,hc⟩:=hx i _ (List.getElem?_eq_getElem hin)
   have c1:wr.cell? ⟨X.mb,1,none⟩=some (.slice none 0 0):=cell_of_row _ _ 1 _ _ _ hbx
   have f1:wr.frozen? ⟨X.mb,1,none⟩=false:=by simp [World.frozen?,hbx]
   obtain ⟨m1,m2⟩:=hm.out.setWt
   have M1:=Lib.hid m1
   have M2:=Lib.hid (hk.out.trans m2)
   have M3:=Lib.hid (hr.out.kx m2 HV.out)
   clear m1 m2 hx hbx hfl hch
   go_wp2_with fail
   go_loopw [4,7,22] (fun u4 u7 iv w2 => u4=.slice none 0 0∧u7=.slice none 0 0∧iv=.int .i64 0∧w2=wr) (fun _ _ _ _ => 0)
   case atStart => exact ⟨rfl,rfl,rfl,rfl⟩
   case round =>
    obtain ⟨rfl,rfl,rfl,rfl⟩:=hrel
    go_wp2_with fail
    go_roundw
    case rel => exact ⟨i+1,rfl,by first | rfl | go_num,by omega,M1,M2,M3⟩
    case measure => simp [intOf];omega
  ·have hin':¬ (i:Int) < (l.length:Int):=by omega
   have c0:wr.cell? ⟨X.mb,0,none⟩=some fv:=cell_of_row _ _ 0 _ _ _ hbx
   have hnil:FrR wr [] (.slice none 0 0):=⟨none,0,rfl,Nat.le_refl _,fun _ => rfl,fun h => absurd h (by simp)⟩
   obtain ⟨fa,rfl⟩:=hfl.ptr
   go_wp2_with fail
   refine (mahead_any (l:=[]) (by simp) hf hnil hfl).mono ?_
   rintro e w1 ⟨⟨lv,rfl,hf1⟩,hb1⟩
   obtain ⟨a1,rfl⟩:=hf1.ptr
   have hm1:=hm.out.below hb1
   have hk1:=hk.out.on hB0 hb1
   obtain ⟨n1,n2⟩:=hm1.setFr hf1 hm.out.frq
   have N1:=Lib.hid n1
   have N2:=Lib.hid (hk1.trans n2)
   obtain ⟨fv1,cv1,hbx1,-,-⟩:=hm1.box
   have f1:w1.frozen? ⟨X.mb,0,none⟩=false:=by simp [World.frozen?,hbx1]
   have c1:w1.cell? ⟨X.mb,0,none⟩=some fv1:=cell_of_row _ _ 0 _ _ _ hbx1
   go_wp2_with fail
   go_end0
   exact ⟨rfl,N1.out,N2.out⟩
set_option maxRecDepth 100000 in
set_option maxHeartbeats 8000000 in
theorem settle_any {X:MX} {S:Ms} {w:World} (h:MSt X S w) {v:Value} {l:List Nat} (hl:IRow w v (l.map fun (n:Nat) => (n:Int))) (hv:∀ g,v.ownBlock=some g→g≠X.mb) (hn:l.length≤100000) (hf:S.fr.length≤200000):Calls Tryz.prog 85 #[mP X,v] w fun e w' => e=.returned (.tuple #[])∧MSt X S w'∧KX X.m w w':=by
 obtain ⟨A,c,rfl,_,_,_⟩:=hl.open_
 rw [List.length_map] at*
 have H:=Lib.hid h
 have HL:=Lib.hid hl
 have HV:=Lib.hid hv
 have hB0:=h.lt.1
 unfold mP
 clear h hl hv
 go_enter Tryz.func85,Tryz.ntmps85
 go_wp2_with fail
 go_loopw [4,14] (fun u4 iv wr => ∃ (i:Nat),u4=.bool false∧iv=.int .i64 (i:Int)∧i≤l.length∧Hid (Below w.heap.size w wr)) (fun _ iv _ => ((l.length:Int) - intOf iv).toNat)
 case atStart => exact ⟨0,rfl,rfl,by omega,Lib.hid (Below.refl _ _)⟩
 case round =>
  obtain ⟨i,rfl,rfl,hi,hk⟩:=hrel
  have hm:=Lib.hid (H.out.below hk.out)
  have hr:=Lib.hid (HL.out.below hk.out)
  by_cases hin:i < l.length
  ·have hin':(i:Int) < (l.length:Int):=by omega
   obtain ⟨A',c',e',_,_,hx⟩:=hr.out.open_
   rw [List.length_map] at e'
   cases e'
   obtain ⟨g,rfl,hg,hc⟩:=hx i (l[i]:Int) (by rw [List.getElem?_map,List.getElem?_eq_getElem hin];rfl)
   clear hx
   go_wp2_with fail
   refine (dom_any hm.out (l[i])).mono ?_
   rintro e w1 ⟨rfl,h1⟩
   have K1:=Lib.hid (hk.out.trans (h1.mono hk.out.size))
   clear h1
   go_wp2_with fail
   go_roundw
   case rel => exact ⟨i+1,rfl,by first | rfl | go_num,by omega,K1⟩
   case measure => simp [intOf];omega
  ·have hin':¬ (i:Int) < (l.length:Int):=by omega
   go_wp2_with fail
   refine (wakes_any hm.out hr.out HV.out (by rw [List.length_map];exact hn) hf).mono ?_
   rintro e w1 ⟨rfl,h1,h2⟩
   have M1:=Lib.hid h1
   have M2:=Lib.hid ((KX.of (X:=X.m) hB0 hk.out).trans h2)
   clear h1 h2
   go_wp2_with fail
   go_end0
   exact ⟨rfl,M1.out,M2.out⟩
end Go.Proofs.YtdgpmpccfjmmcaaGreatDoor
namespace Go.Proofs.YtdgpmpccfjmmcaaGreatDoor
open Go.RowKit
theorem tcatch_idle (p q r:Addr) (w:World) :
 CallsD Tryz.prog 67 #[.pointer (some p),.pointer (some q),.pointer (some r)] .returning w fun e u' w' => e=.returned (.tuple #[])∧u'=.returning∧w'=w:=by
 refine callsD_of_wpS Tryz.func67 rfl fun c₀ cs hu => ?_
 apply wpS_seq
 apply wpS_region
 simp [wpOpsS,go_sem,recoverD,hu,Tryz.ntmps67,Exit.thenS]
 apply wpS_seq
 apply wpS_region
 simp [wpOpsS,go_sem,recoverD,hu,Exit.thenS]
 refine wpS_cond (t:=false) (by simp [Act.eval,Array.replicate]) ?_
 simp only [Bool.false_eq_true,if_false]
 refine wpS_of_wp (wp_skip ?_)
 cases c₀
 simp_all [bodyPostS,results,Tryz.results67]
theorem ta_wrong (v:Value) (W:World):Sem.run Tryz.prog (Instr.typeAssert (.iface 158 v) 20 158 false) W=.ok v W:=by kernel_rfl
theorem tcatch_panicking (B:Nat) (x y z:Value) (p:Nat) (er:Int) (older:List PanicEntry) (w:World)
 (hp:w.cell? ⟨B,0,none⟩=some x) (fp:w.frozen? ⟨B,0,none⟩=false) (hq:w.cell? ⟨B+1,0,none⟩=some y) (fq:w.frozen? ⟨B+1,0,none⟩=false) (hr:w.cell? ⟨B+2,0,none⟩=some z) (fr:w.frozen? ⟨B+2,0,none⟩=false) (hB:B+2 < w.heap.size) :
 CallsD Tryz.prog 67 #[.pointer (some ⟨B,0,none⟩),.pointer (some ⟨B+1,0,none⟩),.pointer (some ⟨B+2,0,none⟩)] (.panicking (wrongE p er ::older)) w fun e u' w' =>
  e=.returned (.tuple #[])∧u'=.panicking ({v:=.iface 158 (.agg #[.int .i64 (p:Int),.int .i64 er]),recovered:=true} ::older)∧
  Below B w w'∧w'.cell? ⟨B,0,none⟩=some (.slice none 0 0)∧w'.cell? ⟨B+1,0,none⟩=some (.int .i64 (p:Int))∧w'.cell? ⟨B+2,0,none⟩=some (.int .i64 er):=by
 unfold wrongE
 refine callsD_of_wpS Tryz.func67 rfl fun c₀ cs hu => ?_
 apply wpS_seq
 apply wpS_region
 simp [wpOpsS,go_sem,recoverD,hu,Tryz.ntmps67,Exit.thenS]
 apply wpS_seq
 apply wpS_region
 simp [wpOpsS,go_sem,recoverD,Exit.thenS]
 refine wpS_cond (t:=true) (by simp [Act.eval,Array.replicate]) ?_
 simp only [if_true]
 refine wpS_of_wp ?_
 change Code.wp _ _ _ {tmps:=#[.pointer (some ⟨B,0,none⟩),.pointer (some ⟨B+1,0,none⟩),.pointer (some ⟨B+2,0,none⟩),(.iface 158 (.agg #[.int .i64 (p:Int),.int .i64 er])),undef,(.iface 158 (.agg #[.int .i64 (p:Int),.int .i64 er])),(.iface 158 (.agg #[.int .i64 (p:Int),.int .i64 er])),.bool true,undef,undef,undef,undef,undef,undef],defers:=[]} w
 have hta:=ta_wrong (.agg #[.int .i64 (p:Int),.int .i64 er])
 have hB0:B < w.heap.size:=by omega
 have hB1:B+1 < w.heap.size:=by omega
 have h01:B≠B+1:=by omega
 have h02:B≠B+2:=by omega
 have h12:B+1≠B+2:=by omega
 have hn0:w.heap.size≠B:=by omega
 have hn1:w.heap.size≠B+1:=by omega
 have hn2:w.heap.size≠B+2:=by omega
 go_wp2_with fail
 go_region
 all_goals
  simp (config:={zetaDelta:=true}) [bodyPostS,results,Tryz.results67]
  refine ⟨(((((Below.refl B w).setCell (by simp) _).setCell (by simp) _).setCell (by simp) _).alloc (by simp;omega) _).drew,?_,?_,?_⟩
  all_goals go_simp
end Go.Proofs.YtdgpmpccfjmmcaaGreatDoor
