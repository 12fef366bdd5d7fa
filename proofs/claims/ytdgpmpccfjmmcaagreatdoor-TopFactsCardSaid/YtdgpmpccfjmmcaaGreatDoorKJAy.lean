/- The index:clauses of a name. The program's parser:the deferred closure of Read,which recovers. The program's parser:Read,plainly;what its loop has gathered. Texts of facts,plainly:what their tokens are read as. -/
import Derived.Test.YtdgpmpccfjmmcaaGreatDoorKJAr
import Derived.Test.YtdgpmpccfjmmcaaGreatDoorKJAw
import Derived.Test.YtdgpmpccfjmmcaaGreatDoorKJAg
import Derived.Test.YtdgpmpccfjmmcaaGreatDoorKJAq
import Derived.Test.YtdgpmpccfjmmcaaGreatDoorKJAx
import Derived.Tactics2
import Derived.Defers
import Derived.Recover
import Derived.Laws.Pointers
import Derived.Test.YtdgpmpccfjmmcaaGreatDoorKJAe
import Derived.Test.YtdgpmpccfjmmcaaGreatDoorKJAl
set_option linter.unusedVariables false
set_option linter.unusedSimpArgs false
namespace Go.Proofs.YtdgpmpccfjmmcaaGreatDoor
open Go.RowKit Go.Shelf
attribute [local go_sem] Oper.semAt_some
def HdC (cs:Array Value) (nn:Nat) (z:ByteArray) (q:Nat) (sel:Nat→Bool):Prop:=∀ i,i < nn→∃ k n s A m c,cs[4*i]? =some (.int .i64 k)∧cs[4*i+1]? =some (.int .i64 n)∧cs[4*i+2]? =some (.string s)∧cs[4*i+3]? =some (.slice A m c)∧
 ∃ z' q' b,nameV k s m=.tuple #[.string z',.int .i64 ((q':Nat):Int),.bool b]∧sel i=(b && z'.toList == z.toList && (q':Int) == (q:Int))
abbrev Sx (nn:Nat) (sel:Nat→Bool):={i:Nat // i < nn∧sel i=true}
def encX {nn:Nat} {sel:Nat→Bool} (cs:Array Value) (x:Sx nn sel):Array Value:=#[.int .i64 (x.1:Int),valAt cs x.1]
theorem grown_of {w w':World} (h:Below w.heap.size w w'):w.grownBy w' none:=⟨h.os,h.tape,h.output,h.size,fun i hi _ => h.block i hi⟩
set_option maxRecDepth 100000 in
set_option maxHeartbeats 4000000 in
theorem named_in (n l hb nb qb nn cc n1 rb g:Nat) (A:Option Addr) (hA:0 < nn→A=some ⟨g,0,none⟩) (cs:Array Value) (z:ByteArray) (q:Nat) (sel:Nat→Bool) (hcs:HdC cs nn z q sel) (hn:1≤n) (hnn:nn≤100000) (J Jx:List (Sx nn sel)→World→Prop) (W:World)
 (hB:(hb < n1∧hb≠rb)∧(nb < n1∧nb≠rb)∧qb < n1∧qb≠rb) (hgb:0 < nn→g < n1∧g≠rb) {f0 f1 f2 fg:Nat × Nat}
 (h1:W.heap[hb]? =some (.cells #[.slice A nn cc] 47 f0)) (h2:W.heap[nb]? =some (.cells #[.string z] 9 f1)) (h3:W.heap[qb]? =some (.cells #[.int .i64 (q:Int)] 3 f2)) (hc:0 < nn→W.heap[g]? =some (.cells cs 51 fg))
 (hJ:∀ s W1 W2,J s W1→Below W1.heap.size W1 W2→J s W2)
 (hY:∀ pre x W1,J pre W1→pre.length < nn→YieldAt Fence.wide (n - 1) Tryz.prog l (encX cs x) W1 fun e W' =>
   (e=.returned (.bool true)∧J (pre++[x]) W'∧Kb1 n1 rb W1 W')∨(e=.returned (.bool false)∧Jx (pre++[x]) W')) (h0:J [] W) :
 CallsIn Fence.wide n Tryz.prog 305 #[.func (.yield l) #[] #[],.pointer (some ⟨hb,0,none⟩),.pointer (some ⟨nb,0,none⟩),.pointer (some ⟨qb,0,none⟩)] W fun e W' => (∃ v,e=.returned v)∧
  ((∃ ys,ys.map Subtype.val=(List.range nn).filter sel∧J ys W')∨(∃ pre,True∧Jx pre W')):=by
 have s0:=cell_of_row W hb 0 _ _ _ h1
 refine callsIn_of_wp Tryz.func305 rfl trivial ?_ rfl
 simp only [Tryz.ntmps305,List.size_toArray,List.length_cons,List.length_nil,Nat.reduceAdd,Nat.reduceSub,Array.replicate_succ,Array.replicate_zero,List.push_toArray,List.append_toArray,List.nil_append,List.cons_append]
 gi_wp2
 gi_loopw [12] (fun iv wr => ∃ (i:Nat) (pre:List (Sx nn sel)),iv=.int .i64 (i:Int)∧i≤nn∧Hid (pre.map Subtype.val=(List.range i).filter sel)∧Hid (wr.heap[nb]? =some (.cells #[.string z] 9 f1))∧Hid (wr.heap[qb]? =some (.cells #[.int .i64 (q:Int)] 3 f2))∧Hid (0 < nn→wr.heap[g]? =some (.cells cs 51 fg))∧Hid (J pre wr)) (fun iv _ => ((nn:Int) - intOf iv).toNat)
 case atStart => exact ⟨0,[],by simp,by omega,Lib.hid (by simp),Lib.hid h2,Lib.hid h3,Lib.hid hc,Lib.hid h0⟩
 case round =>
  obtain ⟨i,pre,rfl,hi,hx,hb1,hb2,hct,hJs⟩:=hrel
  by_cases hin:i < nn
  case neg =>
   have hin':¬ (i:Int) < (nn:Int):=by omega
   gi_wp2
   go_end0
   obtain rfl:i=nn:=by omega
   exact ⟨⟨_,rfl⟩,.inl ⟨pre,hx.out,hJs.out⟩⟩
  case pos =>
   have hn0:0 < nn:=by omega
   obtain rfl:=hA hn0
   obtain ⟨hg1,hg2⟩:=hgb hn0
   have hct0:=Lib.hid (hct.out hn0)
   have hlen:pre.length < nn:=by
    have:=congrArg List.length hx.out
    rw [List.length_map] at this
    have h9:=List.length_filter_le sel (List.range i)
    rw [List.length_range] at h9
    omega
   obtain ⟨k,m0,s,A',m,c,h0',h1',h2',h3',z',q',b,hnv,hsel⟩:=hcs i hin
   have hval:valAt cs i=.agg #[.int .i64 k,.int .i64 m0,.string s,.slice A' m c]:=by
    unfold valAt
    simp only [Array.getD_eq_getD_getElem?,h0',h1',h2',h3',Option.getD_some]
   have hr:=fun (k:Nat) => cell_of_row wr g k _ _ _ hct0.out
   have c0:wr.cell? ⟨g,i*4,none⟩=some (.int .i64 k):=by rw [hr,Nat.mul_comm];exact h0'
   have c1:wr.cell? ⟨g,i*4+1,none⟩=some (.int .i64 m0):=by rw [hr,Nat.mul_comm];exact h1'
   have c2:wr.cell? ⟨g,i*4+2,none⟩=some (.string s):=by rw [hr,Nat.mul_comm];exact h2'
   have c3:wr.cell? ⟨g,i*4+3,none⟩=some (.slice A' m c):=by rw [hr,Nat.mul_comm];exact h3'
   have hint:(i:Int) < (nn:Int):=by omega
   clear hr h0' h1' h2' h3'
   have HBT:=Lib.hid (belA (Below.refl wr.heap.size wr) (Obj.cells #[.int .i64 k,.int .i64 m0,.string s,.slice A' m c] 51))
   have HBX:=Lib.hid (heap_alloc_new wr (Obj.cells #[.int .i64 k,.int .i64 m0,.string s,.slice A' m c] 51))
   gi_wp2
   refine ⟨trivial,callsIn_wide.2 ((pname_any _ _ _ _ _ _ _).mono ?_)⟩
   rintro e w2 ⟨rfl,h2'⟩
   rw [hnv]
   have HB2:=Lib.hid (HBT.out.trans (h2'.mono HBT.out.size))
   have HX2:=Lib.hid ((h2'.block _ (heap_lt HBX.out)).trans HBX.out)
   have HS:=Lib.hid h2'.size
   have keep:=fun {j:Nat} {o:Obj} (h:wr.heap[j]? =some o) => (HB2.out.block j (heap_lt h)).trans h
   have hn2:=Lib.hid (keep hb1.out)
   have hq2:=Lib.hid (keep hb2.out)
   have hc2:=Lib.hid (fun h => keep (hct.out h))
   have hJ2:=Lib.hid (hJ _ _ _ hJs.out HB2.out)
   obtain ⟨t0,t1,t2,t3⟩:=box4 HX2.out
   have b0:=cell_of_row w2 _ 0 _ _ _ hn2.out
   have b1:=cell_of_row w2 _ 0 _ _ _ hq2.out
   clear keep h2' hnv HBT HBX
   have skip:sel i=false→(List.range (i+1)).filter sel=(List.range i).filter sel:=fun h => by rw [List.range_succ,List.filter_append];simp [h]
   have take:sel i=true→(List.range (i+1)).filter sel=(List.range i).filter sel++[i]:=fun h => by rw [List.range_succ,List.filter_append];simp [h]
   have SK:=Lib.hid skip
   have TA:=Lib.hid take
   have HSE:=Lib.hid hsel
   clear skip take hsel
   cases b with
   | false =>
    gi_wp2
    refine ⟨nofun,?_⟩
    gi_wp2
    go_roundw
    case rel => exact ⟨i+1,pre,by first | rfl | go_num,by omega,Lib.hid (by rw [SK.out (by rw [HSE.out];rfl)];exact hx.out),hn2,hq2,hc2,hJ2⟩
    case measure => simp [intOf];omega
   | true =>
   cases hz:z'.toList == z.toList with
   | false =>
    gi_wp2
    refine ⟨nofun,?_⟩
    gi_wp2
    go_roundw
    case rel => exact ⟨i+1,pre,by first | rfl | go_num,by omega,Lib.hid (by rw [SK.out (by rw [HSE.out,hz];rfl)];exact hx.out),hn2,hq2,hc2,hJ2⟩
    case measure => simp [intOf];omega
   | true =>
   cases hq:(q':Int) == (q:Int) with
   | false =>
    gi_wp2
    refine ⟨nofun,?_⟩
    gi_wp2
    go_roundw
    case rel => exact ⟨i+1,pre,by first | rfl | go_num,by omega,Lib.hid (by rw [SK.out (by rw [HSE.out,hz,hq];rfl)];exact hx.out),hn2,hq2,hc2,hJ2⟩
    case measure => simp [intOf];omega
   | true =>
    have hsx:sel i=true:=by rw [HSE.out,hz,hq];rfl
    have ht:=Lib.hid (TA.out hsx)
    obtain ⟨x,hxv⟩:∃ x:Sx nn sel,x.1=i:=⟨⟨i,hin,hsx⟩,rfl⟩
    have HXn:=Lib.hid (show (pre++[x]).map Subtype.val=(List.range i).filter sel++[i] by rw [List.map_append,hx.out,List.map_singleton,hxv])
    obtain ⟨fn,tmps,assign,body,hy,hR⟩:=hY pre x w2 hJ2.out hlen
    unfold encX at hy
    rw [hxv,hval] at hy
    clear hxv hval SK TA HSE
    gi_wp2
    refine hR.mono ?_
    rintro e W3 (⟨rfl,hJ3,hk3⟩ | ⟨rfl,hJx3⟩)
    ·have hn3:=Lib.hid ((hk3 nb hB.2.1.1 hB.2.1.2).trans hn2.out)
     have hq3:=Lib.hid ((hk3 qb hB.2.2.1 hB.2.2.2).trans hq2.out)
     have hc3:=Lib.hid (fun h:0 < nn => (hk3 g hg1 hg2).trans (hc2.out h))
     have HJ:=Lib.hid hJ3
     clear hk3 hJ3
     gi_wp2
     go_roundw
     case rel => exact ⟨i+1,pre++[x],by first | rfl | go_num,by omega,Lib.hid (by rw [ht.out];exact HXn.out),hn3,hq3,hc3,HJ⟩
     case measure => simp [intOf];omega
    ·gi_wp2
     refine bodyPost_ret (results_none rfl _ _ _) rfl ?_
     exact ⟨⟨_,rfl⟩,.inr ⟨pre++[x],trivial,hJx3⟩⟩
theorem named_stops (n hb nb qb nn cc n1 rb g:Nat) (A:Option Addr) (hA:0 < nn→A=some ⟨g,0,none⟩) (cs:Array Value) (z:ByteArray) (q:Nat) (sel:Nat→Bool) (hcs:HdC cs nn z q sel) (w:World) (hn:1≤n) (hnn:nn≤100000)
 (hB:(hb < n1∧hb≠rb)∧(nb < n1∧nb≠rb)∧qb < n1∧qb≠rb) (hgb:0 < nn→g < n1∧g≠rb) {f0 f1 f2 fg:Nat × Nat}
 (h1:w.heap[hb]? =some (.cells #[.slice A nn cc] 47 f0)) (h2:w.heap[nb]? =some (.cells #[.string z] 9 f1)) (h3:w.heap[qb]? =some (.cells #[.int .i64 (q:Int)] 3 f2)) (hc:0 < nn→w.heap[g]? =some (.cells cs 51 fg)) :
 SeqStopsK Fence.wide n Tryz.prog 305 #[.pointer (some ⟨hb,0,none⟩),.pointer (some ⟨nb,0,none⟩),.pointer (some ⟨qb,0,none⟩)] (encX (nn:=nn) (sel:=sel) cs) (Kb1 n1 rb) (fun ys => ys.map Subtype.val=(List.range nn).filter sel) (fun _ => True) nn w:=fun l J Jx W hW hJ _ hY h0 =>
 named_in n l hb nb qb nn cc n1 rb g A hA cs z q sel hcs hn hnn J Jx W hB hgb ((hW.block hb (heap_lt h1)).trans h1) ((hW.block nb (heap_lt h2)).trans h2) ((hW.block qb (heap_lt h3)).trans h3) (fun h => (hW.block g (heap_lt (hc h))).trans (hc h)) (fun s W1 W2 hs hb => hJ s W1 W2 none hs (grown_of hb) nofun) hY h0
theorem inamed_any (A:Option Addr) (nn cc:Nat) (z:ByteArray) (q:Int) (w:World):Calls Tryz.prog 241 #[.slice A nn cc,.string z,.int .i64 q] w fun e w' => e=.returned (.func (.func 305) #[] #[.pointer (some ⟨w.heap.size,0,none⟩),.pointer (some ⟨w.heap.size+1,0,none⟩),.pointer (some ⟨w.heap.size+2,0,none⟩)])∧
 w'=((w.alloc (.cells #[.slice A nn cc] 47)).alloc (.cells #[.string z] 9)).alloc (.cells #[.int .i64 q] 3):=by
 go_enter Tryz.func241,Tryz.ntmps241
 go_wp2
 go_ret
 exact ⟨by simp,rfl⟩
structure NdI (w W:World) (B ob:Nat) (ks:List Nat) (v:Value):Prop where
 bx:W.heap[ob]? =some (.cells #[v] 24 (0,0))
 own:W.ownsRow B 3 1 v ks.length (intsV ks)
 low:Below w.heap.size w W
 lo:w.heap.size≤ob∧ob < B∧B≤W.heap.size
theorem NdI.below {w W W':World} {B ob:Nat} {ks:List Nat} {v:Value} (h:NdI w W B ob ks v) (hb:Below W.heap.size W W'):NdI w W' B ob ks v:=
 ⟨(hb.block _ (heap_lt h.bx)).trans h.bx,own_below h.own hb,h.low.trans (hb.mono h.low.size),h.lo.1,h.lo.2.1,Nat.le_trans h.lo.2.2 hb.size⟩
theorem NdI.key {w W W':World} {B ob:Nat} {ks:List Nat} {v:Value} {row:Option Nat} (h:NdI w W B ob ks v) (hg:W.grownBy W' row) (hr:∀ q,row=some q→w.heap.size≤q∧∃ o:Obj,W.heap[q]? =some o∧o.isCells=false):NdI w W' B ob ks v:=by
 have key:=key_grown hg fun q e => (hr q e).2
 refine ⟨key _ _ _ _ h.bx,own_keep h.own fun q hq => ?_,h.low.grown hg h.low.size fun k e => (hr k e).1,h.lo.1,h.lo.2.1,Nat.le_trans h.lo.2.2 hg.size⟩
 rcases h.own.2 with ⟨hv,_⟩ | ⟨g',cap,cur,hv,_,hh,_⟩
 ·rw [hv] at hq;simp [Value.ownBlock] at hq
 ·rw [hv] at hq
  simp [Value.ownBlock] at hq
  subst hq
  exact (key _ _ _ _ hh).trans hh.symm
theorem NdI.nr {w W:World} {B ob:Nat} {ks:List Nat} {v:Value} (h:NdI w W B ob ks v):NR W ks v:=by
 obtain ⟨A,c,rfl,h1,h2,_,h3⟩:=own_open h.own
 refine ⟨A,c,rfl,h1,h2,fun hne => ?_⟩
 obtain ⟨g,cur,rfl,_,hh,hcur⟩:=h3 (List.length_pos_iff.2 hne)
 refine ⟨g,0,cur,_,rfl,hh,fun i hi => ?_⟩
 rw [Nat.zero_add,hcur i (by omega)]
 unfold intsV
 rw [List.getElem?_map,List.getD_eq_getElem?_getD,List.getElem?_eq_getElem hi]
 rfl
theorem NdI.far {w W:World} {B ob:Nat} {ks:List Nat} {v:Value} (h:NdI w W B ob ks v):∀ g off m c,v=.slice (some ⟨g,off,none⟩) m c→w.heap.size≤g:=by
 have hlo:=h.lo
 rcases h.own.2 with ⟨hv,_⟩ | ⟨g',cap,cur,hv,hg,hh,_⟩
 ·intro g off m c e
  rw [hv] at e
  cases e
 ·intro g off m c e
  rw [hv] at e
  cases e
  omega
theorem NdI.push {w W W1:World} {B ob:Nat} {ks:List Nat} {v v':Value} (h:NdI w W B ob ks v) (k:Nat) (hb:Below B W W1) (hbo:W1.ownsRow B 3 1 v' (ks.length+1) (intsV ks++[.int .i64 (k:Int)])):NdI w (W1.setCell ⟨ob,0,none⟩ v') B ob (ks++[k]) v':=by
 obtain ⟨h1,h2,h3⟩:=h.lo
 have hx:=(hb.block ob h2).trans h.bx
 refine ⟨by simpa using blk_set hx 0 v',?_,(h.low.trans (hb.mono (by omega))).setCell (p:=⟨ob,0,none⟩) h1 _,h1,h2,by simpa using Nat.le_trans h3 hb.size⟩
 have e:intsV (ks++[k])=intsV ks++[.int .i64 (k:Int)]:=by simp [intsV]
 rw [e,List.length_append]
 exact own_keep hbo fun g hg => Below.heap_setCell _ _ _ g fun e => by
  have e:g=ob:=e
  have:=ownBlock_ge hbo g hg
  omega
theorem NdI.step {w W W1:World} {B ob:Nat} {ks:List Nat} {v:Value} (h:NdI w W B ob ks v) (hb:Below W.heap.size W W1) (k:Nat):∀ v' w9,w9.ownsRow B 3 1 v' (ks.length+1) (intsV ks++[.int .i64 (k:Int)])→W1.grownBy w9 v.ownBlock→
 ∃ A m c,v'=.slice A m c∧w9.cell? ⟨ob,0,none⟩=some v∧w9.frozen? ⟨ob,0,none⟩=false∧ob < w9.heap.size∧Hid (NdI w (w9.setCell ⟨ob,0,none⟩ v') B ob (ks++[k]) v'∧W.heap.size≤w9.heap.size∧
  ∀ b o,W.heap[b]? =some o→b≠ob→o.isCells=false∨b < B→(w9.setCell ⟨ob,0,none⟩ v').heap[b]? =some o):=fun v' w9 ho hg => by
 have hb9:Below B W1 w9:=below_own (own_below h.own hb) hg (Nat.le_trans h.lo.2.2 hb.size)
 have BX:=(hb9.block _ h.lo.2.1).trans ((hb.block _ (heap_lt h.bx)).trans h.bx)
 have HP:=h.push k ((hb.mono h.lo.2.2).trans hb9) ho
 obtain ⟨A,c,e,_⟩:=own_open ho
 refine ⟨A,_,c,e,cell_of_row w9 ob 0 _ _ _ BX,by simp [World.frozen?,BX],heap_lt BX,Lib.hid ⟨HP,Nat.le_trans hb.size hg.size,fun b o hbo hne hc => ?_⟩⟩
 refine (Below.heap_setCell _ _ _ b hne).trans ((hg.block b (Nat.lt_of_lt_of_le (heap_lt hbo) hb.size) fun e' => ?_).trans ((hb.block b (heap_lt hbo)).trans hbo))
 rcases hc with hc | hc
 ·obtain ⟨g',cap,cur,hv,_,hh,_⟩:=h.own.2.resolve_left (fun q => by rw [q.1] at e';cases e')
  rw [hv] at e'
  injection e' with e'
  subst e'
  rw [hh] at hbo
  injection hbo with hbo
  subst hbo
  cases hc
 ·have:=ownBlock_ge h.own b e'.symm
  omega
theorem wpListIn_pushI {F:Fence} {n:Nat} (w:World) {ops:Array Oper} {rest:List Oper} {o:Oper} {a:Act} {Q:Exit→Act→World→Prop} (hgd:o.guard=none) (s x:Operand)
 (ho:o.op=.call {callee:=.builtin .append,args:=#[s,x],argTypes:=#[24,24]}) (base:Nat) (v:Value) (k:Nat) (xs:List Value) (hs:a.eval s=v) (hown:w.ownsRow base 3 1 v k xs)
 (g c:Nat) (u:Value) (hx:a.eval x=.slice (some ⟨g,0,none⟩) 1 c) (hu:w.cell? ⟨g,0,none⟩=some u) (h1:u.oneCell'=true) (hm:k≤100000) (hbase:base≤w.heap.size)
 (h:∀ v' w',w'.ownsRow base 3 1 v' (k+1) (xs++[u])→w.grownBy w' v.ownBlock→wpListIn F n Tryz.prog ops Q rest (a.put o.dst v') w'):wpListIn F n Tryz.prog ops Q (o ::rest) a w:=by
 obtain ⟨i,hi,hz,hsz,hby⟩:=elInt8.hi
 refine wpListIn_append_own w hgd s x 24 ho base 3 i (.int .i64 0) 1 8 elInt8.ht hi hz hsz hby elInt8.hzs (by omega) v k xs hs hown ⟨g,0,none⟩ 1 c [u] hx rfl ?_ ?_ (by unfold maxLen;omega) (by omega) hbase fun v' w' h2 h3 _ => h v' w' h2 h3
 ·intro j u' hj
  match j,hj with
  | 0,hj => simp at hj;subst hj;simpa [Addr.add] using hu
 ·intro u' hu'
  simp at hu'
  subst hu'
  exact h1
set_option maxRecDepth 100000 in
set_option maxHeartbeats 8000000 in
theorem indexNamed_any {w:World} (A:Option Addr) (nn cc g:Nat) (hA:0 < nn→A=some ⟨g,0,none⟩) (cs:Array Value) (z:ByteArray) (q:Nat) (sel:Nat→Bool) (hcs:HdC cs nn z q sel) (hnn:nn≤100000) {fg:Nat × Nat} (hc:0 < nn→w.heap[g]? =some (.cells cs 51 fg)) :
 Calls Tryz.prog 170 #[.slice A nn cc,.string z,.int .i64 (q:Int)] w fun e w' => (∃ v,e=.returned v∧NR w' ((List.range nn).filter sel) v)∧Below w.heap.size w w':=by
 have HCS:=Lib.hid hcs
 have HC:=Lib.hid hc
 clear hcs hc
 refine (callsIn_wide (n:=10)).1 (callsIn_of_wp_marks Tryz.func170 rfl trivial (wpIn_wide.2 ?_))
 simp only [Tryz.ntmps170,List.size_toArray,List.length_cons,List.length_nil,Nat.reduceAdd,Nat.reduceSub,Array.replicate_succ,Array.replicate_zero,List.push_toArray,List.append_toArray,List.nil_append,List.cons_append]
 go_wp2_with fail
 refine (inamed_any _ _ _ _ _ _).mono ?_
 rintro e w1 ⟨rfl,rfl⟩
 go_wp2_with fail
 obtain ⟨W7,hW⟩:∃ W7,W7=((((w.alloc (Obj.cells #[.slice none 0 0] 24)).alloc (Obj.cells #[.slice A nn cc] 47)).alloc (Obj.cells #[.string z] 9)).alloc (Obj.cells #[.int .i64 (q:Int)] 3)):=⟨_,rfl⟩
 have hs7:W7.heap.size=w.heap.size+4:=by rw [hW];simp
 have BW7:=Lib.hid (show Below w.heap.size w W7 by rw [hW];exact belA (belA (belA (belA (Below.refl _ _) _) _) _) _)
 have H0:W7.heap[w.heap.size]? =some (.cells #[.slice none 0 0] 24 (0,0)):=by
  rw [hW,Below.heap_alloc _ _ _ (by simp;omega),Below.heap_alloc _ _ _ (by simp;omega),Below.heap_alloc _ _ _ (by simp)];exact heap_alloc_new _ _
 have H1:W7.heap[w.heap.size+1]? =some (.cells #[.slice A nn cc] 47 (0,0)):=by
  rw [hW,Below.heap_alloc _ _ _ (by simp),Below.heap_alloc _ _ _ (by simp)];exact heap_at _ _ (by simp)
 have H2:W7.heap[w.heap.size+2]? =some (.cells #[.string z] 9 (0,0)):=by
  rw [hW,Below.heap_alloc _ _ _ (by simp)];exact heap_at _ _ (by simp)
 have H3:W7.heap[w.heap.size+3]? =some (.cells #[.int .i64 (q:Int)] 3 (0,0)):=by
  rw [hW];exact heap_at _ _ (by simp)
 rw [← hW]
 have I0:=Lib.hid (show NdI w W7 W7.heap.size w.heap.size [] (.slice none 0 0) from ⟨H0,⟨rfl,.inl ⟨rfl,rfl⟩⟩,BW7.out,Nat.le_refl _,by omega,Nat.le_refl _⟩)
 have BS:=named_stops 9 (w.heap.size+1) (w.heap.size+2) (w.heap.size+3) nn cc W7.heap.size w.heap.size g A hA cs z q sel HCS.out W7 (by omega) (by omega) ⟨⟨by omega,by omega⟩,⟨by omega,by omega⟩,by omega,by omega⟩ (fun h => by have:=heap_lt (HC.out h);exact ⟨by omega,by omega⟩) H1 H2 H3 (fun h => (BW7.out.block _ (heap_lt (HC.out h))).trans (HC.out h))
 clear hW H0 H1 H2 H3
 refine (wpIn_wide (n:=10)).1 (wpIn_rangeFunc_ownH (n:=10) rfl (by omega) (gf:=305) (lb:=#[.pointer (some ⟨w.heap.size+1,0,none⟩),.pointer (some ⟨w.heap.size+2,0,none⟩),.pointer (some ⟨w.heap.size+3,0,none⟩)]) rfl trivial (enters_of Tryz.func305 (by kernel_rfl) rfl) BS
  (fun h k => h.trans k) (fun W l o o' hl ho _ _ b hb _ => World.putObj_heap_other (by omega)) (Below.refl _ _) (fun _ => rfl)
  (fun pre W => ∃ v,NdI w W W7.heap.size w.heap.size (pre.map Subtype.val) v) (fun _ _ _ => False) ?_ (fun _ _ _ _ _ h _ _ => h) ⟨_,I0.out⟩
  (fun x a' _ => a'= {tmps:=#[.slice A nn cc,.string z,.int .i64 (q:Int),undef,undef,undef,.slice none 0 0,.pointer (some ⟨w.heap.size,0,none⟩),.int .i64 (x.1:Int),.slice A nn cc,.string z,.int .i64 (q:Int),.func (.func 305) #[] #[.pointer (some ⟨w.heap.size+1,0,none⟩),.pointer (some ⟨w.heap.size+2,0,none⟩),.pointer (some ⟨w.heap.size+3,0,none⟩)],.int .i64 (x.1:Int),valAt cs x.1,undef,undef,undef,undef,undef],defers:=[]}) ?_ ?_ ?_ ?_ ?_)
 ·rintro pre A0 B0 row ⟨v,hI⟩ hg hr
  exact ⟨v,hI.key hg fun q e => ⟨by have:=(hr q e).1;omega,(hr q e).2⟩⟩
 ·rintro x a' _ A0 B0 row h _ _
  exact h
 ·rintro l' pre x W K ⟨v,hI⟩ hK
  unfold encX
  gi_wp2
  exact hK _ _ ⟨Nat.le_refl _,fun _ _ _ h _ => h⟩ (fun _ _ _ => rfl) ⟨v,hI⟩ rfl
 ·rintro l' pre x a' W hl' ⟨rr,hrr⟩ ⟨v,hI⟩ rfl hlen
  refine wpIn_block ?_
  have HI:=Lib.hid hI
  have b0:=cell_of_row W _ 0 _ _ _ hI.bx
  have hob:=hI.lo
  have hsz:=heap_lt hI.bx
  have BB:=Lib.hid (show Below W.heap.size W (W.alloc (Obj.cells #[.int .i64 (x.1:Int)] 3)) from belA (Below.refl _ _) _)
  clear hI
  gi_wp2_with (refine wpListIn_pushI _ rfl _ _ rfl W7.heap.size v _ _ rfl (own_below HI.out.own BB.out) W.heap.size 1 (.int .i64 (x.1:Int)) rfl (cell_of_row _ _ 0 _ _ _ (heap_alloc_new _ _)) rfl (by simp;omega) (Nat.le_trans hob.2.2 BB.out.size) ?_;intro v' w9 ho9 hb9;obtain ⟨A9,m9,c9,rfl,b9,f9,l9,H9⟩:=HI.out.step BB.out x.1 _ _ ho9 hb9;clear ho9)
  obtain ⟨H9,hs9,hk9⟩:=H9.out
  refine ⟨⟨by simpa using hs9,fun k o _ hk ho => hk9 k o hk (fun e => ?_) (.inl ho)⟩,fun b h1 h2 => ?_,_,by rw [List.map_append];exact H9⟩
  ·subst e
   rw [HI.out.bx] at hk
   injection hk with hk
   subst hk
   cases ho
  ·obtain ⟨o,ho⟩:∃ o,W.heap[b]? =some o:=⟨W.heap[b]'(by omega),by simp⟩
   exact (hk9 b o ho h2 (.inr h1)).trans ho.symm
 ·rintro D' xs W hD' hxs ⟨v,hI⟩ hK
  have hxs:xs.map Subtype.val=(List.range nn).filter sel:=hxs
  have HI:=Lib.hid hI
  have HK:=Lib.hid hK
  have b0:=cell_of_row W _ 0 _ _ _ hI.bx
  have hl:=heap_lt hI.bx
  clear hI hK
  go_wp2_with fail
  refine retMD HK.out (v:=v) (by simp [results,go_sem]) rfl ?_
  have K9:=HI.out.key (grownBy_putObj' W D' (.deferred none)) fun q e => by cases e;exact ⟨by omega,_,HK.out,rfl⟩
  rw [hxs] at K9
  exact ⟨⟨v,rfl,K9.nr⟩,K9.low⟩
 ·rintro D' cc' pre W _ _ h _
  exact h.elim
end Go.Proofs.YtdgpmpccfjmmcaaGreatDoor
namespace Go.Proofs.YtdgpmpccfjmmcaaGreatDoor
open Go.RowKit
theorem rcatch_idle (p q r:Addr) (w:World) :
 CallsD Tryz.prog 33 #[.pointer (some p),.pointer (some q),.pointer (some r)] .returning w fun e u' w' => e=.returned (.tuple #[])∧u'=.returning∧w'=w:=by
 refine callsD_of_wpS Tryz.func33 rfl fun c₀ cs hu => ?_
 apply wpS_seq
 apply wpS_region
 simp [wpOpsS,go_sem,recoverD,hu,Tryz.ntmps33,Exit.thenS]
 apply wpS_seq
 apply wpS_region
 simp [wpOpsS,go_sem,recoverD,hu,Exit.thenS]
 refine wpS_cond (t:=false) (by simp [Act.eval,Array.replicate]) ?_
 simp only [Bool.false_eq_true,if_false]
 refine wpS_of_wp (wp_skip ?_)
 cases c₀
 simp_all [bodyPostS,results,Tryz.results33]
end Go.Proofs.YtdgpmpccfjmmcaaGreatDoor
namespace Go.Proofs.YtdgpmpccfjmmcaaGreatDoor
open Go.RowKit
def SenR (w:World) (lo:Nat) (xs:List Value) (ss:List (T × List ByteArray)):Prop:=∀ (k:Nat) (x:T × List ByteArray),ss[k]? =some x→
 ∃ k0 k1 k2 A m cc NA nc,xs[5*k]? =some (.int .i64 k0)∧xs[5*k+1]? =some (.int .i64 k1)∧xs[5*k+2]? =some (.string k2)∧xs[5*k+3]? =some (.slice A m cc)∧xs[5*k+4]? =some (.slice NA x.2.length nc)∧
  TP w (fun b => lo≤b) x.1 (.agg #[.int .i64 k0,.int .i64 k1,.string k2,.slice A m cc])∧x.1.good∧x.1.nodes≤1000∧x.2.length≤1000∧w.ownsRow lo 9 1 (.slice NA x.2.length nc) x.2.length (x.2.map Value.string)
theorem SenR.keep {w w':World} {lo:Nat} {xs:List Value} {ss:List (T × List ByteArray)} (h:SenR w lo xs ss) (hk:∀ (b:Nat) (cs:Array Value) (t:TypeId) (f:Nat × Nat),w.heap[b]? =some (.cells cs t f)→t=51∨t=9→w'.heap[b]? =some (.cells cs t f)):SenR w' lo xs ss:=by
 intro k x hx
 obtain ⟨k0,k1,k2,A,m,cc,NA,nc,h0,h1,h2,h3,h4,ht,hg,hn,hl,ho⟩:=h k x hx
 exact ⟨k0,k1,k2,A,m,cc,NA,nc,h0,h1,h2,h3,h4,ht.keep fun b cs f hS hb => ⟨hk b cs _ f hb (.inl rfl),hS⟩,hg,hn,hl,own_keep ho fun g hg => by
  obtain ⟨cs,f,hh⟩:=Go.Lib.ownsRow_kind ho g hg
  exact (hk g cs _ f hh (.inr rfl)).trans hh.symm⟩
theorem SenR.push {w:World} {lo:Nat} {xs:List Value} {ss:List (T × List ByteArray)} (h:SenR w lo xs ss) (hl:xs.length=5*ss.length) {x:T × List ByteArray} {k0 k1:Int} {k2:ByteArray} {A:Option Addr} {m cc:Nat} {NA:Option Addr} {nc:Nat}
 (ht:TP w (fun b => lo≤b) x.1 (.agg #[.int .i64 k0,.int .i64 k1,.string k2,.slice A m cc])) (hg:x.1.good) (hn:x.1.nodes≤1000) (hn2:x.2.length≤1000) (ho:w.ownsRow lo 9 1 (.slice NA x.2.length nc) x.2.length (x.2.map Value.string)) :
 SenR w lo (xs++[.int .i64 k0,.int .i64 k1,.string k2,.slice A m cc,.slice NA x.2.length nc]) (ss++[x]):=by
 intro k y hy
 by_cases hk:k < ss.length
 ·rw [List.getElem?_append_left hk] at hy
  obtain ⟨k0,k1,k2,A,m,cc,NA,nc,h0,h1,h2,h3,h4,hr⟩:=h k y hy
  exact ⟨k0,k1,k2,A,m,cc,NA,nc,(List.getElem?_append_left (by omega)).trans h0,(List.getElem?_append_left (by omega)).trans h1,(List.getElem?_append_left (by omega)).trans h2,(List.getElem?_append_left (by omega)).trans h3,(List.getElem?_append_left (by omega)).trans h4,hr⟩
 ·rw [List.getElem?_append_right (by omega)] at hy
  obtain ⟨rfl,rfl⟩:k=ss.length∧x=y:=by
   rcases Nat.eq_or_lt_of_le (Nat.le_of_not_lt hk) with e | e
   ·subst e;simp at hy;exact ⟨rfl,hy⟩
   ·rw [List.getElem?_eq_none (by simp;omega)] at hy;cases hy
  have key:∀ q,(xs++[Value.int .i64 k0,.int .i64 k1,.string k2,.slice A m cc,.slice NA x.2.length nc])[5*ss.length+q]? =[Value.int .i64 k0,.int .i64 k1,.string k2,.slice A m cc,.slice NA x.2.length nc][q]?:=fun q => by
   rw [List.getElem?_append_right (by omega),hl]
   congr 1
   omega
  exact ⟨k0,k1,k2,A,m,cc,NA,nc,by simpa using key 0,by simpa using key 1,by simpa using key 2,by simpa using key 3,by simpa using key 4,ht,hg,hn,hn2,ho⟩
structure RdI (c:Rdc) (w wr:World) (j:Nat) (o:Value) (xs:List Value) (ss:List (T × List ByteArray)):Prop where
 rd:∃ ns,Pd wr c j ns
 low:Below w.heap.size w wr
 own:wr.ownsRow w.heap.size 54 5 o ss.length xs
 sr:SenR wr w.heap.size xs ss
 few:ss.length≤j
theorem Frp.keepS {c:Rdc} {w w1:World} {j:Nat} {ns:List ByteArray} (h:Frp (c.on w.heap.size) w w1) (hp:Pd w c j ns) {b:Nat} {cs:Array Value} {t:TypeId} {m:Nat × Nat} (hb:w.heap[b]? =some (.cells cs t m)) (ht:t≠104):w1.heap[b]? =some (.cells cs t m):=by
 refine h.keep b cs t m hb (fun e => ?_) fun _ => ?_
 ·subst e
  obtain ⟨_,_,_,_,_,hr⟩:=hp
  rw [show w.heap[(c.on w.heap.size).R]? =_ from hr.blk] at hb
  injection hb with hb
  injection hb with _ hb
  exact ht hb.symm
 ·have h1:=heap_lt hb
  have h2:=hp.base
  show b < c.B+(w.heap.size - c.B)
  omega
theorem RdI.row {c:Rdc} {w wr w1:World} {j:Nat} {o:Value} {xs:List Value} {ss:List (T × List ByteArray)} (h:RdI c w wr j o xs ss) (f:Frp (c.on wr.heap.size) wr w1) :
 w1.ownsRow w.heap.size 54 5 o ss.length xs∧SenR w1 w.heap.size xs ss:=by
 obtain ⟨ns,hp⟩:=h.rd
 refine ⟨own_keep h.own fun g hg => ?_,h.sr.keep fun b cs t m hb ht => f.keepS hp hb (by rcases ht with rfl | rfl <;> decide)⟩
 obtain ⟨cs,m,hh⟩:=Go.Lib.ownsRow_kind h.own g hg
 exact (f.keepS hp hh (by decide)).trans hh.symm
theorem Pd.lower {w:World} {c:Rdc} {j n:Nat} {ns:List ByteArray} (h:Pd w (c.on n) j ns) (hN:c.N=0):Pd w c j ns:=by
 obtain ⟨ht,hf,lv,nv,nn,hr⟩:=h
 exact ⟨⟨ht.len,ht.few,ht.long,ht.ok,ht.cap,ht.nil,ht.BR,ht.nm,ht.blk⟩,hf,lv,nv,nn,hr.blk,hr.lok,ownsRow_more hr.own (by show c.B+c.N≤c.B+(n - c.B);omega),hr.up,hr.few⟩
theorem Pd.stands {w w':World} {c:Rdc} {j:Nat} {ns:List ByteArray} (h:Pd w c j ns) (hk:∀ (b:Nat) (cs:Array Value) (t:TypeId) (f:Nat × Nat),w.heap[b]? =some (.cells cs t f)→t=116∨t=9∨t=104→w'.heap[b]? =some (.cells cs t f)):Pd w' c j ns:=by
 obtain ⟨ht,hf,lv,nv,nn,hr⟩:=h
 refine ⟨ht.keep fun b cs hh => (hk b cs _ _ hh (.inl rfl)).trans hh.symm,hf,lv,nv,nn,hk _ _ _ _ hr.blk (.inr (.inr rfl)),hr.lok,own_keep hr.own fun g hg => ?_,hr.up,hr.few⟩
 obtain ⟨cs,m,hh⟩:=Go.Lib.ownsRow_kind hr.own g hg
 exact (hk g cs _ m hh (.inr (.inl rfl))).trans hh.symm
theorem RdI.push {c:Rdc} {w wr w1 w8 w9:World} {j j1:Nat} {o o':Value} {xs:List Value} {ss:List (T × List ByteArray)} {x:T × List ByteArray} {ns1:List ByteArray} {k0 k1:Int} {k2:ByteArray} {A:Option Addr} {m cc:Nat} {NA:Option Addr} {nc:Nat}
 (h:RdI c w wr j o xs ss) (f:Frp (c.on wr.heap.size) wr w1) (hN:c.N=0) (hlo:w.heap.size≤c.B) (hp:Pd w1 (c.on wr.heap.size) j1 ns1)
 (ht:TP w1 (fun b => wr.heap.size≤b) x.1 (.agg #[.int .i64 k0,.int .i64 k1,.string k2,.slice A m cc])) (hgd:x.1.good) (hnd:j+x.1.nodes+1≤j1) (hnx:ns1=x.2)
 (ho:w1.ownsRow ((c.on wr.heap.size).B+(c.on wr.heap.size).N) 9 1 (.slice NA x.2.length nc) x.2.length (x.2.map Value.string)) (hb:Below w1.heap.size w1 w8)
 (hown:w9.ownsRow w.heap.size 54 5 o' (ss.length+1) (xs++[.int .i64 k0,.int .i64 k1,.string k2,.slice A m cc,.slice NA x.2.length nc])) (hg:w8.grownBy w9 o.ownBlock) :
 RdI c w w9 j1 o' (xs++[.int .i64 k0,.int .i64 k1,.string k2,.slice A m cc,.slice NA x.2.length nc]) (ss++[x]):=by
 obtain ⟨o1,s1⟩:=h.row f
 have o8:=own_below o1 hb
 have keep:∀ (b:Nat) (cs:Array Value) (t:TypeId) (f:Nat × Nat),w1.heap[b]? =some (.cells cs t f)→t≠54→w9.heap[b]? =some (.cells cs t f):=fun b cs t f hh hne => by
  have h8:=(hb.block b (heap_lt hh)).trans hh
  exact (hg.block b (heap_lt h8) (own_ne5 o8 h8 hne)).trans h8
 have hl:xs.length=5*ss.length:=by have:=own_len h.own;omega
 have hup:=hp.up
 have hfew:c.tn≤1000:=hp.1.few
 have hup':j1≤c.tn:=hup
 have hls:=h.low.size
 have hff:=h.few
 refine ⟨⟨ns1,(hp.lower hN).stands fun b cs t f hh ht => keep b cs t f hh (by rcases ht with rfl | rfl | rfl <;> decide)⟩,?_,by rw [List.length_append];exact hown,?_,by rw [List.length_append,List.length_singleton];omega⟩
 ·refine (((h.low.trans (f.low.mono hlo)).trans (hb.mono (Nat.le_trans hls f.size)))).grown hg (Nat.le_trans (Nat.le_trans hls f.size) hb.size) fun k hk => (h.own.lt k hk).1
 ·refine SenR.push (s1.keep fun b cs t f hh ht => keep b cs t f hh (by rcases ht with rfl | rfl <;> decide)) hl (ht.keep fun b cs f hS hh => ⟨keep b cs _ f hh (by decide),Nat.le_trans hls hS⟩) hgd (by omega) (by have h9:=hp.names;rw [hnx] at h9;omega) ?_
  refine ownsRow_more (own_keep ho fun g hg' => ?_) (by show w.heap.size≤c.B+(wr.heap.size - c.B);omega)
  obtain ⟨cs,m,hh⟩:=Go.Lib.ownsRow_kind ho g hg'
  exact (keep g cs _ m hh (by decide)).trans hh.symm
theorem RdI.set {c:Rdc} {w wr:World} {j:Nat} {o:Value} {xs:List Value} {ss:List (T × List ByteArray)} (h:RdI c w wr j o xs ss) {b:Nat} {cs:Array Value} {t:TypeId} {m:Nat × Nat} (hb:wr.heap[b]? =some (.cells cs t m)) (ht:t≠54∧t≠116∧t≠9∧t≠104∧t≠51) (hlo:w.heap.size≤b) (i:Nat) (u:Value):RdI c w (wr.setCell ⟨b,i,none⟩ u) j o xs ss:=by
 have keep:∀ (g:Nat) (cs':Array Value) (t':TypeId) (f:Nat × Nat),wr.heap[g]? =some (.cells cs' t' f)→t'≠t→(wr.setCell ⟨b,i,none⟩ u).heap[g]? =some (.cells cs' t' f):=fun g cs' t' f hh hne => (Below.heap_setCell _ _ _ _ (by
  rintro rfl
  rw [show wr.heap[_]? =_ from hb] at hh
  injection hh with hh
  injection hh with _ hh
  exact hne hh.symm)).trans hh
 obtain ⟨⟨ns,hp⟩,hlow,ho,hs,hf⟩:=h
 refine ⟨⟨ns,hp.stands fun g cs' t' f hh htt => keep g cs' t' f hh ?_⟩,hlow.setCell (p:=⟨b,i,none⟩) hlo u,own_keep ho fun g hg => ?_,hs.keep fun g cs' t' f hh htt => keep g cs' t' f hh ?_,hf⟩
 ·rcases htt with rfl | rfl | rfl
  ·exact ht.2.1.symm
  ·exact ht.2.2.1.symm
  ·exact ht.2.2.2.1.symm
 ·obtain ⟨cs',m',hh⟩:=Go.Lib.ownsRow_kind ho g hg
  exact (keep g cs' _ m' hh ht.1.symm).trans hh.symm
 ·rcases htt with rfl | rfl
  ·exact ht.2.2.2.2.symm
  ·exact ht.2.2.1.symm
end Go.Proofs.YtdgpmpccfjmmcaaGreatDoor
namespace Go.Proofs.YtdgpmpccfjmmcaaGreatDoor
open Go.RowKit
theorem nx_drop {c:Rdc} {i:Nat} {x:Tk} {r:List Tk} (h:c.tk.drop i=x ::r):nx c i=x:=nx_at h
theorem dropT {tk:List Tk} {i:Nat} {A B:List Tk} (h:tk.drop i=A++B):tk.drop (i+A.length)=B:=by
 rw [← List.drop_drop,h,List.drop_left]
theorem ba_eq45 (s:List UInt8):((ba s).toList == [45])=(s == [45]):=by rw [ByteArray.toList_eq,ba_data]
def nsA:P→List ByteArray→List ByteArray
 | .v _,_ => [ba [65]]
 | _,ns => ns
def vOk:P→List ByteArray→Prop
 | .v _,ns => ns=[]
 | _,_ => True
theorem at_op {c:Rdc} {D:Nat} {a:P} (ha:a.at_) {i:Nat} {ta rest:List Tk} (h:c.tk.drop i=ta++rest) (hk:atK a ta) {ns:List ByteArray} (hv:vOk a ns) (h5:∃ y r,rest=y ::r∧y.k=5):OpS c D i ns a.t (i+ta.length) (nsA a ns):=by
 obtain ⟨y,r,rfl,hy⟩:=h5
 cases a with
 | i n =>
  rcases hk with ⟨h0,x,z,rfl,h1,h2,h3,h4,h6⟩ | ⟨h0,x,rfl,h1,h2⟩
  ·have hx:nx c i=x:=nx_drop h
   have hz:nx c (i+1)=z:=nx_drop (dropT (A:=[x]) (B:=z ::y ::r) h)
   exact .named _ _ _ (by rw [hx];exact h1) (.int n (by rw [hz];exact h3) (by rw [hx,h2,ba_eq45];rfl) (by rw [hz,hx];exact h6) (by rw [hz,h4];exact int_neg h0 ha.1))
  ·have hx:nx c i=x:=nx_drop h
   exact .int n (by rw [hx];exact h1) (by rw [hx,h2];exact int_pos h0 ha.2)
 | a s =>
  obtain ⟨x,rfl,h1,h2⟩:=hk
  have hx:nx c i=x:=nx_drop h
  have hz:nx c (i+1)=y:=nx_drop (dropT (A:=[x]) (B:=y ::r) h)
  obtain ⟨⟨b,w,e,hb,_⟩,hp⟩:=ha
  have hq:=OpS.named (c:=c) (D:=D) (i:=i) (ns:=ns) (atT (nx c i).t) (i+1) ns (by rw [hx];exact h1) (.atom (by rw [hz];exact hy) (by
   rw [hx,h2,ba_eq45,e]
   have:b≠45:=by
    rintro rfl
    exact absurd hb (by decide)
   simp [this]) (by rw [hx,h2];exact hp))
  rw [hx,h2] at hq
  exact hq
 | v n =>
  obtain ⟨x,rfl,h1,h2⟩:=hk
  have hx:nx c i=x:=nx_drop h
  obtain rfl:n=0:=ha
  obtain rfl:ns=[]:=hv
  have hq:=OpS.var (c:=c) (D:=D) (i:=i) (ns:=[]) x hx h1
  rw [h2] at hq
  exact hq
 | c _ _ => exact ha.elim
def Fc.x (f:Fc):T:=cmpT (ba f.s) [f.a.t,f.b.t]
def Fc.ns (f:Fc):List ByteArray:=nsA f.b (nsA f.a [])
theorem fc_op {c:Rdc} {f:Fc} (hf:f.ok) (hv:vOk f.a []∧vOk f.b (nsA f.a [])) {i:Nat} {tks rest:List Tk} (h:c.tk.drop i=tks++rest) (hk:FcK f tks):OpS c 0 i [] f.x (i+tks.length) f.ns:=by
 obtain ⟨x0,x1,ta,x2,tb,x3,rfl,h0,h1,h2,hta,hx2,htb,hx3⟩:=hk
 simp only [List.append_assoc] at h
 have g0:nx c i=x0:=nx_drop h
 have d1:=dropT (A:=[x0]) h
 have g1:nx c (i+1)=x1:=nx_drop d1
 have d2:=dropT (A:=[x1]) d1
 have d3:=dropT d2
 have g2:nx c (i+1+1+ta.length)=x2:=nx_drop d3
 have d4:=dropT (A:=[x2]) d3
 have d5:=dropT d4
 have g3:nx c (i+1+1+ta.length+1+tb.length)=x3:=nx_drop d5
 have oa:=at_op (D:=1) hf.2.1 d2 hta hv.1 ⟨x2,_,rfl,hx2.1⟩
 have ob:=at_op (D:=1) hf.2.2 d4 htb hv.2 ⟨x3,_,rfl,hx3.1⟩
 have m2:isM c.tk c.s.size (i+1+1+ta.length) ⟨#[44]⟩=true:=by
  unfold isM
  rw [show nxT c.tk c.s.size (i+1+1+ta.length)=x2 from g2,hx2.1,hx2.2,ba_toList,ByteArray.toList_eq]
  rfl
 have m3:isM c.tk c.s.size (i+1+1+ta.length+1+tb.length) ⟨#[44]⟩=false∧isM c.tk c.s.size (i+1+1+ta.length+1+tb.length) ⟨#[41]⟩=true:=by
  unfold isM
  rw [show nxT c.tk c.s.size (i+1+1+ta.length+1+tb.length)=x3 from g3,hx3.1,hx3.2,ba_toList,ByteArray.toList_eq,ByteArray.toList_eq]
  exact ⟨rfl,rfl⟩
 have ta_:=zterm_any (c:=c) (D:=1) (most:=999) (by omega) oa (.inr (.inr ⟨by rw [show nx c (i+[x0].length+[x1].length+ta.length)=x2 from g2];exact hx2.1,by rw [show nx c (i+[x0].length+[x1].length+ta.length)=x2 from g2,hx2.2,ba_toList];rfl,rfl⟩))
 have tb_:=zterm_any (c:=c) (D:=1) (most:=999) (by omega) ob (.inr (.inl ⟨by rw [show nx c (i+[x0].length+[x1].length+ta.length+[x2].length+tb.length)=x3 from g3];exact hx3.1,by rw [show nx c (i+[x0].length+[x1].length+ta.length+[x2].length+tb.length)=x3 from g3,hx3.2,ba_toList];rfl⟩))
 have hq:=OpS.named (c:=c) (D:=0) (i:=i) (ns:=[]) _ _ _ (by rw [g0];exact h0) (.cmp f.a.t _ _ [f.a.t,f.b.t] _ (nsA f.b (nsA f.a [])) (by rw [g1];exact h2) ta_ (.go f.b.t _ _ m2 tb_ (.stop m3.1)) m3.2)
 rw [g0,h1] at hq
 have e:i+([x0]++([x1]++(ta++([x2]++(tb++[x3]))))).length=i+1+1+ta.length+[x2].length+tb.length+1:=by simp;omega
 rw [e]
 exact hq
theorem fc_te (f:Fc):TE f.x (P.c f.s [f.a,f.b]).t:=by
 refine ⟨rfl,rfl,rfl,rfl,fun i hi => ?_⟩
 match i,hi with
 | 0,_ => exact TE.refl _
 | 1,_ => exact TE.refl _
def SentS (c:Rdc) (j:Nat) (x:T × List ByteArray) (j':Nat):Prop:=∃ j2,OpS c 0 j [] x.1 j2 x.2∧(nx c j2).k=6∧j'=j2+1
def ReadS (c:Rdc):Nat→List (T × List ByteArray)→Prop
 | j,[] => c.tn≤j
 | j,x ::l => ∃ j',j < j'∧j'≤c.tn∧(∀ n,SentS (c.on n) j x j')∧ReadS c j' l
theorem reads_prog {c:Rdc} (htn:c.tn=c.tk.length):∀ (r:List Fc) (j:Nat) (tks:List Tk),(∀ f ∈ r,f.ok∧vOk f.a []∧vOk f.b (nsA f.a []))→ProgK r tks→c.tk.drop j=tks→j≤c.tk.length→ReadS c j (r.map fun f => (f.x,f.ns))
 | [],j,tks,_,hk,h,hj => by
  obtain rfl:tks=[]:=hk
  have:=congrArg List.length h
  rw [List.length_drop] at this
  show c.tn≤j
  simp at this
  omega
 | f ::r,j,tks,hf,hk,h,hj => by
  obtain ⟨a,z,b,rfl,ha,hz,hb⟩:=hk
  obtain ⟨h1,h2⟩:=hf f (List.mem_cons_self ..)
  have d1:=dropT h
  have hl:=congrArg List.length h
  rw [List.length_drop] at hl
  simp only [List.length_append,List.length_cons] at hl
  refine ⟨j+a.length+1,by omega,by omega,fun n => ⟨j+a.length,fc_op (c:=c.on n) h1 h2 h ha,?_,rfl⟩,reads_prog htn r _ b (fun g hg => hf g (List.mem_cons_of_mem _ hg)) hb (dropT (A:=[z]) d1) (by omega)⟩
  rw [show nx (c.on n) (j+a.length)=z from nx_drop (c:=c.on n) d1]
  exact hz
def RdAs (s:ByteArray) (l:List (T × List ByteArray)):Prop:=∃ tk,lexN s=.ok tk∧∀ c:Rdc,c.tk=tk→c.tn=tk.length→ReadS c 0 l
def OneAs (s:ByteArray) (x:T × List ByteArray):Prop:=(∃ l y,lexN s=.ok l∧l.getLast? =some y∧y.k≠6)∧RdAs (s++⟨#[32,46]⟩) [x]
theorem rdas_prog {r:List Fc} (hf:∀ f ∈ r,f.ok∧vOk f.a []∧vOk f.b (nsA f.a [])) (hr:r≠[]) (hl:r.length≤70) (hs:(progX r).length≤4096):RdAs (ba (progX r)) (r.map fun f => (f.x,f.ns)):=by
 obtain ⟨tk,h1,h2,_⟩:=lexn_prog (fun f h => (hf f h).1) hr hl hs
 refine ⟨tk,h2,fun c e1 e2 => ?_⟩
 subst e1
 exact reads_prog e2 r 0 c.tk hf h1 rfl (Nat.zero_le _)
theorem fck_last {f:Fc} {tks:List Tk} (h:FcK f tks):∃ y,tks.getLast? =some y∧y.k≠6:=by
 obtain ⟨x0,x1,ta,x2,tb,x3,rfl,_,_,_,_,_,_,h3⟩:=h
 refine ⟨x3,by simp only [List.getLast?_append];rfl,?_⟩
 rw [h3.1]
 decide
theorem oneas_query {f:Fc} (hf:f.ok∧vOk f.a []∧vOk f.b (nsA f.a [])) (hs:f.tx.length≤4000):OneAs (ba f.tx) (f.x,f.ns):=by
 obtain ⟨⟨l,h1,h2⟩,t,z,h3,h4,_,h5⟩:=lexn_query hf.1 hs
 obtain ⟨y,hy⟩:=fck_last h1
 refine ⟨⟨l,y,h2,hy⟩,t++[z],?_,fun c e1 e2 => ?_⟩
 ·rw [← h5]
  congr 1
 ·exact reads_prog (by rw [e1];exact e2) [f] 0 (t++[z]) (fun g hg => by rw [List.mem_singleton.1 hg];exact hf) ⟨t,z,[],rfl,h3,h4,rfl⟩ e1 (Nat.zero_le _)
end Go.Proofs.YtdgpmpccfjmmcaaGreatDoor
