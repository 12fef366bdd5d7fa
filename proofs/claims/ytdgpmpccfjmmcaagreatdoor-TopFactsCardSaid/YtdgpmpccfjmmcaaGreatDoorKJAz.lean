/- The index:clauses that may fit a goal. The machine in memory:its boxes,the program,what its walks leave alone. -/
import Derived.Test.YtdgpmpccfjmmcaaGreatDoorKJAy
import Derived.Test.YtdgpmpccfjmmcaaGreatDoorKJAq
import Derived.Test.YtdgpmpccfjmmcaaGreatDoorKJAs
set_option linter.unusedVariables false
set_option linter.unusedSimpArgs false
namespace Go.Proofs.YtdgpmpccfjmmcaaGreatDoor
open Go.RowKit Go.Shelf
attribute [local go_sem] Oper.semAt_some
theorem tp_first {w:World} {S:Nat→Prop} {p:P} {v:Value} {s:List UInt8} {q:Nat} (h:TP w S p.t v) (hn:nameP p=some (s,q)):∃ (k n:Int) (A:Option Addr) (m c:Nat),v=.agg #[.int .i64 k,.int .i64 n,.string (ba s),.slice A m c]∧nameV k (ba s) m=.tuple #[.string (ba s),.int .i64 (q:Int),.bool true]∧
 (0 < q→0 < m∧∃ (b:Nat) (k0 k1:Int) (k2:ByteArray) (A0:Option Addr) (m0 c0:Nat),A=some ⟨b,0,none⟩∧AC w b 0 [.int .i64 k0,.int .i64 k1,.string k2,.slice A0 m0 c0]∧TP w S (arg0 p).t (.agg #[.int .i64 k0,.int .i64 k1,.string k2,.slice A0 m0 c0])):=by
 cases p with
 | v n => cases hn
 | i n => cases hn
 | a s' =>
  cases hn
  obtain ⟨A,c,rfl,_⟩:=h
  exact ⟨_,_,_,_,_,rfl,rfl,fun h => absurd h (by omega)⟩
 | c s' l =>
  cases hn
  obtain ⟨k,n,s0,A,m,c,rfl⟩:=h.agg
  obtain ⟨e0,e1,e2,rfl,_,_,hx⟩:=h.args
  cases e0;cases e1;cases e2
  refine ⟨_,_,_,_,_,rfl,rfl,fun h0 => ⟨h0,?_⟩⟩
  obtain ⟨b,k0,k1,k2,A0,m0,c0,rfl,_,_,h0',h1',h2',h3',ht⟩:=hx 0 h0
  cases l with
  | nil => cases h0
  | cons x l =>
   simp only [Nat.zero_mul,Nat.zero_add] at h0' h1' h2' h3'
   exact ⟨_,_,_,_,_,_,_,rfl,⟨h0',h1',h2',h3',trivial⟩,ht⟩
structure HdT (w:World) (hd:List P) (v:Value) (A:Option Addr) (cc g:Nat) (cs:Array Value) (fg:Nat × Nat):Prop where
 val:v=.slice A hd.length cc
 few:hd.length≤100000
 ptr:0 < hd.length→A=some ⟨g,0,none⟩∧w.heap[g]? =some (.cells cs 51 fg)
 tp:∀ i p,hd[i]? =some p→cs.size≥4*(i+1)∧TP w (fun _ => True) p.t (valAt cs i)
theorem HdT.below {w w':World} {hd:List P} {v:Value} {A:Option Addr} {cc g:Nat} {cs:Array Value} {fg:Nat × Nat} (h:HdT w hd v A cc g cs fg) (hb:Below w.heap.size w w'):HdT w' hd v A cc g cs fg:=
 ⟨h.val,h.few,fun q => let ⟨a,b⟩:=h.ptr q;⟨a,(hb.block _ (heap_lt b)).trans b⟩,fun i p hp => let ⟨a,b⟩:=h.tp i p hp;⟨a,b.below hb⟩⟩
theorem HdT.hdc {w:World} {hd:List P} {v:Value} {A:Option Addr} {cc g:Nat} {cs:Array Value} {fg:Nat × Nat} (h:HdT w hd v A cc g cs fg) (z:List UInt8) (q:Nat):HdC cs hd.length (ba z) q fun i => (hd[i]?.map nameP) == some (some (z,q)):=fun i hi => by
 obtain ⟨hs,ht⟩:=h.tp i _ (List.getElem?_eq_getElem hi)
 have g:=fun j (hj:j < 4) => (show cs[4*i+j]? =some (cs.getD (4*i+j) undef) by simp [Array.getD_eq_getD_getElem?,show 4*i+j < cs.size by omega])
 have g0:=g 0 (by omega)
 have g1:=g 1 (by omega)
 have g2:=g 2 (by omega)
 have g3:=g 3 (by omega)
 simp only [List.getElem?_eq_getElem hi]
 unfold valAt at ht
 simp only [Nat.add_zero] at g0
 cases hp:hd[i] with
 | v n =>
  rw [hp] at ht
  obtain ⟨A,c,e,_⟩:=ht
  injection e with e
  simp only [Array.mk.injEq,List.cons.injEq,and_true] at e
  rw [e.1] at g0;rw [e.2.1] at g1;rw [e.2.2.1] at g2;rw [e.2.2.2] at g3
  exact ⟨_,_,_,_,_,_,g0,g1,g2,g3,_,0,_,rfl,by simp [nameP]⟩
 | i n =>
  rw [hp] at ht
  obtain ⟨A,c,e,_⟩:=ht
  injection e with e
  simp only [Array.mk.injEq,List.cons.injEq,and_true] at e
  rw [e.1] at g0;rw [e.2.1] at g1;rw [e.2.2.1] at g2;rw [e.2.2.2] at g3
  exact ⟨_,_,_,_,_,_,g0,g1,g2,g3,_,0,_,rfl,by simp [nameP]⟩
 | a s =>
  rw [hp] at ht
  obtain ⟨A,c,e,_⟩:=ht
  injection e with e
  simp only [Array.mk.injEq,List.cons.injEq,and_true] at e
  rw [e.1] at g0;rw [e.2.1] at g1;rw [e.2.2.1] at g2;rw [e.2.2.2] at g3
  exact ⟨_,_,_,_,_,_,g0,g1,g2,g3,_,0,_,rfl,by simp [nameP,ba_ne];grind⟩
 | c s l =>
  rw [hp] at ht
  obtain ⟨A,c,e,_⟩:=ht
  injection e with e
  simp only [Array.mk.injEq,List.cons.injEq,and_true] at e
  rw [e.1] at g0;rw [e.2.1] at g1;rw [e.2.2.1] at g2;rw [e.2.2.2] at g3
  exact ⟨_,_,_,_,_,_,g0,g1,g2,g3,_,l.length,_,rfl,by simp [nameP,ba_ne];grind⟩
theorem named_any {w:World} {hd:List P} {v:Value} {A:Option Addr} {cc g:Nat} {cs:Array Value} {fg:Nat × Nat} (h:HdT w hd v A cc g cs fg) (z:List UInt8) (q:Nat) :
 Calls Tryz.prog 170 #[v,.string (ba z),.int .i64 (q:Int)] w fun e w' => (∃ v,e=.returned v∧NR w' ((List.range hd.length).filter fun i => (hd[i]?.map nameP) == some (some (z,q))) v)∧Below w.heap.size w w':=by
 obtain rfl:=h.val
 exact indexNamed_any A hd.length cc g (fun h0 => (h.ptr h0).1) cs (ba z) q _ (h.hdc z q) h.few (fun h0 => (h.ptr h0).2)
def wkS {nn:Nat} {sel:Nat→Bool} (hd:List P) (gp:P) (q:Nat) (pre:List (Sx nn sel)):List Nat:=(pre.map Subtype.val).filter fun i => q == 0 || !((hd[i]?.map fun p => clashP (arg0 p) (arg0 gp)).getD false)
theorem wkS_snoc {nn:Nat} {sel:Nat→Bool} (hd:List P) (gp:P) (q:Nat) (pre:List (Sx nn sel)) (x:Sx nn sel) (h:(q == 0 || !((hd[x.1]?.map fun p => clashP (arg0 p) (arg0 gp)).getD false))=true):wkS hd gp q (pre++[x])=wkS hd gp q pre++[x.1]:=by
 unfold wkS
 rw [List.map_append,List.filter_append]
 simp [h]
theorem wkS_skip {nn:Nat} {sel:Nat→Bool} (hd:List P) (gp:P) (q:Nat) (pre:List (Sx nn sel)) (x:Sx nn sel) (h:(q == 0 || !((hd[x.1]?.map fun p => clashP (arg0 p) (arg0 gp)).getD false))=false):wkS hd gp q (pre++[x])=wkS hd gp q pre:=by
 unfold wkS
 rw [List.map_append,List.filter_append]
 simp [h]
structure WhI (w W:World) (B ob tb qb:Nat) (gc:Array Value) (q:Nat) (ks:List Nat) (v:Value):Prop where
 nd:NdI w W B ob ks v
 bt:W.heap[tb]? =some (.cells gc 51 (0,0))
 bq:W.heap[qb]? =some (.cells #[.int .i64 (q:Int)] 3 (0,0))
 ne:tb≠ob∧tb < B∧qb≠ob∧qb < B
theorem WhI.below {w W W':World} {B ob tb qb:Nat} {gc:Array Value} {q:Nat} {ks:List Nat} {v:Value} (h:WhI w W B ob tb qb gc q ks v) (hb:Below W.heap.size W W'):WhI w W' B ob tb qb gc q ks v:=
 ⟨h.nd.below hb,(hb.block _ (heap_lt h.bt)).trans h.bt,(hb.block _ (heap_lt h.bq)).trans h.bq,h.ne⟩
theorem WhI.key {w W W':World} {B ob tb qb:Nat} {gc:Array Value} {q:Nat} {ks:List Nat} {v:Value} {row:Option Nat} (h:WhI w W B ob tb qb gc q ks v) (hg:W.grownBy W' row) (hr:∀ q,row=some q→w.heap.size≤q∧∃ o:Obj,W.heap[q]? =some o∧o.isCells=false):WhI w W' B ob tb qb gc q ks v:=
 have key:=key_grown hg fun q e => (hr q e).2
 ⟨h.nd.key hg hr,key _ _ _ _ h.bt,key _ _ _ _ h.bq,h.ne⟩
theorem WhI.fin {w W W9:World} {B ob tb qb n0:Nat} {gc:Array Value} {q:Nat} {ks:List Nat} {v v':Value} (h:WhI w W B ob tb qb gc q ks v) {k:Nat} (hh:NdI w (W9.setCell ⟨ob,0,none⟩ v') B ob (ks++[k]) v'∧W.heap.size≤W9.heap.size∧∀ b o,W.heap[b]? =some o→b≠ob→o.isCells=false∨b < B→(W9.setCell ⟨ob,0,none⟩ v').heap[b]? =some o) :
 KeepsFrom n0 W (W9.setCell ⟨ob,0,none⟩ v')∧Kb1 B ob W (W9.setCell ⟨ob,0,none⟩ v')∧WhI w (W9.setCell ⟨ob,0,none⟩ v') B ob tb qb gc q (ks++[k]) v':=by
 obtain ⟨H9,hs9,hk9⟩:=hh
 refine ⟨⟨by simpa using hs9,fun k o _ hk ho => hk9 k o hk (fun e => ?_) (.inl ho)⟩,fun b h1 h2 => ?_,H9,hk9 _ _ h.bt h.ne.1 (.inr h.ne.2.1),hk9 _ _ h.bq h.ne.2.2.1 (.inr h.ne.2.2.2),h.ne⟩
 ·subst e
  rw [h.nd.bx] at hk
  injection hk with hk
  subst hk
  cases ho
 ·obtain ⟨o,ho⟩:∃ o,W.heap[b]? =some o:=⟨W.heap[b]'(by have:=h.nd.lo;omega),by simp⟩
  exact (hk9 b o ho h2 (.inr h1)).trans ho.symm
set_option maxRecDepth 100000 in
set_option maxHeartbeats 8000000 in
theorem which_any {w:World} {hd:List P} {v:Value} {A:Option Addr} {cc g:Nat} {cs:Array Value} {fg:Nat × Nat} (h:HdT w hd v A cc g cs fg) {gp:P} {gv:Value} (ht:TP w (fun _ => True) gp.t gv) {z:List UInt8} {q:Nat} (hn:nameP gp=some (z,q)) :
 Calls Tryz.prog 171 #[v,gv] w fun e w' => (∃ v,e=.returned v∧NR w' (((List.range hd.length).filter fun i => (hd[i]?.map nameP) == some (some (z,q))).filter fun i => q == 0 || !((hd[i]?.map fun p => clashP (arg0 p) (arg0 gp)).getD false)) v∧∀ g off m c,v=.slice (some ⟨g,off,none⟩) m c→w.heap.size≤g)∧Below w.heap.size w w':=by
 have H:=Lib.hid h
 have HT:=Lib.hid ht
 obtain ⟨k,n,GA,m,c,rfl,hnv,_⟩:=tp_first ht hn
 obtain rfl:=h.val
 clear h ht
 refine (callsIn_wide (n:=10)).1 (callsIn_of_wp_marks Tryz.func171 rfl trivial (wpIn_wide.2 ?_))
 simp only [Tryz.ntmps171,List.size_toArray,List.length_cons,List.length_nil,Nat.reduceAdd,Nat.reduceSub,Array.replicate_succ,Array.replicate_zero,List.push_toArray,List.append_toArray,List.nil_append,List.cons_append]
 have c0:=cell_of_row _ _ 0 _ _ _ (heap_alloc_new w (Obj.cells #[.int .i64 k,.int .i64 n,.string (ba z),.slice GA m c] 51))
 go_wp2_with fail
 refine (pname_any _ _ _ _ _ _ _).mono ?_
 rintro e w1 ⟨rfl,h1⟩
 rw [hnv]
 have G1:=(h1.block w.heap.size (by simp;omega)).trans ((Below.heap_alloc _ _ _ (by simp)).trans (heap_alloc_new w (Obj.cells #[.int .i64 k,.int .i64 n,.string (ba z),.slice GA m c] 51)))
 have O1:=(h1.block (w.heap.size+1) (by simp)).trans (heap_at (w.alloc (Obj.cells #[.int .i64 k,.int .i64 n,.string (ba z),.slice GA m c] 51)) (Obj.cells #[.slice none 0 0] 24) (by simp))
 have hs1:w.heap.size+2≤w1.heap.size:=by simpa using h1.size
 have B1:Below w.heap.size w w1:=(belA (belA (Below.refl _ _) _) _).trans (h1.mono (by simp;omega))
 clear h1
 go_wp2_with fail
 refine (inamed_any _ _ _ _ _ _).mono ?_
 rintro e w2 ⟨rfl,rfl⟩
 have hq1:(w1.alloc (Obj.cells #[.int .i64 (q:Int)] 3)).heap.size=w1.heap.size+1:=by simp
 rw [hq1]
 go_wp2_with fail
 obtain ⟨W7,hW⟩:∃ W7,W7=((((w1.alloc (Obj.cells #[.int .i64 (q:Int)] 3)).alloc (Obj.cells #[.slice A hd.length cc] 47)).alloc (Obj.cells #[.string (ba z)] 9)).alloc (Obj.cells #[.int .i64 (q:Int)] 3)):=⟨_,rfl⟩
 have hs7:W7.heap.size=w1.heap.size+4:=by rw [hW];simp
 have BW7:=Lib.hid (show Below w.heap.size w W7 by rw [hW];exact belA (belA (belA (belA B1 _) _) _) _)
 have old:∀ {b:Nat} {o:Obj},w1.heap[b]? =some o→W7.heap[b]? =some o:=fun {b o} hb => by
  have:=heap_lt hb
  rw [hW,Below.heap_alloc _ _ _ (by simp;omega),Below.heap_alloc _ _ _ (by simp;omega),Below.heap_alloc _ _ _ (by simp;omega),Below.heap_alloc _ _ _ (by omega)];exact hb
 have Q7:W7.heap[w1.heap.size]? =some (.cells #[.int .i64 (q:Int)] 3 (0,0)):=by
  rw [hW,Below.heap_alloc _ _ _ (by simp;omega),Below.heap_alloc _ _ _ (by simp;omega),Below.heap_alloc _ _ _ (by simp)];exact heap_alloc_new _ _
 have H1:W7.heap[w1.heap.size+1]? =some (.cells #[.slice A hd.length cc] 47 (0,0)):=by
  rw [hW,Below.heap_alloc _ _ _ (by simp),Below.heap_alloc _ _ _ (by simp)];exact heap_at _ _ (by simp)
 have H2:W7.heap[w1.heap.size+2]? =some (.cells #[.string (ba z)] 9 (0,0)):=by
  rw [hW,Below.heap_alloc _ _ _ (by simp)];exact heap_at _ _ (by simp)
 have H3:W7.heap[w1.heap.size+3]? =some (.cells #[.int .i64 (q:Int)] 3 (0,0)):=by
  rw [hW];exact heap_at _ _ (by simp)
 rw [← hW]
 have I0:=Lib.hid (show WhI w W7 W7.heap.size (w.heap.size+1) w.heap.size w1.heap.size #[.int .i64 k,.int .i64 n,.string (ba z),.slice GA m c] q [] (.slice none 0 0) from ⟨⟨old O1,⟨rfl,.inl ⟨rfl,rfl⟩⟩,BW7.out,by omega,by omega,Nat.le_refl _⟩,old G1,Q7,by omega,by omega,by omega,by omega⟩)
 have H7:=Lib.hid (H.out.below BW7.out)
 have hgb:0 < hd.length→g < w.heap.size:=fun h => heap_lt (H.out.ptr h).2
 have BS:=named_stops 9 (w1.heap.size+1) (w1.heap.size+2) (w1.heap.size+3) hd.length cc W7.heap.size (w.heap.size+1) g A (fun h => (H.out.ptr h).1) cs (ba z) q _ (H.out.hdc z q) W7 (by omega) H.out.few ⟨⟨by omega,by omega⟩,⟨by omega,by omega⟩,by omega,by omega⟩ (fun h => by have:=hgb h;exact ⟨by omega,by omega⟩) H1 H2 H3 (fun h => (H7.out.ptr h).2)
 clear hW H1 H2 H3 old Q7 O1 G1
 obtain ⟨qb,hqb⟩:∃ qb,qb=w1.heap.size:=⟨_,rfl⟩
 rw [← hqb] at BS I0 ⊢
 rw [← hqb] at hs7 hs1
 clear hq1 B1 hqb c0
 refine (wpIn_wide (n:=10)).1 (wpIn_rangeFunc_ownH (n:=10) rfl (by omega) (gf:=305) (lb:=#[.pointer (some ⟨qb+1,0,none⟩),.pointer (some ⟨qb+2,0,none⟩),.pointer (some ⟨qb+3,0,none⟩)]) rfl trivial (enters_of Tryz.func305 (by kernel_rfl) rfl) BS
  (fun h k => h.trans k) (fun W l o o' hl ho _ _ b hb _ => World.putObj_heap_other (by omega)) (Below.refl _ _) (fun _ => rfl)
  (fun pre W => ∃ v,WhI w W W7.heap.size (w.heap.size+1) w.heap.size qb #[.int .i64 k,.int .i64 n,.string (ba z),.slice GA m c] q (wkS hd gp q pre) v) (fun _ _ _ => False) ?_ (fun _ _ _ _ _ h _ _ => h) ⟨_,I0.out⟩
  (fun x a' W => ∃ Bx cx,W7.heap.size≤Bx∧valAt cs x.1=.agg cx∧W.heap[Bx]? =some (.cells cx 51 (0,0))∧a'= {tmps:=#[.slice A hd.length cc,.agg #[.int .i64 k,.int .i64 n,.string (ba z),.slice GA m c],undef,.pointer (some ⟨w.heap.size,0,none⟩),.slice none 0 0,.pointer (some ⟨w.heap.size+1,0,none⟩),.string (ba z),.pointer (some ⟨qb,0,none⟩),.bool true,.int .i64 (x.1:Int),.pointer (some ⟨Bx,0,none⟩),
    .tuple #[.string (ba z),.int .i64 (q:Int),.bool true],.agg #[.int .i64 k,.int .i64 n,.string (ba z),.slice GA m c],.tuple #[.string (ba z),.int .i64 (q:Int),.bool true],.string (ba z),.int .i64 (q:Int),.bool true,.bool true,.bool false,.slice A hd.length cc,.string (ba z),.int .i64 (q:Int),
    .func (.func 305) #[] #[.pointer (some ⟨qb+1,0,none⟩),.pointer (some ⟨qb+2,0,none⟩),.pointer (some ⟨qb+3,0,none⟩)],.int .i64 (x.1:Int),valAt cs x.1,undef,undef,undef,undef,undef,undef,undef,undef,undef,undef,undef,undef,undef,undef,undef,undef,undef,undef],defers:=[]}) ?_ ?_ ?_ ?_ ?_)
 ·rintro pre A0 B0 row ⟨v,hI⟩ hg hr
  exact ⟨v,hI.key hg fun q e => ⟨by have:=(hr q e).1;omega,(hr q e).2⟩⟩
 ·rintro x a' _ A0 B0 row ⟨Bx,cx,h1,h2,h3,h4⟩ hg hr
  exact ⟨Bx,cx,h1,h2,key_grown hg (fun q e => (hr q e).2) _ _ _ _ h3,h4⟩
 ·rintro l' pre x W K ⟨v,hI⟩ hK
  obtain ⟨_,hx⟩:=H.out.tp x.1 _ (List.getElem?_eq_getElem x.2.1)
  obtain ⟨k0,k1,k2,k3,k4,k5,hval⟩:=hx.agg
  unfold encX
  rw [hval]
  gi_wp2
  exact hK _ _ ((KeepsOthers.alloc _ _).from _) (fun b hb _ => Below.heap_alloc _ _ _ (by have:=hI.nd.lo;omega)) ⟨v,hI.below (belA (Below.refl _ _) _)⟩ ⟨W.heap.size,_,hI.nd.lo.2.2,hval,heap_alloc_new _ _,by rw [hval]⟩
 ·rintro l' pre x a' W hl' ⟨rr,hrr⟩ ⟨v,hI⟩ ⟨Bx,cx,h1,h2,h3,rfl⟩ hlen
  clear hs7
  have HB:=Lib.hid hI.nd.low
  have HI:=Lib.hid hI
  have BD:=Lib.hid (show Below W.heap.size W W.drew from (Below.refl _ _).drew)
  obtain ⟨hne1,hne2,hne3,hne4⟩:=hI.ne
  have hob:=hI.nd.lo
  obtain ⟨hsm,hx⟩:=H.out.tp x.1 _ (List.getElem?_eq_getElem x.2.1)
  have hlk:(wkS hd gp q pre).length≤100000:=Nat.le_trans (List.length_filter_le _ _) (by have:=H.out.few;simp;omega)
  refine wpIn_block ?_
  rcases Nat.eq_zero_or_pos q with rfl | hq
  ·gi_wp2
   refine rgR [(0,fun u => AC u qb 0 [.int .i64 0])] (hS:=⟨ac_of hI.bq,trivial⟩) (h:=fun hH => ?_)
   refine tl 0 (h:=tp 1 (h:=tp 2 (h:=tn 3 (h:=tn 4 (h:=tn 5 (h:=tn 6 (h:=tn 7 (h:=tn 8 (h:=tn 9 (h:=tn 10 (h:=tn 11 (h:=tp 12 (h:=dn (h:=?_))))))))))))))
   generalize W.drew=WD at BD ⊢
   have BB:=Lib.hid (show Below W.heap.size W (WD.alloc (Obj.cells #[.int .i64 (x.1:Int)] 3)) from belA BD.out _)
   have b0:=cell_of_row WD _ 0 _ _ _ ((BD.out.block _ (heap_lt HI.out.nd.bx)).trans HI.out.nd.bx)
   have hl0:=Nat.le_trans hob.2.2 BB.out.size
   gi_wp2_with (refine wpListIn_pushI _ rfl _ _ rfl W7.heap.size v _ _ rfl (own_below HI.out.nd.own BB.out) WD.heap.size 1 (.int .i64 (x.1:Int)) rfl (cell_of_row _ _ 0 _ _ _ (heap_alloc_new _ _)) rfl hlk hl0 ?_;intro v' w9 ho9 hb9;obtain ⟨A9,m9,c9,rfl,b9,f9,l9,H9⟩:=HI.out.nd.step BB.out x.1 _ _ ho9 hb9;clear ho9)
   obtain ⟨r1',r2',r3'⟩:=HI.out.fin (n0:=W7.heap.size) H9.out
   have e9:=wkS_snoc hd gp 0 pre x rfl
   rw [← e9] at r3'
   exact ⟨r1',r2',_,r3'⟩
  ·obtain ⟨k',n',GA',m',c',e,_,TG⟩:=tp_first (HT.out.below HB.out) hn
   cases e
   obtain ⟨hm0,gb,g0,g1,g2,GA0,gm0,gc0,rfl,gAC,gTP⟩:=TG hq
   have hxn:nameP (hd[x.1]'x.2.1)=some (z,q):=by
    have:((hd[x.1]?.map nameP) == some (some (z,q)))=true:=x.2.2
    rw [List.getElem?_eq_getElem x.2.1] at this
    simpa using this
   obtain ⟨y0,y1,HA,hm,hc,e,_,TH⟩:=tp_first (hx.below HB.out) hxn
   rw [h2] at e
   cases e
   obtain ⟨hm1,yb,z0,z1,z2,YA0,ym0,yc0,rfl,yAC,yTP⟩:=TH hq
   have hcl:=Lib.hid (clash_any (yTP.below BD.out) (gTP.below BD.out))
   have hq1:(0:Int) < (q:Int):=by omega
   gi_wp2
   refine rgR [(0,fun u => AC u qb 0 [.int .i64 (q:Int)]),(4,fun u => AC u Bx 3 [.slice (some ⟨yb,0,none⟩) hm hc]),(6,fun u => AC u yb 0 [.int .i64 z0,.int .i64 z1,.string z2,.slice YA0 ym0 yc0]),(8,fun u => AC u w.heap.size 3 [.slice (some ⟨gb,0,none⟩) m c]),(10,fun u => AC u gb 0 [.int .i64 g0,.int .i64 g1,.string g2,.slice GA0 gm0 gc0])]
    (hS:=⟨ac_of hI.bq,⟨cell_of_row _ _ 3 _ _ _ h3,trivial⟩,yAC,⟨cell_of_row _ _ 3 _ _ _ hI.bt,trivial⟩,gAC,trivial⟩) (h:=fun hH => ?_)
   refine tl 0 (h:=tp 1 (h:=tp 2 (h:=tp 3 (h:=tl 4 (h:=tp 5 (h:=tl 6 (h:=tp 7 (h:=tl 8 (h:=tp 9 (h:=tl 10 (h:=r1 11 [] (h:=fun K hK => ?_))))))))))))
   go_simp
   refine hcl.out.mono ?_
   rintro e w9 ⟨rfl,hb9⟩
   refine hK.out _ _ trivial (fun _ => ?_)
   clear hK K
   refine tp 12 (h:=dn (h:=?_))
   have BD9:=Lib.hid (show Below W.heap.size W w9 from BD.out.trans (hb9.mono BD.out.size))
   have hq0:(q == 0)=false:=by simpa using Nat.ne_of_gt hq
   have hdx:((hd[x.1]?.map fun p => clashP (arg0 p) (arg0 gp)).getD false)=clashP (arg0 (hd[x.1]'x.2.1)) (arg0 gp):=by rw [List.getElem?_eq_getElem x.2.1];rfl
   clear hb9
   cases hcx:clashP (arg0 (hd[x.1]'x.2.1)) (arg0 gp) with
   | true =>
    have hfx:(q == 0 || !((hd[x.1]?.map fun p => clashP (arg0 p) (arg0 gp)).getD false))=false:=by rw [hq0,hdx,hcx];rfl
    have e9:=wkS_skip hd gp q pre x hfx
    gi_wp2
    exact ⟨⟨BD9.out.size,fun k o _ hk _ => (BD9.out.block _ (heap_lt hk)).trans hk⟩,fun b h1 h2 => BD9.out.block b (by omega),v,by rw [e9];exact HI.out.below BD9.out⟩
   | false =>
    have hfx:(q == 0 || !((hd[x.1]?.map fun p => clashP (arg0 p) (arg0 gp)).getD false))=true:=by rw [hq0,hdx,hcx];rfl
    have BB:=Lib.hid (show Below W.heap.size W (w9.alloc (Obj.cells #[.int .i64 (x.1:Int)] 3)) from belA BD9.out _)
    have b0:=cell_of_row w9 _ 0 _ _ _ ((BD9.out.block _ (heap_lt HI.out.nd.bx)).trans HI.out.nd.bx)
    have hl0:=Nat.le_trans hob.2.2 BB.out.size
    gi_wp2_with (refine wpListIn_pushI _ rfl _ _ rfl W7.heap.size v _ _ rfl (own_below HI.out.nd.own BB.out) w9.heap.size 1 (.int .i64 (x.1:Int)) rfl (cell_of_row _ _ 0 _ _ _ (heap_alloc_new _ _)) rfl hlk hl0 ?_;intro v' wa ho9 hba;obtain ⟨A9,m9,c9,rfl,b9,f9,l9,H9⟩:=HI.out.nd.step BB.out x.1 _ _ ho9 hba;clear ho9)
    obtain ⟨r1',r2',r3'⟩:=HI.out.fin (n0:=W7.heap.size) H9.out
    have e9:=wkS_snoc hd gp q pre x hfx
    rw [← e9] at r3'
    exact ⟨r1',r2',_,r3'⟩
 ·rintro D' xs W hD' hxs ⟨v,hI⟩ hK
  have HI:=Lib.hid hI
  have HK:=Lib.hid hK
  have b0:=cell_of_row W _ 0 _ _ _ hI.nd.bx
  have hl:=heap_lt hI.nd.bx
  clear hI hK
  go_wp2_with fail
  refine retMD HK.out (v:=v) (by simp [results,go_sem]) rfl ?_
  have K9:=HI.out.nd.key (grownBy_putObj' W D' (.deferred none)) fun q e => by cases e;exact ⟨by omega,_,HK.out,rfl⟩
  have hxs:xs.map Subtype.val=_:=hxs
  unfold wkS at K9
  rw [hxs] at K9
  exact ⟨⟨v,rfl,K9.nr,K9.far⟩,K9.low⟩
 ·rintro D' cc' pre W _ _ h _
  exact h.elim
end Go.Proofs.YtdgpmpccfjmmcaaGreatDoor
namespace Go.Proofs.YtdgpmpccfjmmcaaGreatDoor
open Go.RowKit
structure MX where
 B:Nat
 mb:Nat
 sp:Nat
 pb:Nat
 sb:Nat
 ip:Nat
 lim:Lim0
 pr:List Cl0
def NotCh (o:Obj):Prop:=NotSt o∧∀ cs t f,o=.cells cs t f→t≠169
structure KX (X:MX) (w w':World):Prop where
 low:Below X.B w w'
 far:∀ (b:Nat) (o:Obj),w.heap[b]? =some o→b≠X.mb→b≠X.sp→NotCh o→w'.heap[b]? =some o
section
variable {X:MX} {w w' w1:World}
theorem KX.refl (X:MX) (w:World):KX X w w:=⟨Below.refl _ _,fun _ _ h _ _ _ => h⟩
theorem KX.trans (h:KX X w w1) (k:KX X w1 w'):KX X w w':=⟨h.low.trans k.low,fun b o h1 h2 h3 h4 => k.far b o (h.far b o h1 h2 h3 h4) h2 h3 h4⟩
theorem KX.of (hB:X.B≤w.heap.size) (h:Below w.heap.size w w'):KX X w w':=⟨h.mono hB,fun b _ h1 _ _ _ => (h.block b (heap_lt h1)).trans h1⟩
theorem KX.sf (h:SF X.B w w'):KX X w w':=⟨h.low,fun b o h1 _ _ h4 => h.far b o h1 h4.1⟩
theorem KX.on (h:KX X w w1) (hB:X.B≤w.heap.size) (k:Below w1.heap.size w1 w'):KX X w w':=h.trans (.of (Nat.le_trans hB h.low.size) k)
theorem KX.kd (h:KX X w w') {b:Nat} {cs:Array Value} {t:TypeId} {f:Nat × Nat} (hb:w.heap[b]? =some (.cells cs t f)) (hm:b≠X.mb) (hs:b≠X.sp) (ht:(t == 121 || t == 220 || t == 222 || t == 276 || t == 169)=false):w'.heap[b]? =some (.cells cs t f):=by
 simp at ht
 refine h.far b _ hb hm hs ⟨fun cs' t' f' e => ?_,fun cs' t' f' e => ?_⟩ <;> (injection e with _ e;subst e;simp [ht])
def MX.m (X:MX):MX:={X with sp:=X.mb}
theorem KX.wk (h:KX X.m w w'):KX X w w':=⟨h.low,fun b o h1 h2 _ h4 => h.far b o h1 h2 h2 h4⟩
def NM (w:World) (s:Nat) (l:List Nat) (v:Value):Prop:=NR w l v∧∀ g off m c,v=.slice (some ⟨g,off,none⟩) m c→g≠s
def ChM (w:World) (s:Nat):Ch0→List Value→Prop
 | .alt mark fr,cs => ∃ fv,FL w fr fv∧cs=[fv,.slice none 0 0,.slice none 0 0,.int .i64 (mark:Int),.int .i64 0]++zeroC++zeroC++zeroC++[.slice none 0 0,.int .i64 0]
 | .more mark fr g rest bar,cs => ∃ fv ts rv,FL w fr fv∧TC w g ts∧rest≠[]∧NM w s rest rv∧cs=[fv,.slice none 0 0,.slice none 0 0,.int .i64 (mark:Int),.int .i64 0]++zeroC++zeroC++ts++[rv,.int .i64 (bar:Int)]
def ClM (w:World) (s:Nat) (c:Cl0) (v:List Value):Prop:=∃ (ins:List Ins) (cv gv:Value) (pl:List Nat),v=[cv,.int .i64 (c.slots:Int),gv]∧IRC w ins cv∧ins.length≤20000∧NM w s pl gv∧pl.length=c.goals.length∧c.slots≤1000∧
 (∀ base,∃ f a2,buildI ins base f 1=some (shiftP base c.head,a2))∧∀ (j:Nat) (g:P),c.goals[j]? =some g→∃ p:Nat,pl[j]? =some p∧∀ base,∃ f a2,buildI ins base f p=some (shiftP base g,a2)
def PrM (w:World) (s pb:Nat) (pr:List Cl0):Prop:=∃ (A:Option Addr) (cc:Nat) (hv:Value) (HA:Option Addr) (hc hg:Nat) (hcs:Array Value) (hfg f:Nat × Nat),w.heap[pb]? =some (.cells #[.slice A pr.length cc,hv] 49 f)∧HdT w (pr.map (·.head)) hv HA hc hg hcs hfg∧
 (0 < pr.length→∃ g cs fg,A=some ⟨g,0,none⟩∧w.heap[g]? =some (.cells cs 65 fg)∧∀ k c,pr[k]? =some c→∃ v,ClM w s c v∧∀ j,j < 3→cs[3*k+j]? =v[j]?)
def clsQ (pr:List Cl0):Prop:=∀ c ∈ pr,c.head.lq∧∀ g ∈ c.goals,g.lq
def frsQ (l:List Fr0):Prop:=∀ f ∈ l,∀ b g,f=.goal b g→g.lq
def chsQ (l:List Ch0):Prop:=∀ c ∈ l,match c with
 | .alt _ fr => frsQ fr
 | .more _ fr g rest _ => frsQ fr∧g.lq∧rest.length≤100000
def KeepT (s:Nat) (w w':World):Prop:=∀ (b:Nat) (cs:Array Value) (t:TypeId) (f:Nat × Nat),w.heap[b]? =some (.cells cs t f)→(t=128∨t=51∨t=67∨t=65∨t=49∨(t=3∧b≠s))→w'.heap[b]? =some (.cells cs t f)
theorem KeepT.of {s:Nat} (h:Below w.heap.size w w'):KeepT s w w':=fun b _ _ _ hb _ => (h.block b (heap_lt hb)).trans hb
theorem NM.keep {s:Nat} {l:List Nat} {v:Value} (h:NM w s l v) (k:KeepT s w w'):NM w' s l v:=by
 obtain ⟨⟨A,c,rfl,h1,h2,h3⟩,h4⟩:=h
 refine ⟨⟨A,c,rfl,h1,h2,fun hne => ?_⟩,h4⟩
 obtain ⟨g,off,cs,f,rfl,hg,hc⟩:=h3 hne
 exact ⟨g,off,cs,f,rfl,k _ _ _ _ hg (.inr (.inr (.inr (.inr (.inr ⟨rfl,h4 _ _ _ _ rfl⟩))))),hc⟩
theorem KeepT.fl {s:Nat} (k:KeepT s w w') {l:List Fr0} {v:Value} (h:FL w l v):FL w' l v:=h.keep fun b cs ty f hh ht => k b cs ty f hh (ht.elim .inl fun h => .inr (.inl h))
theorem KeepT.tp {s:Nat} (k:KeepT s w w') {t:T} {v:Value} (h:TP w (fun _ => True) t v):TP w' (fun _ => True) t v:=h.keep fun b cs f _ hh => ⟨k b cs _ f hh (.inr (.inl rfl)),trivial⟩
theorem KeepT.tc {s:Nat} (k:KeepT s w w') {p:P} {cs:List Value} (h:TC w p cs):TC w' p cs:=h.keep fun b cs f hh => k b cs _ f hh (.inr (.inl rfl))
theorem ChM.keep {s:Nat} {c:Ch0} {cs:List Value} (h:ChM w s c cs) (k:KeepT s w w'):ChM w' s c cs:=by
 cases c with
 | alt mark fr =>
  obtain ⟨fv,h1,h2⟩:=h
  exact ⟨fv,k.fl h1,h2⟩
 | more mark fr g rest bar =>
  obtain ⟨fv,ts,rv,h1,h2,h3,h4,h5⟩:=h
  exact ⟨fv,ts,rv,k.fl h1,k.tc h2,h3,h4.keep k,h5⟩
theorem ChM.len {s:Nat} {c:Ch0} {cs:List Value} (h:ChM w s c cs):cs.length=19:=by
 cases c with
 | alt mark fr =>
  obtain ⟨fv,h1,rfl⟩:=h
  rfl
 | more mark fr g rest bar =>
  obtain ⟨fv,ts,rv,h1,⟨v0,v1,v2,v3,rfl,_⟩,h3,h4,rfl⟩:=h
  rfl
theorem ClM.keep {s:Nat} {c:Cl0} {v:List Value} (h:ClM w s c v) (k:KeepT s w w'):ClM w' s c v:=by
 obtain ⟨ins,cv,gv,pl,h0,h1,h2,h3,h4⟩:=h
 exact ⟨ins,cv,gv,pl,h0,h1.keep fun b cs f hh => k b cs _ f hh (.inr (.inr (.inl rfl))),h2,h3.keep k,h4⟩
theorem HdT.keep {s:Nat} {hd:List P} {v:Value} {A:Option Addr} {cc g:Nat} {cs:Array Value} {fg:Nat × Nat} (h:HdT w hd v A cc g cs fg) (k:KeepT s w w'):HdT w' hd v A cc g cs fg:=
 ⟨h.val,h.few,fun q => let ⟨a,b⟩:=h.ptr q;⟨a,k _ _ _ _ b (.inr (.inl rfl))⟩,fun i p hp => let ⟨a,b⟩:=h.tp i p hp;⟨a,k.tp b⟩⟩
theorem PrM.keep {s pb:Nat} {pr:List Cl0} (h:PrM w s pb pr) (k:KeepT s w w'):PrM w' s pb pr:=by
 obtain ⟨A,cc,hv,HA,hc,hg,hcs,hfg,f,h1,h2,h3⟩:=h
 refine ⟨A,cc,hv,HA,hc,hg,hcs,hfg,f,k _ _ _ _ h1 (.inr (.inr (.inr (.inr (.inl rfl))))),h2.keep k,fun h0 => ?_⟩
 obtain ⟨g,cs,fg,e,hh,hx⟩:=h3 h0
 exact ⟨g,cs,fg,e,k _ _ _ _ hh (.inr (.inr (.inr (.inl rfl)))),fun i c hi => let ⟨v,h4,h5⟩:=hx i c hi;⟨v,h4.keep k,h5⟩⟩
end
def ChR (w:World) (B s:Nat) (l:List Ch0) (v:Value):Prop:=∃ css:List (List Value),css.length=l.length∧w.ownsRow B 169 19 v l.length css.flatten∧∀ (i:Nat) (c:Ch0) (cs:List Value),l[i]? =some c→css[i]? =some cs→ChM w s c cs
def mcells (X:MX) (fv cv:Value):Array Value:=#[fv,.slice none 0 0,.slice none 0 0,.pointer (some ⟨X.pb,0,none⟩),.int .i64 (X.lim.fuel:Int),.int .i64 (X.lim.room:Int),.int .i64 (X.lim.stack:Int),.int .i64 (X.lim.answers:Int),.pointer (some ⟨X.sp,0,none⟩),.pointer (some ⟨X.ip,0,none⟩),.pointer (some ⟨X.sb,0,none⟩),cv]
structure MSt (X:MX) (S:Ms) (w:World):Prop where
 box:∃ fv cv,w.heap[X.mb]? =some (.cells (mcells X fv cv) 82 (0,0))∧FL w S.fr fv∧ChR w X.B X.sp S.ch cv
 steps:w.heap[X.sp]? =some (.cells #[.int .i64 (S.steps:Int)] 3 (0,0))
 st:ST X.B w X.sb S.n S.L S.M
 pr:PrM w X.sp X.pb X.pr
 geo:X.B≤X.mb∧X.B≤X.sp
 clq:clsQ X.pr
 frq:frsQ S.fr
 chq:chsQ S.ch
section
variable {X:MX} {S:Ms} {w w':World}
theorem ChR.keep {B s:Nat} {l:List Ch0} {v:Value} (h:ChR w B s l v) (k:KeepT s w w') (hr:∀ (g:Nat) (cs:Array Value) (f:Nat × Nat),w.heap[g]? =some (.cells cs 169 f)→w'.heap[g]? =some (.cells cs 169 f)):ChR w' B s l v:=by
 obtain ⟨css,h1,h2,h3⟩:=h
 exact ⟨css,h1,own_keep h2 fun g hg => by obtain ⟨cs,f,hh⟩:=Go.Lib.ownsRow_kind h2 g hg;exact (hr _ _ _ hh).trans hh.symm,fun i c cs hc hcs => (h3 i c cs hc hcs).keep k⟩
theorem MSt.all (h:MSt X S w) (hk:∀ (b:Nat) (cs:Array Value) (t:TypeId) (f:Nat × Nat),w.heap[b]? =some (.cells cs t f)→w'.heap[b]? =some (.cells cs t f)):MSt X S w':=by
 obtain ⟨fv,cv,h1,h2,h3⟩:=h.box
 have k:KeepT X.sp w w':=fun b cs t f hb _ => hk b cs t f hb
 exact ⟨⟨fv,cv,hk _ _ _ _ h1,k.fl h2,h3.keep k fun g cs f hh => hk _ _ _ _ hh⟩,hk _ _ _ _ h.steps,h.st.keep fun b cs t f hb _ => hk b cs t f hb,h.pr.keep k,h.geo,h.clq,h.frq,h.chq⟩
theorem MSt.below (h:MSt X S w) (hb:Below w.heap.size w w'):MSt X S w':=h.all fun b _ _ _ hh => (hb.block b (heap_lt hh)).trans hh
theorem MSt.store (h:MSt X S w) (hf:SF X.B w w') {n:Nat} {L:Bp} {M:List (Nat × Nat)} (hs:ST X.B w' X.sb n L M):MSt X {S with n:=n,L:=L,M:=M} w':=by
 obtain ⟨fv,cv,h1,h2,h3⟩:=h.box
 have key:∀ {b:Nat} {cs:Array Value} {t:TypeId} {f:Nat × Nat},w.heap[b]? =some (.cells cs t f)→(t == 121 || t == 220 || t == 222 || t == 276)=false→w'.heap[b]? =some (.cells cs t f):=fun {b cs t f} hb ht => by
  simp at ht
  exact hf.far b _ hb fun cs' t' f' e => by injection e with _ e;subst e;simp [ht]
 have k:KeepT X.sp w w':=fun b cs t f hb ht => key hb (by rcases ht with rfl | rfl | rfl | rfl | rfl | ⟨rfl,_⟩ <;> rfl)
 exact ⟨⟨fv,cv,key h1 rfl,k.fl h2,h3.keep k fun g cs f hh => key hh rfl⟩,key h.steps rfl,hs,h.pr.keep k,h.geo,h.clq,h.frq,h.chq⟩
theorem MSt.lt (h:MSt X S w):X.B≤w.heap.size∧X.mb < w.heap.size∧X.sp < w.heap.size∧X.mb≠X.sp:=by
 obtain ⟨fv,cv,h1,h2,h3⟩:=h.box
 have:=heap_lt h1
 refine ⟨by have:=h.geo;omega,heap_lt h1,heap_lt h.steps,fun e => ?_⟩
 have:=h.steps
 rw [← e,h1] at this
 cases this
theorem keepT_box (h:MSt X S w) (j:Nat) (v:Value):KeepT X.sp w (w.setCell ⟨X.mb,j,none⟩ v)∧(∀ (b:Nat),b≠X.mb→(w.setCell ⟨X.mb,j,none⟩ v).heap[b]? =w.heap[b]?)∧KX X.m w (w.setCell ⟨X.mb,j,none⟩ v):=by
 obtain ⟨fv,cv,h1,h2,h3⟩:=h.box
 have far:∀ (b:Nat),b≠X.mb→(w.setCell ⟨X.mb,j,none⟩ v).heap[b]? =w.heap[b]?:=fun b hb => Below.heap_setCell _ _ _ b hb
 refine ⟨fun b cs t f hb ht => (far b fun e => ?_).trans hb,far,(Below.refl _ _).setCell (p:=⟨X.mb,j,none⟩) h.geo.1 _,fun b o hb h2 _ _ => (far b h2).trans hb⟩
 subst e
 rw [h1] at hb
 injection hb with hb
 injection hb with _ hb
 subst hb
 rcases ht with h | h | h | h | h | ⟨h,_⟩ <;> exact absurd h (by decide)
theorem MSt.setFr (h:MSt X S w) {fr:List Fr0} {fv:Value} (hf:FL w fr fv) (hq:frsQ fr):MSt X {S with fr:=fr} (w.setCell ⟨X.mb,0,none⟩ fv)∧KX X.m w (w.setCell ⟨X.mb,0,none⟩ fv):=by
 obtain ⟨fv0,cv,h1,h2,h3⟩:=h.box
 obtain ⟨k,far,kx⟩:=keepT_box h 0 fv
 have nb:∀ {b:Nat} {cs:Array Value} {t:TypeId} {f:Nat × Nat},w.heap[b]? =some (.cells cs t f)→t≠82→(w.setCell ⟨X.mb,0,none⟩ fv).heap[b]? =some (.cells cs t f):=fun {b cs t f} hb ht => (far b fun e => by subst e;rw [h1] at hb;injection hb with hb;injection hb with _ hb;exact ht hb.symm).trans hb
 refine ⟨⟨⟨fv,cv,by have:=blk_set h1 0 fv;simpa [mcells] using this,k.fl hf,h3.keep k fun g cs f hh => nb hh (by decide)⟩,nb h.steps (by decide),h.st.keep fun b cs t f hb ht => nb hb (by rcases ht with rfl | rfl | rfl | rfl | rfl <;> decide),h.pr.keep k,h.geo,h.clq,hq,h.chq⟩,kx⟩
theorem MSt.setCh (h:MSt X S w) {ch:List Ch0} {cv:Value} (hf:ChR w X.B X.sp ch cv) (hq:chsQ ch):MSt X {S with ch:=ch} (w.setCell ⟨X.mb,11,none⟩ cv)∧KX X.m w (w.setCell ⟨X.mb,11,none⟩ cv):=by
 obtain ⟨fv,cv0,h1,h2,h3⟩:=h.box
 obtain ⟨k,far,kx⟩:=keepT_box h 11 cv
 have nb:∀ {b:Nat} {cs:Array Value} {t:TypeId} {f:Nat × Nat},w.heap[b]? =some (.cells cs t f)→t≠82→(w.setCell ⟨X.mb,11,none⟩ cv).heap[b]? =some (.cells cs t f):=fun {b cs t f} hb ht => (far b fun e => by subst e;rw [h1] at hb;injection hb with hb;injection hb with _ hb;exact ht hb.symm).trans hb
 refine ⟨⟨⟨fv,cv,by have:=blk_set h1 11 cv;simpa [mcells] using this,k.fl h2,hf.keep k fun g cs f hh => nb hh (by decide)⟩,nb h.steps (by decide),h.st.keep fun b cs t f hb ht => nb hb (by rcases ht with rfl | rfl | rfl | rfl | rfl <;> decide),h.pr.keep k,h.geo,h.clq,h.frq,hq⟩,kx⟩
theorem MSt.tick (h:MSt X S w):MSt X {S with steps:=S.steps+1} (w.setCell ⟨X.sp,0,none⟩ (.int .i64 ((S.steps:Int)+1)))∧KX X w (w.setCell ⟨X.sp,0,none⟩ (.int .i64 ((S.steps:Int)+1))):=by
 obtain ⟨fv,cv,h1,h2,h3⟩:=h.box
 have far:∀ (b:Nat),b≠X.sp→(w.setCell ⟨X.sp,0,none⟩ (.int .i64 ((S.steps:Int)+1))).heap[b]? =w.heap[b]?:=fun b hb => Below.heap_setCell _ _ _ b hb
 have nb:∀ {b:Nat} {cs:Array Value} {t:TypeId} {f:Nat × Nat},w.heap[b]? =some (.cells cs t f)→t≠3→(w.setCell ⟨X.sp,0,none⟩ (.int .i64 ((S.steps:Int)+1))).heap[b]? =some (.cells cs t f):=fun {b cs t f} hb ht => (far b fun e => by subst e;rw [h.steps] at hb;injection hb with hb;injection hb with _ hb;exact ht hb.symm).trans hb
 have k:KeepT X.sp w (w.setCell ⟨X.sp,0,none⟩ (.int .i64 ((S.steps:Int)+1))):=fun b cs t f hb ht => by
  rcases ht with rfl | rfl | rfl | rfl | rfl | ⟨rfl,hne⟩
  ·exact nb hb (by decide)
  ·exact nb hb (by decide)
  ·exact nb hb (by decide)
  ·exact nb hb (by decide)
  ·exact nb hb (by decide)
  ·exact (far b hne).trans hb
 refine ⟨⟨⟨fv,cv,nb h1 (by decide),k.fl h2,h3.keep k fun g cs f hh => nb hh (by decide)⟩,by have:=blk_set h.steps 0 (.int .i64 ((S.steps:Int)+1));simpa using this,h.st.keep fun b cs t f hb ht => nb hb (by rcases ht with rfl | rfl | rfl | rfl | rfl <;> decide),h.pr.keep k,h.geo,h.clq,h.frq,h.chq⟩,(Below.refl _ _).setCell (p:=⟨X.sp,0,none⟩) h.geo.2 _,fun b o hb _ h2 _ => (far b h2).trans hb⟩
theorem MSt.setWt (h:MSt X S w):MSt X S (w.setCell ⟨X.mb,1,none⟩ (.slice none 0 0))∧KX X.m w (w.setCell ⟨X.mb,1,none⟩ (.slice none 0 0)):=by
 obtain ⟨fv,cv,h1,h2,h3⟩:=h.box
 obtain ⟨k,far,kx⟩:=keepT_box h 1 (.slice none 0 0)
 refine ⟨h.all fun b cs t f hb => ?_,kx⟩
 by_cases e:b=X.mb
 ·subst e
  rw [h1] at hb
  injection hb with hb
  injection hb with e1 e2 e3
  subst e1;subst e2;subst e3
  have:=blk_set h1 1 (.slice none 0 0)
  simpa [mcells] using this
 ·exact (far b e).trans hb
theorem MSt.setPr (h:MSt X S w):MSt X S (w.setCell ⟨X.mb,2,none⟩ (.slice none 0 0))∧KX X.m w (w.setCell ⟨X.mb,2,none⟩ (.slice none 0 0)):=by
 obtain ⟨fv,cv,h1,h2,h3⟩:=h.box
 obtain ⟨k,far,kx⟩:=keepT_box h 2 (.slice none 0 0)
 refine ⟨h.all fun b cs t f hb => ?_,kx⟩
 by_cases e:b=X.mb
 ·subst e
  rw [h1] at hb
  injection hb with hb
  injection hb with e1 e2 e3
  subst e1;subst e2;subst e3
  have:=blk_set h1 2 (.slice none 0 0)
  simpa [mcells] using this
 ·exact (far b e).trans hb
end
end Go.Proofs.YtdgpmpccfjmmcaaGreatDoor
