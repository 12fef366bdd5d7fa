/- A region that draws its order,in few words:operations taken first,a load by its fact,which is kept until the load is waited for. A region that draws its order,by what holds whatever has come up:each operation is looked at once. The index of clauses:keys of first arguments;what clashes. norm on facts:Goals of 'true',Split of a fact. -/
import Derived.Test.YtdgpmpccfjmmcaaGreatDoorKJAq
import Derived.Laws.Rows
import Derived.Test.YtdgpmpccfjmmcaaGreatDoorKJAf
import Derived.Deep.DeepCutAuto
import Derived.Test.YtdgpmpccfjmmcaaGreatDoorKJAj
import Derived.Test.YtdgpmpccfjmmcaaGreatDoorKMd3
import Derived.Test.YtdgpmpccfjmmcaaGreatDoorKJAh
set_option linter.unusedVariables false
set_option linter.unusedSimpArgs false
namespace Go.Proofs.YtdgpmpccfjmmcaaGreatDoor
section
variable {P:Program} {ops:Array Oper} {Q:Exit→Act→World→Prop} {md:Region.Mode} {F:Nat→World→Prop}
def AC (w:World) (g:Nat):Nat→List Value→Prop
 | _,[] => True
 | j,v ::l => w.cell? ⟨g,j,none⟩=some v∧AC w g (j+1) l
theorem ac_at {w:World} {g:Nat}:∀ (l:List Value) (j:Nat),(∀ i v,l[i]? =some v→w.cell? ⟨g,j+i,none⟩=some v)→AC w g j l
 | [],_,_ => trivial
 | v ::l,j,h => ⟨h 0 v rfl,ac_at l (j+1) fun i u hu => by have:=h (i+1) u (by simpa using hu);rwa [show j+(i+1)=j+1+i by omega] at this⟩
theorem ac_of {w:World} {g:Nat} {l:List Value} {t:TypeId} {f:Nat × Nat} (h:w.heap[g]? =some (.cells l.toArray t f)):AC w g 0 l:=ac_at l 0 fun i v hv => by
 rw [Nat.zero_add,cell_of_row w g i _ _ _ h]
 simpa using hv
def FF:List (Nat × (World→Prop))→Nat→World→Prop
 | [],_,_ => True
 | (i,f) ::l,k,w => bif k == i then f w else FF l k w
theorem tp {fuel:Nat} {listed:Array Bool} {V:List Nat} {a a':Act} {w:World} (i:Nat) {v:Value} (hs:takeB md ops listed i=true:=by kernel_rfl)
 (hy:∀ w,(execOp a.eval (opD ops.toList i)).run P w=.ok (.value v) w:=by intro u;simp only [opD];go_simp;try with_reducible rfl)
 (hg:Region.wanted (opD ops.toList i) (yielded ops a.tmps)=true:=by rfl) (ha:a.put (opD ops.toList i).dst v=a':=by (simp only [opD,Act.put,sA,sB,sC];try rfl))
 (hQ:∀ c a w,Q (.panic c) (a.put (opD ops.toList i).dst v) w→Q (.panic c) a w:=by exact fun _ _ _ h => h) (hV:allF F V w:=by assumption)
 (h:wpAnyF P md ops Q F fuel (listed.setIfInBounds i true) V a' w):wpAnyF P md ops Q F (fuel+1) listed V a w:=by
 subst ha
 exact takeP i hs hy hg hQ hV h
theorem tl {fuel:Nat} {listed:Array Bool} {V:List Nat} {a a':Act} {w:World} (i:Nat) {v:Value} (hs:(takeB md ops listed i && V.contains i)=true:=by kernel_rfl)
 (hy:∀ w,F i w→(execOp a.eval (opD ops.toList i)).run P w=.ok (.value v) w:=by intro u hF;(try simp only [FF,AC,Nat.reduceBEq,Nat.reduceAdd,cond_true,cond_false] at hF);simp only [opD];go_simp;try with_reducible rfl)
 (hg:Region.wanted (opD ops.toList i) (yielded ops a.tmps)=true:=by rfl) (ha:a.put (opD ops.toList i).dst v=a':=by (simp only [opD,Act.put,sA,sB,sC];try rfl))
 (hQ:∀ c a w,Q (.panic c) (a.put (opD ops.toList i).dst v) w→Q (.panic c) a w:=by exact fun _ _ _ h => h) (hV:allF F V w:=by assumption)
 (h:wpAnyF P md ops Q F fuel (listed.setIfInBounds i true) V a' w):wpAnyF P md ops Q F (fuel+1) listed V a w:=by
 subst ha
 exact takeL i hs hy hg hQ hV h
theorem tn {fuel:Nat} {listed:Array Bool} {V:List Nat} {a a':Act} {w:World} (i:Nat) (hs:takeB md ops listed i=true:=by kernel_rfl)
 (hg:Region.wanted (opD ops.toList i) (yielded ops a.tmps)=false:=by rfl) (ha:a.put (opD ops.toList i).dst undef=a':=by (simp only [opD,Act.put,sA,sB,sC];try rfl))
 (hQ:∀ c a w,Q (.panic c) (a.put (opD ops.toList i).dst undef) w→Q (.panic c) a w:=by exact fun _ _ _ h => h) (hV:allF F V w:=by assumption)
 (h:wpAnyF P md ops Q F fuel (listed.setIfInBounds i true) V a' w):wpAnyF P md ops Q F (fuel+1) listed V a w:=by
 subst ha
 exact takeN i hs hg hQ hV h
theorem r1 {fuel:Nat} {listed:Array Bool} {V:List Nat} {a:Act} {w:World} (i:Nat) (V':List Nat) {o:Oper} (hr:Region.ready md ops listed=[i]:=by kernel_rfl) (hV:(liveF md ops i V == V' && decide (i < ops.size))=true:=by kernel_rfl) (hO:opD ops.toList i=o:=by (simp only [opD];try rfl))
 (h:∀ K':Act→World→Prop,Shut (∀ a w,allF F V' w→(allF F V' w→wpAnyF P md ops Q F fuel (listed.setIfInBounds i true) V' a w)→K' a w)→if Region.wanted o (yielded ops a.tmps)=true then Oper.wp P o a w K' Q else K' (a.put o.dst undef) w) :
 wpAnyF P md ops Q F (fuel+1) listed V a w:=
 readyAll hr (by simp) (readyF.cons V' hV (fun o' ho' K' hK => by rw [hO] at ho';subst ho';exact h K' hK) readyF.nil)
theorem r2 {fuel:Nat} {listed:Array Bool} {V:List Nat} {a:Act} {w:World} (i j:Nat) (V' V2:List Nat) {o o2:Oper} (hr:Region.ready md ops listed=[i,j]:=by kernel_rfl) (hV:(liveF md ops i V == V' && decide (i < ops.size))=true:=by kernel_rfl) (hV2:(liveF md ops j V == V2 && decide (j < ops.size))=true:=by kernel_rfl)
 (hO:opD ops.toList i=o:=by (simp only [opD];try rfl)) (hO2:opD ops.toList j=o2:=by (simp only [opD];try rfl))
 (h:∀ K':Act→World→Prop,Shut (∀ a w,allF F V' w→(allF F V' w→wpAnyF P md ops Q F fuel (listed.setIfInBounds i true) V' a w)→K' a w)→if Region.wanted o (yielded ops a.tmps)=true then Oper.wp P o a w K' Q else K' (a.put o.dst undef) w)
 (h2:∀ K':Act→World→Prop,Shut (∀ a w,allF F V2 w→(allF F V2 w→wpAnyF P md ops Q F fuel (listed.setIfInBounds j true) V2 a w)→K' a w)→if Region.wanted o2 (yielded ops a.tmps)=true then Oper.wp P o2 a w K' Q else K' (a.put o2.dst undef) w) :
 wpAnyF P md ops Q F (fuel+1) listed V a w:=
 readyAll hr (by simp) (readyF.cons V' hV (fun o' ho' K' hK => by rw [hO] at ho';subst ho';exact h K' hK) (readyF.cons V2 hV2 (fun o' ho' K' hK => by rw [hO2] at ho';subst ho';exact h2 K' hK) readyF.nil))
theorem r3 {fuel:Nat} {listed:Array Bool} {V:List Nat} {a:Act} {w:World} (i j k:Nat) (V' V2 V3:List Nat) {o o2 o3:Oper} (hr:Region.ready md ops listed=[i,j,k]:=by kernel_rfl) (hV:(liveF md ops i V == V' && decide (i < ops.size))=true:=by kernel_rfl) (hV2:(liveF md ops j V == V2 && decide (j < ops.size))=true:=by kernel_rfl)
 (hV3:(liveF md ops k V == V3 && decide (k < ops.size))=true:=by kernel_rfl) (hO:opD ops.toList i=o:=by (simp only [opD];try rfl)) (hO2:opD ops.toList j=o2:=by (simp only [opD];try rfl)) (hO3:opD ops.toList k=o3:=by (simp only [opD];try rfl))
 (h:∀ K':Act→World→Prop,Shut (∀ a w,allF F V' w→(allF F V' w→wpAnyF P md ops Q F fuel (listed.setIfInBounds i true) V' a w)→K' a w)→if Region.wanted o (yielded ops a.tmps)=true then Oper.wp P o a w K' Q else K' (a.put o.dst undef) w)
 (h2:∀ K':Act→World→Prop,Shut (∀ a w,allF F V2 w→(allF F V2 w→wpAnyF P md ops Q F fuel (listed.setIfInBounds j true) V2 a w)→K' a w)→if Region.wanted o2 (yielded ops a.tmps)=true then Oper.wp P o2 a w K' Q else K' (a.put o2.dst undef) w)
 (h3:∀ K':Act→World→Prop,Shut (∀ a w,allF F V3 w→(allF F V3 w→wpAnyF P md ops Q F fuel (listed.setIfInBounds k true) V3 a w)→K' a w)→if Region.wanted o3 (yielded ops a.tmps)=true then Oper.wp P o3 a w K' Q else K' (a.put o3.dst undef) w) :
 wpAnyF P md ops Q F (fuel+1) listed V a w:=
 readyAll hr (by simp) (readyF.cons V' hV (fun o' ho' K' hK => by rw [hO] at ho';subst ho';exact h K' hK) (readyF.cons V2 hV2 (fun o' ho' K' hK => by rw [hO2] at ho';subst ho';exact h2 K' hK) (readyF.cons V3 hV3 (fun o' ho' K' hK => by rw [hO3] at ho';subst ho';exact h3 K' hK) readyF.nil)))
theorem dn {fuel:Nat} {listed:Array Bool} {V:List Nat} {a:Act} {w:World} (hr:Region.ready md ops listed=[]:=by kernel_rfl) (h:Q .normal a w):wpAnyF P md ops Q F fuel listed V a w:=readyDone hr h
theorem rg (L:List (Nat × (World→Prop))) {id:Nat} {a:Act} {w:World} (hm:P.follows .mixedOrders=true:=by kernel_rfl) (hS:allF (FF L) (L.map (·.1)) w.drew)
 (h:allF (FF L) (L.map (·.1)) w.drew→wpAnyF P .any ops Q (FF L) ops.size (Array.replicate ops.size false) (L.map (·.1)) a w.drew):(Code.region id ops true).wp P Q a w:=regionF _ _ hm hS h
theorem rgR (L:List (Nat × (World→Prop))) {l n:Nat} {id:Nat} {a:Act} {w:World} (hd:noDefer ops=true:=by kernel_rfl) (hl:¬ LetsOut Q:=by exact fun ⟨_,_,h⟩ => h) (hm:P.follows .mixedOrders=true:=by kernel_rfl) (hS:allF (FF L) (L.map (·.1)) w.drew)
 (h:allF (FF L) (L.map (·.1)) w.drew→wpAnyF P .any ops Q (FF L) ops.size (Array.replicate ops.size false) (L.map (·.1)) a w.drew):(Code.region id ops true).wpIn (Fence.wide.inRound l) n P Q a w:=region_round hd hl hm (wpAny_of_facts _ _ _ _ _ (h hS))
end
end Go.Proofs.YtdgpmpccfjmmcaaGreatDoor
namespace Go.Proofs.YtdgpmpccfjmmcaaGreatDoor
section
variable {P:Program} {ops:Array Oper} {Q:Exit→Act→World→Prop} {md:Region.Mode} {F:Nat→World→Prop}
def sortedB (md:Region.Mode) (ops:Array Oper):Bool:=(List.range ops.size).all fun i => (directL md ops i).all fun k => decide (k < i)
def upd (L:Nat→Bool) (i:Nat):Nat→Bool:=fun k => k == i || L k
def left (listed:Array Bool):Nat:=listed.toList.countP (! ·)
theorem left_list:∀ (l:List Bool) (i:Nat),l.getD i true=false→l.countP (! ·)=(l.set i true).countP (! ·)+1
 | [],i,h => by simp at h
 | b ::l,0,h => by
  have h:b=false:=h
  subst h
  simp
 | b ::l,i+1,h => by
  have:=left_list l i h
  simp only [List.set_cons_succ,List.countP_cons]
  omega
theorem left_set {listed:Array Bool} {i:Nat} (h:listed.getD i true=false):left listed=left (listed.setIfInBounds i true)+1:=by
 unfold left
 rw [Array.toList_setIfInBounds]
 refine left_list _ _ ?_
 rw [← h]
 simp [Array.getD_eq_getD_getElem?]
theorem getD_upd {listed:Array Bool} {i:Nat} (hi:i < listed.size):(fun k => (listed.setIfInBounds i true).getD k false)=upd (fun k => listed.getD k false) i:=by
 funext k
 unfold upd
 by_cases h:k=i
 ·subst h;simp [hi]
 ·rw [getD_set_ne false (Ne.symm h)]
  simp [h]
theorem none_left {listed:Array Bool} (hs:sortedB md ops=true) (hl:listed.size=ops.size) (h:Region.ready md ops listed=[]):∀ i,i < ops.size→listed.getD i false=true:=by
 intro i
 induction i using Nat.strongRecOn with
 | ind i ih =>
  intro hi
  cases hc:listed.getD i false with
  | true => rfl
  | false =>
   have hm:i ∈ Region.ready md ops listed:=by
    refine mem_ready.2 ⟨?_,ops[i],Array.getElem?_eq_getElem hi,fun e he hb => ?_⟩
    ·have:i < listed.size:=by omega
     simp [this] at hc ⊢
     exact hc
    ·have h1:=List.all_eq_true.1 hs i (List.mem_range.2 hi)
     have hk:e.on ∈ directL md ops i:=by
      unfold directL
      rw [Array.getElem?_eq_getElem hi]
      exact List.mem_map.2 ⟨e,List.mem_filter.2 ⟨Array.mem_toList_iff.2 he,hb⟩,rfl⟩
     have h2:=List.all_eq_true.1 h1 _ hk
     have h3:=of_decide_eq_true h2
     exact ih _ h3 (by omega)
   rw [h] at hm
   cases hm
theorem invF {V:List Nat} (I:(Nat→Bool)→Act→World→Prop) (hs:sortedB md ops=true) (hV:∀ L a w,I L a w→allF F V w)
 (hop:∀ (i:Nat) (L:Nat→Bool) (a:Act) (w:World),i < ops.size→L i=false→(∀ k ∈ directL md ops i,L k=true)→I L a w→∀ K:Act→World→Prop,Shut (∀ a w,I (upd L i) a w→K a w)→
   if Region.wanted (opD ops.toList i) (yielded ops a.tmps)=true then Oper.wp P (opD ops.toList i) a w K Q else K (a.put (opD ops.toList i).dst undef) w)
 (hend:∀ L a w,(∀ i,i < ops.size→L i=true)→I L a w→Q .normal a w) :
 ∀ (fuel:Nat) (listed:Array Bool) (V':List Nat) (a:Act) (w:World),(∀ k ∈ V',k ∈ V)→listed.size=ops.size→left listed≤fuel→I (fun k => listed.getD k false) a w→wpAnyF P md ops Q F fuel listed V' a w
 | 0,listed,V',a,w,_,hl,hf,hI => by
  have hr:Region.ready md ops listed=[]:=by
   cases hr:Region.ready md ops listed with
   | nil => rfl
   | cons i rs =>
    have hm:i ∈ Region.ready md ops listed:=by rw [hr];exact List.mem_cons_self
    have:=left_set (mem_ready.1 hm).1
    omega
  exact ⟨hr,hend _ _ _ (none_left hs hl hr) hI⟩
 | fuel+1,listed,V',a,w,hsub,hl,hf,hI => by
  refine ⟨fun hr => hend _ _ _ (none_left hs hl hr) hI,fun i hi => ?_⟩
  obtain ⟨h1,o,ho,h2⟩:=mem_ready.1 hi
  have hlt:i < ops.size:=(Array.getElem?_eq_some_iff.1 ho).1
  have hL:listed.getD i false=false:=by
   have:i < listed.size:=by omega
   simp [this] at h1 ⊢
   exact h1
  have hsub':∀ k ∈ liveF md ops i V',k ∈ V:=fun k hk => hsub k (List.mem_filter.1 hk).1
  refine wpOp_step (opD_ops hlt) fun K' hK => hop i _ a w hlt hL (direct_listed hi) hI K' (fun a' w' hI' => hK a' w' ?_)
  rw [← getD_upd (by omega)] at hI'
  exact ⟨allF_mem.2 fun k hk => allF_mem.1 (hV _ _ _ hI') k (hsub' k hk),invF I hs hV hop hend fuel _ _ a' w' hsub' (by simpa using hl) (by have:=left_set h1;omega) hI'⟩
def OpI (P:Program) (ops:Array Oper) (Q:Exit→Act→World→Prop) (I:(Nat→Bool)→Act→World→Prop) (i:Nat):Prop:=∀ (L:Nat→Bool) (a:Act) (w:World),L i=false→(∀ k ∈ directL .any ops i,L k=true)→I L a w→∀ K:Act→World→Prop,Shut (∀ a w,I (upd L i) a w→K a w)→
 if Region.wanted (opD ops.toList i) (yielded ops a.tmps)=true then Oper.wp P (opD ops.toList i) a w K Q else K (a.put (opD ops.toList i).dst undef) w
theorem none_up (n:Nat):(fun k => (Array.replicate n false).getD k false)=fun _ => false:=by
 funext k
 rw [Array.getD_eq_getD_getElem?,Array.getElem?_replicate]
 split <;> rfl
theorem dep {L:Nat→Bool} {i:Nat} (k:Nat) (h:∀ k ∈ directL md ops i,L k=true) (hc:(directL md ops i).contains k=true:=by kernel_rfl):L k=true:=h k (by simpa using hc)
theorem rgI (I:(Nat→Bool)→Act→World→Prop) {id:Nat} {a:Act} {w:World} (hI:I (fun _ => false) a w.drew) (hop:∀ i,i < ops.size→OpI P ops Q I i) (hend:∀ L a w,(∀ i,i < ops.size→L i=true)→I L a w→Q .normal a w)
 (hs:sortedB .any ops=true:=by kernel_rfl) (hm:P.follows .mixedOrders=true:=by kernel_rfl):(Code.region id ops true).wp P Q a w:=
 regionF (V:=[]) (F:=fun _ _ => True) hm trivial fun _ => invF (V:=[]) I hs (fun _ _ _ _ => trivial) (fun i L a w hi hL hd hI K hK => hop i hi L a w hL hd hI K hK) hend _ _ _ _ _ (fun _ h => h) (by simp) (by
  unfold left
  refine Nat.le_trans List.countP_le_length ?_
  simp) (by rw [none_up];exact hI)
end
end Go.Proofs.YtdgpmpccfjmmcaaGreatDoor
namespace Go.Proofs.YtdgpmpccfjmmcaaGreatDoor
open Go.RowKit
def keyP:P→Int × Int × ByteArray
 | .v _ => (0,0,⟨#[]⟩)
 | .i n => (2,n,⟨#[]⟩)
 | .a s => (3,0,ba s)
 | .c s l => (4,l.length,ba s)
def keyV (x:Int × Int × ByteArray):Value:=.agg #[.int .i64 x.1,.int .i64 x.2.1,.string x.2.2]
theorem keyed_any {p:P} {w:World} {S:Nat→Prop} {v:Value} (h:TP w S p.t v) (W:World):Calls Tryz.prog 306 #[v] W fun e w' => e=.returned (keyV (keyP p))∧Below W.heap.size W w':=by
 cases p with
 | v n =>
  obtain ⟨A,c,rfl,_⟩:=h
  go_enter Tryz.func306,Tryz.ntmps306
  go_wp2_with fail
  refine bodyPost_ret (v:=.agg #[.int .i64 0,.int .i64 0,.string ⟨#[]⟩]) (by simp [results,go_sem]) rfl ?_
  exact ⟨rfl,belA (belA (Below.refl _ _) _) _⟩
 | i n =>
  obtain ⟨A,c,rfl,_⟩:=h
  go_enter Tryz.func306,Tryz.ntmps306
  go_wp2_with fail
  refine bodyPost_ret (v:=.agg #[.int .i64 2,.int .i64 n,.string ⟨#[]⟩]) (by simp [results,go_sem]) rfl ?_
  exact ⟨rfl,belA (belA (Below.refl _ _) _) _⟩
 | a s =>
  obtain ⟨A,c,rfl,_⟩:=h
  go_enter Tryz.func306,Tryz.ntmps306
  go_wp2_with fail
  refine bodyPost_ret (v:=.agg #[.int .i64 3,.int .i64 0,.string (ba s)]) (by simp [results,go_sem]) rfl ?_
  exact ⟨rfl,belA (belA (Below.refl _ _) _) _⟩
 | c s l =>
  obtain ⟨A,c,rfl,_⟩:=h
  go_enter Tryz.func306,Tryz.ntmps306
  go_wp2_with fail
  refine bodyPost_ret (v:=.agg #[.int .i64 4,.int .i64 l.length,.string (ba s)]) (by simp [results,go_sem]) rfl ?_
  exact ⟨rfl,belA (belA (Below.refl _ _) _) _⟩
theorem ba_ne {s t:List UInt8}:((ba s).toList == (ba t).toList)=(s == t):=by
 rw [ByteArray.toList_eq,ByteArray.toList_eq];simp [ba]
structure ClashI (B:Nat) (w:World) (r1 r2 k1 k2 z:Array Value) (L:Nat→Bool) (u:World) (u5 u6 u7 u8 u9 u10:Value) (b5 b6:Nat):Prop where
 low:Below B w u
 hx:B+1 < u.heap.size∧u.heap[B]? =some (.cells r1 51 (0,0))∧u.heap[B+1]? =some (.cells r2 51 (0,0))
 l0:L 0=true→u7=.agg r1
 l2:L 2=true→u9=.agg r2
 l1:L 1=true→u8=.agg k1
 l3:L 3=true→u10=.agg k2
 l4:L 4=true→u5=.pointer (some ⟨b5,0,none⟩)∧B+2≤b5∧u.heap[b5]? =some (.cells (bif L 6 then k1 else z) 385 (0,0))
 l5:L 5=true→u6=.pointer (some ⟨b6,0,none⟩)∧B+2≤b6∧u.heap[b6]? =some (.cells (bif L 7 then k2 else z) 385 (0,0))
 l45:L 4=true→L 5=true→b5≠b6
 a6:L 6=true→L 4=true
 a7:L 7=true→L 5=true
section
variable {B:Nat} {w u u':World} {r1 r2 k1 k2 z:Array Value} {L:Nat→Bool} {u5 u6 u7 u8 u9 u10 v:Value} {b5 b6:Nat}
theorem ClashI.below (h:ClashI B w r1 r2 k1 k2 z L u u5 u6 u7 u8 u9 u10 b5 b6) (hb:Below u.heap.size u u') (hB:B≤u.heap.size):ClashI B w r1 r2 k1 k2 z L u' u5 u6 u7 u8 u9 u10 b5 b6:=
 have k:=fun {b:Nat} {o:Obj} (h:u.heap[b]? =some o) => (hb.block b (heap_lt h)).trans h
 ⟨h.low.trans (hb.mono hB),⟨Nat.lt_of_lt_of_le h.hx.1 hb.size,k h.hx.2.1,k h.hx.2.2⟩,h.l0,h.l2,h.l1,h.l3,fun q => let ⟨a,b,c⟩:=h.l4 q;⟨a,b,k c⟩,fun q => let ⟨a,b,c⟩:=h.l5 q;⟨a,b,k c⟩,h.l45,h.a6,h.a7⟩
end
set_option maxRecDepth 100000 in
set_option maxHeartbeats 8000000 in
theorem clash_cut {k n k' n':Int} {s s':ByteArray} {A A':Option Addr} {m c m' c':Nat} {x0 x1 y0 y1:Int} {x2 y2:ByteArray} (C1:Hid (∀ W,Calls Tryz.prog 306 #[.agg #[.int .i64 k,.int .i64 n,.string s,.slice A m c]] W fun e w' => e=.returned (.agg #[.int .i64 x0,.int .i64 x1,.string x2])∧Below W.heap.size W w'))
 (C2:Hid (∀ W,Calls Tryz.prog 306 #[.agg #[.int .i64 k',.int .i64 n',.string s',.slice A' m' c']] W fun e w' => e=.returned (.agg #[.int .i64 y0,.int .i64 y1,.string y2])∧Below W.heap.size W w')) (w:World) {r:Bool}
 (hr:r=(!((x0 == 0) && (x1 == 0) && (x2.toList == [])) && !((y0 == 0) && (y1 == 0) && (y2.toList == [])) && !((x0 == y0) && (x1 == y1) && (x2.toList == y2.toList)))) :
 Calls Tryz.prog 242 #[.agg #[.int .i64 k,.int .i64 n,.string s,.slice A m c],.agg #[.int .i64 k',.int .i64 n',.string s',.slice A' m' c']] w fun e w' => e=.returned (.bool r)∧Below w.heap.size w w':=by
 have HR:=Lib.hid hr
 clear hr
 go_enter Tryz.func242,Tryz.ntmps242
 go_upto_region 1 with fail
 go_cut [5,6] (fun s5 s6 wx => ∃ b5 b6,s5=.pointer (some ⟨b5,0,none⟩)∧s6=.pointer (some ⟨b6,0,none⟩)∧wx.heap[b5]? =some (.cells #[.int .i64 x0,.int .i64 x1,.string x2] 385 (0,0))∧wx.heap[b6]? =some (.cells #[.int .i64 y0,.int .i64 y1,.string y2] 385 (0,0))∧Below w.heap.size w wx)
 case first =>
  have hX:=(Below.heap_alloc (w.alloc (Obj.cells #[.int .i64 k,.int .i64 n,.string s,.slice A m c] 51)) (Obj.cells #[.int .i64 k',.int .i64 n',.string s',.slice A' m' c'] 51) w.heap.size (by simp)).trans (heap_alloc_new w (Obj.cells #[.int .i64 k,.int .i64 n,.string s,.slice A m c] 51))
  have hY:=heap_at (w.alloc (Obj.cells #[.int .i64 k,.int .i64 n,.string s,.slice A m c] 51)) (Obj.cells #[.int .i64 k',.int .i64 n',.string s',.slice A' m' c'] 51) (g:=w.heap.size+1) (by simp)
  refine rgI (fun L a u => ∃ u5 u6 u7 u8 u9 u10 b5 b6,a.tmps= #[.agg #[.int .i64 k,.int .i64 n,.string s,.slice A m c],.agg #[.int .i64 k',.int .i64 n',.string s',.slice A' m' c'],.pointer (some ⟨w.heap.size,0,none⟩),.pointer (some ⟨w.heap.size+1,0,none⟩),.bool false,u5,u6,u7,u8,u9,u10,undef,undef,undef,undef,undef,undef,undef,undef,undef,undef,undef,undef,undef]∧a.defers=[]∧
   ClashI w.heap.size w #[.int .i64 k,.int .i64 n,.string s,.slice A m c] #[.int .i64 k',.int .i64 n',.string s',.slice A' m' c'] #[.int .i64 x0,.int .i64 x1,.string x2] #[.int .i64 y0,.int .i64 y1,.string y2] #[.int .i64 0,.int .i64 0,.string ⟨#[]⟩] L u u5 u6 u7 u8 u9 u10 b5 b6) ?_ ?_ ?_
  ·refine ⟨_,_,_,_,_,_,0,0,rfl,rfl,⟨?_,⟨by simp,hX,hY⟩,nofun,nofun,nofun,nofun,nofun,nofun,nofun,nofun,nofun⟩⟩
   exact (belA (belA (Below.refl w.heap.size w) _) _).drew
  ·intro i hi
   match i,hi with
   | 0,_ =>
    rintro L ⟨_,_⟩ u hL hd ⟨u5,u6,u7,u8,u9,u10,b5,b6,rfl,rfl,J⟩ K hK
    obtain ⟨c0,c1,c2,c3⟩:=box4 J.hx.2.1
    simp only [opD]
    go_simp
    refine hK _ _ ⟨_,_,_,_,_,_,_,_,rfl,rfl,{J with l0:=fun _ => rfl}⟩
   | 1,_ =>
    rintro L ⟨_,_⟩ u hL hd ⟨u5,u6,u7,u8,u9,u10,b5,b6,rfl,rfl,J⟩ K hK
    obtain rfl:=J.l0 (dep 0 hd)
    simp only [opD]
    go_simp
    refine (C1.out _).mono ?_
    rintro e w9 ⟨rfl,hb9⟩
    refine hK _ _ ⟨_,_,_,_,_,_,_,_,rfl,rfl,{J.below hb9 (by have:=J.hx.1;omega) with l1:=fun _ => rfl}⟩
   | 2,_ =>
    rintro L ⟨_,_⟩ u hL hd ⟨u5,u6,u7,u8,u9,u10,b5,b6,rfl,rfl,J⟩ K hK
    obtain ⟨c0,c1,c2,c3⟩:=box4 J.hx.2.2
    simp only [opD]
    go_simp
    refine hK _ _ ⟨_,_,_,_,_,_,_,_,rfl,rfl,{J with l2:=fun _ => rfl}⟩
   | 3,_ =>
    rintro L ⟨_,_⟩ u hL hd ⟨u5,u6,u7,u8,u9,u10,b5,b6,rfl,rfl,J⟩ K hK
    obtain rfl:=J.l2 (dep 2 hd)
    simp only [opD]
    go_simp
    refine (C2.out _).mono ?_
    rintro e w9 ⟨rfl,hb9⟩
    refine hK _ _ ⟨_,_,_,_,_,_,_,_,rfl,rfl,{J.below hb9 (by have:=J.hx.1;omega) with l3:=fun _ => rfl}⟩
   | 4,_ =>
    rintro L ⟨_,_⟩ u hL hd ⟨u5,u6,u7,u8,u9,u10,b5,b6,rfl,rfl,J⟩ K hK
    have h6:L 6=false:=Bool.eq_false_iff.2 fun h => by rw [J.a6 h] at hL;cases hL
    have hb:=J.hx.1
    simp only [opD]
    go_simp
    refine hK _ _ ⟨_,_,_,_,_,_,u.heap.size,b6,rfl,rfl,{J.below (belA (Below.refl _ _) _) (by omega) with l4:=fun _ => ⟨rfl,by omega,?_⟩,l45:=fun h h' => ?_,a6:=fun _ => rfl}⟩
    ·have h6:upd L 4 6=false:=h6
     rw [h6]
     exact heap_alloc_new _ _
    ·have:=heap_lt (J.l5 h').2.2
     exact Ne.symm (Nat.ne_of_lt this)
   | 5,_ =>
    rintro L ⟨_,_⟩ u hL hd ⟨u5,u6,u7,u8,u9,u10,b5,b6,rfl,rfl,J⟩ K hK
    have h6:L 7=false:=Bool.eq_false_iff.2 fun h => by rw [J.a7 h] at hL;cases hL
    have hb:=J.hx.1
    simp only [opD]
    go_simp
    refine hK _ _ ⟨_,_,_,_,_,_,b5,u.heap.size,rfl,rfl,{J.below (belA (Below.refl _ _) _) (by omega) with l5:=fun _ => ⟨rfl,by omega,?_⟩,l45:=fun h h' => ?_,a7:=fun _ => rfl}⟩
    ·have h6:upd L 5 7=false:=h6
     rw [h6]
     exact heap_alloc_new _ _
    ·have:=heap_lt (J.l4 h).2.2
     exact (Nat.ne_of_lt this)
   | 6,_ =>
    rintro L ⟨_,_⟩ u hL hd ⟨u5,u6,u7,u8,u9,u10,b5,b6,rfl,rfl,J⟩ K hK
    obtain ⟨e1,hb5,h5⟩:=J.l4 (dep 4 hd)
    obtain rfl:=e1
    obtain rfl:=J.l1 (dep 1 hd)
    have hb:=J.hx.1
    obtain ⟨cs,hcs,z0,z1,z2,hz⟩:∃ cs,u.heap[b5]? =some (.cells cs 385 (0,0))∧∃ z0 z1 z2,cs= #[z0,z1,z2]:=by
     rw [hL] at h5
     exact ⟨_,h5,_,_,_,rfl⟩
    obtain rfl:=hz
    have c0:=cell_of_row u b5 0 _ _ _ hcs
    have c1:=cell_of_row u b5 1 _ _ _ hcs
    have c2:=cell_of_row u b5 2 _ _ _ hcs
    have cf:∀ j,u.frozen? ⟨b5,j,none⟩=false:=fun j => by simp [World.frozen?,hcs]
    have cl:=heap_lt hcs
    have far:∀ a b c q,q≠b5→(((u.setCell ⟨b5,0,none⟩ a).setCell ⟨b5,1,none⟩ b).setCell ⟨b5,2,none⟩ c).heap[q]? =u.heap[q]?:=fun _ _ _ q hq => (Below.heap_setCell _ _ _ q hq).trans ((Below.heap_setCell _ _ _ q hq).trans (Below.heap_setCell _ _ _ q hq))
    have near:=fun a b c => blk_set (blk_set (blk_set hcs 0 a) 1 b) 2 c
    simp only [opD]
    go_simp
    refine hK _ _ ⟨_,_,_,_,_,_,b5,b6,rfl,rfl,{J with low:=((J.low.setCell (by simp;omega) _).setCell (by simp;omega) _).setCell (by simp;omega) _,hx:=⟨by simpa using J.hx.1,(far _ _ _ _ (by omega)).trans J.hx.2.1,(far _ _ _ _ (by omega)).trans J.hx.2.2⟩,l4:=fun _ => ⟨rfl,hb5,near _ _ _⟩,l5:=fun h => ⟨(J.l5 h).1,(J.l5 h).2.1,(far _ _ _ _ (J.l45 (dep 4 hd) h).symm).trans (J.l5 h).2.2⟩,a6:=fun _ => (dep 4 hd:L 4=true)}⟩
   | 7,_ =>
    rintro L ⟨_,_⟩ u hL hd ⟨u5,u6,u7,u8,u9,u10,b5,b6,rfl,rfl,J⟩ K hK
    obtain ⟨e1,hb5,h5⟩:=J.l5 (dep 5 hd)
    obtain rfl:=e1
    obtain rfl:=J.l3 (dep 3 hd)
    have hb:=J.hx.1
    obtain ⟨cs,hcs,z0,z1,z2,hz⟩:∃ cs,u.heap[b6]? =some (.cells cs 385 (0,0))∧∃ z0 z1 z2,cs= #[z0,z1,z2]:=by
     rw [hL] at h5
     exact ⟨_,h5,_,_,_,rfl⟩
    obtain rfl:=hz
    have c0:=cell_of_row u b6 0 _ _ _ hcs
    have c1:=cell_of_row u b6 1 _ _ _ hcs
    have c2:=cell_of_row u b6 2 _ _ _ hcs
    have cf:∀ j,u.frozen? ⟨b6,j,none⟩=false:=fun j => by simp [World.frozen?,hcs]
    have cl:=heap_lt hcs
    have far:∀ a b c q,q≠b6→(((u.setCell ⟨b6,0,none⟩ a).setCell ⟨b6,1,none⟩ b).setCell ⟨b6,2,none⟩ c).heap[q]? =u.heap[q]?:=fun _ _ _ q hq => (Below.heap_setCell _ _ _ q hq).trans ((Below.heap_setCell _ _ _ q hq).trans (Below.heap_setCell _ _ _ q hq))
    have near:=fun a b c => blk_set (blk_set (blk_set hcs 0 a) 1 b) 2 c
    simp only [opD]
    go_simp
    refine hK _ _ ⟨_,_,_,_,_,_,b5,b6,rfl,rfl,{J with low:=((J.low.setCell (by simp;omega) _).setCell (by simp;omega) _).setCell (by simp;omega) _,hx:=⟨by simpa using J.hx.1,(far _ _ _ _ (by omega)).trans J.hx.2.1,(far _ _ _ _ (by omega)).trans J.hx.2.2⟩,l5:=fun _ => ⟨rfl,hb5,near _ _ _⟩,l4:=fun h => ⟨(J.l4 h).1,(J.l4 h).2.1,(far _ _ _ _ (J.l45 h (dep 5 hd))).trans (J.l4 h).2.2⟩,a7:=fun _ => (dep 5 hd:L 5=true)}⟩
   | _+8,h => exact absurd h (by simp)
  ·rintro L ⟨_,_⟩ u hL ⟨u5,u6,u7,u8,u9,u10,b5,b6,rfl,rfl,J⟩
   obtain ⟨rfl,hb5,h5⟩:=J.l4 (hL 4 (by decide))
   obtain ⟨rfl,hb6,h6⟩:=J.l5 (hL 5 (by decide))
   rw [hL 6 (by decide)] at h5
   rw [hL 7 (by decide)] at h6
   go_wp2_with fail
   go_meet
   exact ⟨b5,b6,rfl,rfl,h5,h6,J.low⟩
 case rest =>
  obtain ⟨b5,b6,rfl,rfl,h5,h6,hB⟩:=hcut
  have c0:=cell_of_row wc b5 0 _ _ _ h5
  have c1:=cell_of_row wc b5 1 _ _ _ h5
  have c2:=cell_of_row wc b5 2 _ _ _ h5
  have d0:=cell_of_row wc b6 0 _ _ _ h6
  have d1:=cell_of_row wc b6 1 _ _ _ h6
  have d2:=cell_of_row wc b6 2 _ _ _ h6
  have BB:=Lib.hid hB
  clear h5 h6 hB
  go_wp2_with fail
  all_goals
   refine bodyPost_ret (v:=.bool r) ?_ rfl ⟨rfl,BB.out⟩
   have HR:=HR.out
   simp_all [results,go_sem]
   try grind
theorem clashP_keys (p q:P):clashP p q=(!(((keyP p).1 == 0) && ((keyP p).2.1 == 0) && ((keyP p).2.2.toList == [])) && !(((keyP q).1 == 0) && ((keyP q).2.1 == 0) && ((keyP q).2.2.toList == [])) && !(((keyP p).1 == (keyP q).1) && ((keyP p).2.1 == (keyP q).2.1) && ((keyP p).2.2.toList == (keyP q).2.2.toList))):=by
 cases p <;> cases q <;> simp [clashP,keyP,ba_ne,bne]
 all_goals try grind [ba_ne]
theorem clash_any {p q:P} {w:World} {S S':Nat→Prop} {v v':Value} (h:TP w S p.t v) (h':TP w S' q.t v'):Calls Tryz.prog 242 #[v,v'] w fun e w' => e=.returned (.bool (clashP p q))∧Below w.heap.size w w':=by
 have H:=Lib.hid (fun W => keyed_any h W)
 have H':=Lib.hid (fun W => keyed_any h' W)
 obtain ⟨k,n,s,A,m,c,rfl⟩:=h.agg
 obtain ⟨k',n',s',A',m',c',rfl⟩:=h'.agg
 exact clash_cut H H' w (clashP_keys p q)
end Go.Proofs.YtdgpmpccfjmmcaaGreatDoor
namespace Go.Proofs.YtdgpmpccfjmmcaaGreatDoor
open Go.RowKit
def trueV:Value:=.agg #[.int .i64 3,.int .i64 0,.string ⟨#[116,114,117,101]⟩,.slice none 0 0]
theorem bel_same {w:World} {b:Nat} {t:TypeId} {f:Nat × Nat} {v:Value} (h:w.heap[b]? =some (.cells #[v] t f)):Below w.heap.size w (w.setCell ⟨b,0,none⟩ v):=by
 have h0:=(Below.refl 0 w).setCell (p:=⟨b,0,none⟩) (Nat.zero_le _) v
 refine ⟨h0.os,h0.tape,h0.output,h0.size,fun k _ => ?_⟩
 by_cases hk:k=b
 ·subst hk
  rw [h]
  simpa using blk_set h 0 v
 ·exact Below.heap_setCell _ _ _ _ hk
set_option maxRecDepth 100000 in
set_option maxHeartbeats 4000000 in
theorem zcheck_any {Wb Fb:Nat} (w:World) (hC:w.heap[Wb]? =some (.cells #[.bool false] 4 (0,0))):Calls Tryz.prog 37 #[trueV,.pointer (some ⟨Wb,0,none⟩),.pointer (some ⟨Fb,0,none⟩)] w fun e w' => e=.returned (.tuple #[])∧Below w.heap.size w w':=by
 have c0:=cell_of_row w Wb 0 _ _ _ hC
 have hlw:=heap_lt hC
 have wz:∀ i,w.frozen? ⟨Wb,i,none⟩=false:=fun i => by simp [World.frozen?,hC]
 have CC:=Lib.hid (fun W => pcontrol_any 3 0 ⟨#[116,114,117,101]⟩ none 0 0 W)
 rw [show ctlV 3 ⟨#[116,114,117,101]⟩ 0=false by decide+kernel] at CC
 have B1:=Lib.hid (belA (bel_same hC) (Obj.cells #[.int .i64 3,.int .i64 0,.string ⟨#[116,114,117,101]⟩,.slice none 0 0] 51))
 have X1:=Lib.hid (show ((w.setCell ⟨Wb,0,none⟩ (.bool false)).alloc (Obj.cells #[.int .i64 3,.int .i64 0,.string ⟨#[116,114,117,101]⟩,.slice none 0 0] 51)).heap[w.heap.size]? =some (.cells #[.int .i64 3,.int .i64 0,.string ⟨#[116,114,117,101]⟩,.slice none 0 0] 51 (0,0)) from heap_at _ _ (by simp))
 clear hC
 unfold trueV
 go_enter Tryz.func37,Tryz.ntmps37
 go_wp2_with fail
 refine (CC.out _).mono ?_
 rintro e w2 ⟨rfl,hx⟩
 have B2:=Lib.hid (B1.out.trans (hx.mono B1.out.size))
 clear hx CC
 go_wp2_with fail
 go_end0
 exact ⟨rfl,B2.out⟩
set_option maxRecDepth 100000 in
set_option maxHeartbeats 4000000 in
theorem zgath_any {Fb Ob:Nat} (w:World):Calls Tryz.prog 38 #[trueV,.pointer (some ⟨Fb,0,none⟩),.pointer (some ⟨Ob,0,none⟩)] w fun e w' => e=.returned (.tuple #[])∧Below w.heap.size w w':=by
 have CN:=Lib.hid (fun W => pname_any 3 0 ⟨#[116,114,117,101]⟩ none 0 0 W)
 rw [show nameV 3 ⟨#[116,114,117,101]⟩ 0=.tuple #[.string ⟨#[116,114,117,101]⟩,.int .i64 0,.bool true] from rfl] at CN
 have B1:=Lib.hid (belA (Below.refl w.heap.size w) (Obj.cells #[.int .i64 3,.int .i64 0,.string ⟨#[116,114,117,101]⟩,.slice none 0 0] 51))
 have e1:((⟨#[116,114,117,101]⟩:ByteArray).toList == [44])=false:=by decide+kernel
 have e2:((⟨#[116,114,117,101]⟩:ByteArray).toList == [116,114,117,101])=true:=by decide+kernel
 obtain ⟨z,hz⟩:∃ z:ByteArray,⟨#[116,114,117,101]⟩=z:=⟨_,rfl⟩
 unfold trueV
 rw [hz] at CN B1 e1 e2 ⊢
 clear hz
 go_enter Tryz.func38,Tryz.ntmps38
 go_wp2_with fail
 refine (CN.out _).mono ?_
 rintro e w2 ⟨rfl,hx⟩
 have B2:=Lib.hid (B1.out.trans (hx.mono B1.out.size))
 clear hx CN
 go_wp2_with fail
 go_end0
 exact ⟨rfl,B2.out⟩
set_option maxRecDepth 100000 in
set_option maxHeartbeats 4000000 in
theorem zgoals_any (w:World):Calls Tryz.prog 15 #[trueV] w fun e w' => e=.returned (.tuple #[.slice none 0 0,.int .i64 0])∧Below w.heap.size w w':=by
 have SF1:∀ (a:Addr) (cs:Array Value) (m:Mode) (W:World),(store a (.func (.func 37) #[] cs) m).run Tryz.prog W=stored Tryz.prog W a (.func (.func 37) #[] cs) m:=fun a cs m W => run_store _ W a _ m rfl
 have SF2:∀ (a:Addr) (cs:Array Value) (m:Mode) (W:World),(store a (.func (.func 38) #[] cs) m).run Tryz.prog W=stored Tryz.prog W a (.func (.func 38) #[] cs) m:=fun a cs m W => run_store _ W a _ m rfl
 obtain ⟨W0,hW0⟩:∃ W0,W0=((((w.alloc (Obj.cells #[.int .i64 3,.int .i64 0,.string ⟨#[116,114,117,101]⟩,.slice none 0 0] 51)).alloc (Obj.cells #[.slice none 0 0] 47)).alloc (Obj.cells #[.bool false] 4)).alloc (Obj.cells #[fnK (w.heap.size+1+1) (w.heap.size+1+1+1)] 109)).alloc (Obj.cells #[fnH (w.heap.size+1+1+1+1) (w.heap.size+1)] 109):=⟨_,rfl⟩
 have st:∀ (u:World) (o o':Obj) (g:Nat),u.heap[g]? =some o'→(u.alloc o).heap[g]? =some o':=fun u o o' g h => (Below.heap_alloc _ _ _ (heap_lt h)).trans h
 have nw:∀ (u:World) (o:Obj) (g:Nat),g=u.heap.size→(u.alloc o).heap[g]? =some o:=fun u o g h => heap_at u o h
 have BX:=Lib.hid (show Below w.heap.size w W0 by rw [hW0];exact belA (belA (belA (belA (belA (Below.refl _ _) _) _) _) _) _)
 have X0:W0.heap[w.heap.size]? =some (.cells #[.int .i64 3,.int .i64 0,.string ⟨#[116,114,117,101]⟩,.slice none 0 0] 51 (0,0)):=by rw [hW0];exact st _ _ _ _ (st _ _ _ _ (st _ _ _ _ (st _ _ _ _ (nw _ _ _ rfl))))
 have XW:W0.heap[w.heap.size+1+1]? =some (.cells #[.bool false] 4 (0,0)):=by rw [hW0];exact st _ _ _ _ (st _ _ _ _ (nw _ _ _ (by simp)))
 have XF:W0.heap[w.heap.size+1+1+1+1]? =some (.cells #[fnH (w.heap.size+1+1+1+1) (w.heap.size+1)] 109 (0,0)):=by rw [hW0];exact nw _ _ _ (by simp)
 have XO:W0.heap[w.heap.size+1]? =some (.cells #[.slice none 0 0] 47 (0,0)):=by rw [hW0];exact st _ _ _ _ (st _ _ _ _ (st _ _ _ _ (nw _ _ _ (by simp))))
 have CC:=Lib.hid (zcheck_any (Fb:=w.heap.size+1+1+1) W0 XW)
 have HX:=Lib.hid (fun (W:World) (hb:Below W0.heap.size W0 W) => show W.heap[w.heap.size]? =some (.cells #[.int .i64 3,.int .i64 0,.string ⟨#[116,114,117,101]⟩,.slice none 0 0] 51 (0,0))∧W.heap[w.heap.size+1+1]? =some (.cells #[.bool false] 4 (0,0))∧W.heap[w.heap.size+1+1+1+1]? =some (.cells #[fnH (w.heap.size+1+1+1+1) (w.heap.size+1)] 109 (0,0))∧W.heap[w.heap.size+1]? =some (.cells #[.slice none 0 0] 47 (0,0)) from
  ⟨(hb.block _ (heap_lt X0)).trans X0,(hb.block _ (heap_lt XW)).trans XW,(hb.block _ (heap_lt XF)).trans XF,(hb.block _ (heap_lt XO)).trans XO⟩)
 have HW0:=Lib.hid hW0
 clear hW0 st nw X0 XW XF XO
 unfold trueV at CC ⊢
 go_enter Tryz.func15,Tryz.ntmps15
 go_wp2_with fail
 have hW:=HW0.out
 unfold fnK fnH at hW
 rw [← hW]
 clear hW
 refine CC.out.mono ?_
 rintro e w1 ⟨rfl,hb1⟩
 have B1:=Lib.hid (BX.out.trans (hb1.mono BX.out.size))
 obtain ⟨x0,xw,xf,xo⟩:=HX.out w1 hb1
 have KX:=Lib.hid (fun (W:World) (hb:Below w1.heap.size w1 W) => And.intro ((hb.block _ (heap_lt xo)).trans xo) (Below.trans B1.out (hb.mono B1.out.size)))
 have cw0:=cell_of_row w1 _ 0 _ _ _ xw
 have cf0:=cell_of_row w1 _ 0 _ _ _ xf
 have lw0:=heap_lt xw
 have lf0:=heap_lt xf
 have lx0:=heap_lt x0
 obtain ⟨y0,y1,y2,y3⟩:=box4t x0
 have CG:=Lib.hid (zgath_any (Fb:=w.heap.size+1+1+1+1) (Ob:=w.heap.size+1) w1)
 unfold trueV at CG
 unfold fnH at cf0
 clear hb1 x0 xw xf xo CC HX
 go_wp2_with fail
 refine CG.out.mono ?_
 rintro e w2 ⟨rfl,hb2⟩
 obtain ⟨xo2,bb⟩:=KX.out w2 hb2
 have B2:=Lib.hid bb
 have co0:=cell_of_row w2 _ 0 _ _ _ xo2
 have lo0:=heap_lt xo2
 clear hb2 bb CG cf0 lf0 lx0 y0 y1 y2 y3 cw0 lw0 xo2 KX
 go_wp2_with fail
 go_ret2
 exact ⟨rfl,B2.out⟩
set_option maxRecDepth 100000 in
set_option maxHeartbeats 8000000 in
theorem zsplit_any {s:List UInt8} (hs:s=[112]∨s=[113]) (q1:Int) (A:Option Addr) (c:Nat) (w:World):Calls Tryz.prog 12 #[.agg #[.int .i64 4,.int .i64 q1,.string (ba s),.slice A 2 c]] w fun e w' =>
 e=.returned (.tuple #[.agg #[.int .i64 4,.int .i64 q1,.string (ba s),.slice A 2 c],trueV,.int .i64 0])∧Below w.heap.size w w':=by
 have CN:=Lib.hid (fun W => pname_any 4 q1 (ba s) A 2 c W)
 rw [show nameV 4 (ba s) 2=.tuple #[.string (ba s),.int .i64 2,.bool true] from rfl] at CN
 have CC:=Lib.hid (fun W => pcontrol_any 4 q1 (ba s) A 2 c W)
 rw [show ctlV 4 (ba s) 2=false by rcases hs with rfl | rfl <;> decide+kernel] at CC
 have e1:((ba s).toList == [58,45])=false:=by rcases hs with rfl | rfl <;> decide+kernel
 obtain ⟨z,hz⟩:∃ z:ByteArray,ba s=z:=⟨_,rfl⟩
 rw [hz] at CN CC e1 ⊢
 have CG:=Lib.hid (fun W => zgoals_any W)
 unfold trueV at CG ⊢
 clear hz hs
 obtain ⟨W0,hW0⟩:∃ W0,W0=((((w.alloc (Obj.cells #[.int .i64 4,.int .i64 q1,.string z,.slice A 2 c] 51)).alloc (Obj.cells #[.int .i64 0,.int .i64 0,.string ⟨#[]⟩,.slice none 0 0] 51)).alloc (Obj.cells #[.int .i64 0,.int .i64 0,.string ⟨#[]⟩,.slice none 0 0] 51)).alloc (Obj.cells #[.int .i64 4,.int .i64 q1,.string z,.slice A 2 c] 51)).alloc (Obj.cells #[.int .i64 3,.int .i64 0,.string ⟨#[116,114,117,101]⟩,.slice none 0 0] 51):=⟨_,rfl⟩
 have hs0:W0.heap.size=w.heap.size+5:=by rw [hW0];simp
 have HT0:=Lib.hid (show W0.heap[w.heap.size]? =some (.cells #[.int .i64 4,.int .i64 q1,.string z,.slice A 2 c] 51 (0,0)) by
  have st:∀ (u:World) (o o':Obj) (g:Nat),u.heap[g]? =some o'→(u.alloc o).heap[g]? =some o':=fun u o o' g h => (Below.heap_alloc _ _ _ (heap_lt h)).trans h
  rw [hW0]
  exact st _ _ _ _ (st _ _ _ _ (st _ _ _ _ (st _ _ _ _ (heap_at _ _ rfl)))))
 have S0:=Lib.hid (SpB.start hW0)
 have HW0:=Lib.hid hW0
 clear hW0
 go_enter Tryz.func12,Tryz.ntmps12
 go_wp2_with fail
 rw [← HW0.out]
 refine (CN.out _).mono ?_
 rintro e w1 ⟨rfl,hx⟩
 have S1:=Lib.hid (S0.out.below hx)
 have HT1:=Lib.hid ((hx.block w.heap.size (heap_lt HT0.out)).trans HT0.out)
 have hl1:=heap_lt HT1.out
 obtain ⟨x0,x1,x2,x3⟩:=box4t HT1.out
 obtain ⟨y0,y1,y2,y3⟩:=box4t S1.out.hd
 have hlM:=S1.out.lt
 clear hx
 go_wp2_with fail
 refine (CN.out _).mono ?_
 rintro e w2 ⟨rfl,hx⟩
 have S2:=Lib.hid (S1.out.below hx)
 clear hx y0 y1 y2 y3 x0 x1 x2 x3 hl1 hlM
 obtain ⟨y0,y1,y2,y3⟩:=box4t S2.out.hd
 have hlM:=S2.out.lt
 go_wp2_with fail
 refine (CC.out _).mono ?_
 rintro e w3 ⟨rfl,hx⟩
 have S3:=Lib.hid (S2.out.below hx)
 clear hx y0 y1 y2 y3 hlM
 obtain ⟨v0,v1,v2,v3⟩:=box4t S3.out.bd
 have hlM:=S3.out.lt
 go_wp2_with fail
 refine (CG.out _).mono ?_
 rintro e w9 ⟨rfl,hx⟩
 have S9:=Lib.hid (S3.out.below hx)
 clear hx v0 v1 v2 v3 hlM
 have hlS9:=S9.out.lt
 obtain ⟨y0,y1,y2,y3⟩:=box4t S9.out.hd
 obtain ⟨z0,z1,z2,z3⟩:=box4t S9.out.r1
 obtain ⟨u0,u1,u2,u3⟩:=box4t S9.out.r2
 obtain ⟨v0,v1,v2,v3⟩:=box4t S9.out.bd
 obtain ⟨zf,uf,_,_⟩:=S9.out.fz
 have q12:w.heap.size+1≠w.heap.size+2:=by omega
 have q13:w.heap.size+1≠w.heap.size+3:=by omega
 have q14:w.heap.size+1≠w.heap.size+4:=by omega
 go_wp2_with fail
 go_region
 obtain ⟨WB,hWB⟩:∃ WB,(((((((w9.setCell ⟨w.heap.size+1,0,none⟩ (.int .i64 4)).setCell ⟨w.heap.size+1,1,none⟩ (.int .i64 q1)).setCell ⟨w.heap.size+1,2,none⟩ (.string z)).setCell ⟨w.heap.size+1,3,none⟩ (.slice A 2 c)).setCell ⟨w.heap.size+1+1,0,none⟩ (.int .i64 3)).setCell ⟨w.heap.size+1+1,1,none⟩ (.int .i64 0)).setCell ⟨w.heap.size+1+1,2,none⟩ (.string ⟨#[116,114,117,101]⟩)).setCell ⟨w.heap.size+1+1,3,none⟩ (.slice none 0 0)=WB:=⟨_,rfl⟩
 rw [hWB]
 obtain ⟨g1,g2,g3,_⟩:=S9.out.put (S:=fun _ => False) (fun _ h => h.elim) _ _ _ _ _ _ _ _ hWB
 obtain ⟨p0,p1,p2,p3⟩:=box4t (w:=WB.drew) g1
 obtain ⟨o0,o1,o2,o3⟩:=box4t (w:=WB.drew) g2
 have HB:=Lib.hid g3.drew
 clear g1 g2 g3 hWB
 go_wp2_with fail
 refine bodyPost_ret (v:=.tuple #[.agg #[.int .i64 4,.int .i64 q1,.string z,.slice A 2 c],.agg #[.int .i64 3,.int .i64 0,.string ⟨#[116,114,117,101]⟩,.slice none 0 0],.int .i64 0]) (by simp [results,go_sem,p0,p1,p2,p3,o0,o1,o2,o3]) rfl ?_
 exact ⟨rfl,HB.out⟩
end Go.Proofs.YtdgpmpccfjmmcaaGreatDoor
