/- Orders of a region that draws:a load is taken first where its cell is kept until it is read. -/
import Derived.Deep.RegionHeld3
import Derived.StillTail
set_option linter.unusedVariables false
set_option linter.unusedSimpArgs false
namespace Go.Proofs.YtdgpmpccfjmmcaaGreatDoor
section
variable {P:Program} {ops:Array Oper} {Q:Exit→Act→World→Prop} {md:Region.Mode} {F:Nat→World→Prop}
def allF (F:Nat→World→Prop):List Nat→World→Prop
 | [],_ => True
 | k ::V,w => F k w∧allF F V w
theorem allF_mem:∀ {V:List Nat} {w:World},allF F V w↔∀ k ∈ V,F k w
 | [],_ => by simp [allF]
 | k ::V,w => by simp [allF,allF_mem (V:=V)]
def directL (md:Region.Mode) (ops:Array Oper) (j:Nat):List Nat:=match ops[j]? with
 | some o => (o.after.toList.filter (Region.binds md)).map (·.on)
 | none => []
def ancs (md:Region.Mode) (ops:Array Oper):Nat→List Nat→List Nat
 | 0,l => l
 | f+1,l => ancs md ops f (l++l.flatMap (directL md ops)).eraseDups
def waitsA (md:Region.Mode) (ops:Array Oper) (j:Nat):List Nat:=ancs md ops 5 (directL md ops j)
def liveF (md:Region.Mode) (ops:Array Oper) (i:Nat) (V:List Nat):List Nat:=V.filter fun k => !(waitsA md ops i).contains k
def ClosedL (md:Region.Mode) (ops:Array Oper) (listed:Array Bool):Prop:=∀ j,listed.getD j false=true→∀ k ∈ directL md ops j,listed.getD k false=true
def closedB (md:Region.Mode) (ops:Array Oper) (listed:Array Bool):Bool:=(List.range listed.size).all fun j => !listed.getD j false || (directL md ops j).all fun k => listed.getD k false
theorem closedB_spec {listed:Array Bool} (h:closedB md ops listed=true):ClosedL md ops listed:=fun j hj k hk => by
 have hl:j < listed.size:=by
  rcases Nat.lt_or_ge j listed.size with h' | h'
  ·exact h'
  ·simp [Array.getElem?_eq_none h'] at hj
 have h1:=List.all_eq_true.1 h j (List.mem_range.2 hl)
 rw [hj] at h1
 exact List.all_eq_true.1 (show ((directL md ops j).all fun k => listed.getD k false)=true from h1) k hk
theorem ancs_listed {listed:Array Bool} (hc:ClosedL md ops listed):∀ (f:Nat) (l:List Nat),(∀ k ∈ l,listed.getD k false=true)→∀ k ∈ ancs md ops f l,listed.getD k false=true
 | 0,_,h => h
 | f+1,l,h => ancs_listed hc f _ fun k hk => by
  rcases List.mem_append.1 (List.mem_eraseDups.1 hk) with hk | hk
  ·exact h k hk
  ·obtain ⟨j,hj,hk⟩:=List.mem_flatMap.1 hk
   exact hc j (h j hj) k hk
theorem direct_listed {listed:Array Bool} {j:Nat} (hj:j ∈ Region.ready md ops listed):∀ k ∈ directL md ops j,listed.getD k false=true:=fun k hk => by
 obtain ⟨_,oj,hoj,hall⟩:=mem_ready.1 hj
 unfold directL at hk
 rw [hoj] at hk
 obtain ⟨e,he,rfl⟩:=List.mem_map.1 hk
 obtain ⟨h1,h2⟩:=List.mem_filter.1 he
 exact hall e (Array.mem_toList_iff.1 h1) h2
theorem ClosedL.set {listed:Array Bool} {j:Nat} (hc:ClosedL md ops listed) (hj:j ∈ Region.ready md ops listed):ClosedL md ops (listed.setIfInBounds j true):=fun i hi k hk => by
 by_cases hij:j=i
 ·subst hij
  exact getD_set_true (direct_listed hj k hk)
 ·rw [getD_set_ne false hij] at hi
  exact getD_set_true (hc i hi k hk)
def wpAnyF (P:Program) (md:Region.Mode) (ops:Array Oper) (Q:Exit→Act→World→Prop) (F:Nat→World→Prop):Nat→Array Bool→List Nat→Act→World→Prop
 | 0,listed,_,a,w => Region.ready md ops listed=[]∧Q .normal a w
 | fuel+1,listed,V,a,w =>
  (Region.ready md ops listed=[]→Q .normal a w)∧
  ∀ i ∈ Region.ready md ops listed,wpOp P ops Q i (fun a' w' => allF F (liveF md ops i V) w'∧wpAnyF P md ops Q F fuel (listed.setIfInBounds i true) (liveF md ops i V) a' w') a w
theorem wpAny_of_facts:∀ (fuel:Nat) (listed:Array Bool) (V:List Nat) (a:Act) (w:World),wpAnyF P md ops Q F fuel listed V a w→wpAny P md ops Q fuel listed a w
 | 0,_,_,_,_,h => h
 | fuel+1,_,_,_,_,h => ⟨h.1,fun i hi => wpOp_mono (fun a' w' h' => wpAny_of_facts fuel _ _ a' w' h'.2) (h.2 i hi)⟩
theorem liveF_sub {i:Nat} {V V':List Nat} (h:∀ k ∈ V',k ∈ V):∀ k ∈ liveF md ops i V',k ∈ liveF md ops i V:=fun k hk => by
 obtain ⟨h1,h2⟩:=List.mem_filter.1 hk
 exact List.mem_filter.2 ⟨h k h1,h2⟩
theorem wpAnyF_sub:∀ (fuel:Nat) (listed:Array Bool) (V V':List Nat) (a:Act) (w:World),(∀ k ∈ V',k ∈ V)→wpAnyF P md ops Q F fuel listed V a w→wpAnyF P md ops Q F fuel listed V' a w
 | 0,_,_,_,_,_,_,h => h
 | fuel+1,_,_,_,_,_,hs,h => ⟨h.1,fun i hi => wpOp_mono (fun a' w' h' => ⟨allF_mem.2 fun k hk => allF_mem.1 h'.1 k (liveF_sub hs k hk),wpAnyF_sub fuel _ _ _ a' w' (liveF_sub hs) h'.2⟩) (h.2 i hi)⟩
theorem wpAnyF_first {i:Nat} {oi:Oper} {v:Value} {G:World→Prop} (hi:ops[i]? =some oi) (hsel:∀ (j:Nat) (o:Oper) cs b,ops[j]? =some o→o.op≠.select cs b)
 (hQ:∀ c a w,Q (.panic c) (a.put oi.dst v) w→Q (.panic c) a w) :
 ∀ (fuel:Nat) (listed:Array Bool) (V:List Nat) (a:Act) (w:World),
  (∀ j oj,ops[j]? =some oj→j≠i→listed.getD j true=false→(∀ e ∈ oj.after,Region.binds md e=true→e.on≠i)→oi.apart ops oj=true)→ClosedL md ops listed→
  i ∈ Region.ready md ops listed→YieldsIf P ops G oi v a→((∀ w,G w)∨(i ∈ V∧G=F i))→allF F V w→
  wpAnyF P md ops Q F fuel (listed.setIfInBounds i true) V (a.put oi.dst v) w→wpAnyF P md ops Q F (fuel+1) listed V a w:=by
 have self:∀ {fuel:Nat} {listed:Array Bool} {V:List Nat} {a:Act} {w:World},YieldsIf P ops G oi v a→((∀ w,G w)∨(i ∈ V∧G=F i))→allF F V w→wpAnyF P md ops Q F fuel (listed.setIfInBounds i true) V (a.put oi.dst v) w→
  wpOp P ops Q i (fun a' w' => allF F (liveF md ops i V) w'∧wpAnyF P md ops Q F fuel (listed.setIfInBounds i true) (liveF md ops i V) a' w') a w:=by
  intro fuel listed V a w hy hG hV H
  have hg:G w:=by
   rcases hG with h | ⟨h1,rfl⟩
   ·exact h w
   ·exact allF_mem.1 hV i h1
  exact hy.wpOp hi hg ⟨allF_mem.2 fun k hk => allF_mem.1 hV k (List.mem_filter.1 hk).1,wpAnyF_sub _ _ _ _ _ _ (fun k hk => (List.mem_filter.1 hk).1) H⟩
 intro fuel
 induction fuel with
 | zero =>
  intro listed V a w _ hcl hr hy hG hV H
  refine ⟨fun h => (by rw [h] at hr;cases hr),fun j hj => ?_⟩
  by_cases hji:j=i
  ·subst hji;exact self hy hG hV H
  ·have:=ready_mono hj hji
   rw [H.1] at this
   cases this
 | succ fuel ih =>
  intro listed V a w hfree hcl hr hy hG hV H
  refine ⟨fun h => (by rw [h] at hr;cases hr),fun j hj => ?_⟩
  by_cases hji:j=i
  ·subst hji;exact self hy hG hV H
  ·have h1:=H.2 j (ready_mono hj hji)
   obtain ⟨hjun,oj,hoj,hall⟩:=mem_ready.1 hj
   have hnot:∀ e ∈ oj.after,Region.binds md e=true→e.on≠i:=fun e he hb heq => by
    have h1:=hall e he hb
    have h0:=(mem_ready.1 hr).1
    rw [heq] at h1
    rcases Nat.lt_or_ge i listed.size with h' | h'
    ·simp [h'] at h0 h1;rw [h0] at h1;cases h1
    ·simp [Array.getElem?_eq_none h'] at h1
   have h2:=wpOp_putIf hoj (hfree j oj hoj hji hjun hnot) (fun cs b => hsel i oi cs b hi) (fun cs b => hsel j oj cs b hoj) hQ hy h1
   have hfree':∀ k ok,ops[k]? =some ok→k≠i→(listed.setIfInBounds j true).getD k true=false→
    (∀ e ∈ ok.after,Region.binds md e=true→e.on≠i)→oi.apart ops ok=true:=fun k ok hk hki hun hno => by
    refine hfree k ok hk hki ?_ hno
    by_cases hjk:j=k
    ·subst hjk;exact hjun
    ·rw [getD_set_ne true hjk] at hun;exact hun
   have hG':(∀ w,G w)∨(i ∈ liveF md ops j V∧G=F i):=by
    rcases hG with h | ⟨h1,h2⟩
    ·exact .inl h
    ·refine .inr ⟨List.mem_filter.2 ⟨h1,?_⟩,h2⟩
     cases hw:(waitsA md ops j).contains i with
     | false => rfl
     | true =>
      have h4:=ancs_listed hcl 5 _ (direct_listed hj) i (by simpa [waitsA] using hw)
      have h0:=(mem_ready.1 hr).1
      rcases Nat.lt_or_ge i listed.size with h' | h'
      ·simp [h'] at h0 h4;rw [h0] at h4;cases h4
      ·simp [Array.getElem?_eq_none h'] at h4
   refine wpOp_mono (fun a' w' h3 => ⟨h3.2.1,ih (listed.setIfInBounds j true) _ a' w' hfree' (hcl.set hj) (ready_mono hr (Ne.symm hji)) h3.1 hG' h3.2.1 ?_⟩) h2
   rw [Array.setIfInBounds_comm _ _ hji]
   exact h3.2.2
def opD:List Oper→Nat→Oper
 | [],_ => {dst:=none,op:=.move (.tmp 0),type:=0,pos:= "",after:=#[],guard:=none}
 | o ::_,0 => o
 | _ ::l,i+1 => opD l i
theorem opD_at:∀ {l:List Oper} {i:Nat},i < l.length→l[i]? =some (opD l i)
 | _ ::_,0,_ => rfl
 | _ ::l,i+1,h => opD_at (l:=l) (by simpa using h)
theorem opD_ops {i:Nat} (h:i < ops.size):ops[i]? =some (opD ops.toList i):=by rw [← Array.getElem?_toList];exact opD_at (by simpa using h)
def takeB (md:Region.Mode) (ops:Array Oper) (listed:Array Bool) (i:Nat):Bool:=Region.noSelect ops && Region.free md ops listed i && (Region.ready md ops listed).contains i && decide (i < ops.size) && closedB md ops listed
theorem takeB_spec {listed:Array Bool} {i:Nat} (h:takeB md ops listed i=true):Region.noSelect ops=true∧Region.free md ops listed i=true∧i ∈ Region.ready md ops listed∧i < ops.size∧ClosedL md ops listed:=by
 unfold takeB at h
 simp only [Bool.and_eq_true,decide_eq_true_eq] at h
 exact ⟨h.1.1.1.1,h.1.1.1.2,by simpa using h.1.1.2,h.1.2,closedB_spec h.2⟩
theorem takeP {fuel:Nat} {listed:Array Bool} {V:List Nat} {a:Act} {w:World} (i:Nat) {v:Value} (hs:takeB md ops listed i=true)
 (hy:∀ w,(execOp a.eval (opD ops.toList i)).run P w=.ok (.value v) w) (hg:Region.wanted (opD ops.toList i) (yielded ops a.tmps)=true) (hQ:∀ c a w,Q (.panic c) (a.put (opD ops.toList i).dst v) w→Q (.panic c) a w) (hV:allF F V w)
 (h:wpAnyF P md ops Q F fuel (listed.setIfInBounds i true) V (a.put (opD ops.toList i).dst v) w):wpAnyF P md ops Q F (fuel+1) listed V a w:=by
 obtain ⟨h1,h2,h3,h4,h5⟩:=takeB_spec hs
 exact wpAnyF_first (G:=fun _ => True) (opD_ops h4) (Region.noSelect_spec h1) hQ fuel listed V a w (Region.free_spec (opD_ops h4) h2) h5 h3 (.inl ⟨hg,fun w _ => hy w⟩) (.inl fun _ => trivial) hV h
theorem takeL {fuel:Nat} {listed:Array Bool} {V:List Nat} {a:Act} {w:World} (i:Nat) {v:Value} (hs:(takeB md ops listed i && V.contains i)=true)
 (hy:∀ w,F i w→(execOp a.eval (opD ops.toList i)).run P w=.ok (.value v) w) (hg:Region.wanted (opD ops.toList i) (yielded ops a.tmps)=true) (hQ:∀ c a w,Q (.panic c) (a.put (opD ops.toList i).dst v) w→Q (.panic c) a w) (hV:allF F V w)
 (h:wpAnyF P md ops Q F fuel (listed.setIfInBounds i true) V (a.put (opD ops.toList i).dst v) w):wpAnyF P md ops Q F (fuel+1) listed V a w:=by
 simp only [Bool.and_eq_true] at hs
 obtain ⟨h1,h2,h3,h4,h5⟩:=takeB_spec hs.1
 exact wpAnyF_first (G:=F i) (opD_ops h4) (Region.noSelect_spec h1) hQ fuel listed V a w (Region.free_spec (opD_ops h4) h2) h5 h3 (.inl ⟨hg,hy⟩) (.inr ⟨by simpa using hs.2,rfl⟩) hV h
theorem takeN {fuel:Nat} {listed:Array Bool} {V:List Nat} {a:Act} {w:World} (i:Nat) (hs:takeB md ops listed i=true)
 (hg:Region.wanted (opD ops.toList i) (yielded ops a.tmps)=false) (hQ:∀ c a w,Q (.panic c) (a.put (opD ops.toList i).dst undef) w→Q (.panic c) a w) (hV:allF F V w)
 (h:wpAnyF P md ops Q F fuel (listed.setIfInBounds i true) V (a.put (opD ops.toList i).dst undef) w):wpAnyF P md ops Q F (fuel+1) listed V a w:=by
 obtain ⟨h1,h2,h3,h4,h5⟩:=takeB_spec hs
 exact wpAnyF_first (G:=fun _ => True) (opD_ops h4) (Region.noSelect_spec h1) hQ fuel listed V a w (Region.free_spec (opD_ops h4) h2) h5 h3 (.inr ⟨hg,rfl⟩) (.inl fun _ => trivial) hV h
def readyF (P:Program) (md:Region.Mode) (ops:Array Oper) (Q:Exit→Act→World→Prop) (F:Nat→World→Prop) (fuel:Nat) (listed:Array Bool) (V:List Nat) (a:Act) (w:World) (rs:List Nat):Prop:=
 ∀ i ∈ rs,wpOp P ops Q i (fun a' w' => allF F (liveF md ops i V) w'∧wpAnyF P md ops Q F fuel (listed.setIfInBounds i true) (liveF md ops i V) a' w') a w
theorem readyF.nil {fuel:Nat} {listed:Array Bool} {V:List Nat} {a:Act} {w:World}:readyF P md ops Q F fuel listed V a w []:=fun _ h => by cases h
theorem readyF.cons {fuel:Nat} {listed:Array Bool} {V:List Nat} {a:Act} {w:World} {i:Nat} {rs:List Nat} (V':List Nat) (hV:(liveF md ops i V == V' && decide (i < ops.size))=true)
 (h:∀ (o:Oper) (_:opD ops.toList i=o) (K':Act→World→Prop),Shut (∀ a w,allF F V' w→(allF F V' w→wpAnyF P md ops Q F fuel (listed.setIfInBounds i true) V' a w)→K' a w)→if Region.wanted o (yielded ops a.tmps)=true then Oper.wp P o a w K' Q else K' (a.put o.dst undef) w)
 (hs:readyF P md ops Q F fuel listed V a w rs):readyF P md ops Q F fuel listed V a w (i ::rs):=fun j hj => by
 simp only [Bool.and_eq_true,decide_eq_true_eq,beq_iff_eq] at hV
 rcases List.mem_cons.1 hj with rfl | hj
 ·rw [hV.1]
  exact wpOp_step (opD_ops hV.2) (fun K' hK => h _ rfl K' (fun a w hS hW => hK a w ⟨hS,hW hS⟩))
 ·exact hs j hj
theorem readyAll {rs:List Nat} {fuel:Nat} {listed:Array Bool} {V:List Nat} {a:Act} {w:World} (hr:Region.ready md ops listed=rs) (hne:rs≠[])
 (h:readyF P md ops Q F fuel listed V a w rs):wpAnyF P md ops Q F (fuel+1) listed V a w:=⟨fun h0 => absurd (hr ▸ h0) hne,hr ▸ h⟩
theorem readyDone {listed:Array Bool} {V:List Nat} {a:Act} {w:World} (hr:Region.ready md ops listed=[]) (h:Q .normal a w):∀ {fuel},wpAnyF P md ops Q F fuel listed V a w
 | 0 => ⟨hr,h⟩
 | _+1 => ⟨fun _ => h,by rw [hr];simp⟩
theorem shutGo {V':List Nat} {fuel:Nat} {listed:Array Bool} {K':Act→World→Prop} (hK:Shut (∀ a w,allF F V' w→(allF F V' w→wpAnyF P md ops Q F fuel listed V' a w)→K' a w)) {a:Act} {w:World} (X:World→Prop) (hX:X w) (hS:∀ w,X w→allF F V' w)
 (h:∀ w,X w→allF F V' w→wpAnyF P md ops Q F fuel listed V' a w):K' a w:=hK.out a w (hS w hX) (h w hX)
theorem regionF (F:Nat→World→Prop) (V:List Nat) {id:Nat} {a:Act} {w:World} (hm:P.follows .mixedOrders=true) (hV:allF F V w.drew)
 (h:allF F V w.drew→wpAnyF P .any ops Q F ops.size (Array.replicate ops.size false) V a w.drew):(Code.region id ops true).wp P Q a w:=
 wp_region_any hm (wpAny_of_facts _ _ _ _ _ (h hV))
section
variable {S:World→Prop}
theorem tkH {fuel:Nat} {listed:Array Bool} {a:Act} {w:World} (i:Nat) {v:Value} (h:wpAnyH P md ops Q S fuel (listed.setIfInBounds i true) (a.put (opD ops.toList i).dst v) w) (hs:takeB md ops listed i=true:=by kernel_rfl)
 (hy:∀ w,S w→(execOp a.eval (opD ops.toList i)).run P w=.ok (.value v) w:=by intro w hSw;(try dsimp only at hSw);(try obtain ⟨g0,g1,g2,g3,g4,g5,g6⟩:=hSw);simp only [opD];go_simp;try with_reducible rfl) (hg:Region.wanted (opD ops.toList i) (yielded ops a.tmps)=true:=by rfl)
 (hQ:∀ c a w,Q (.panic c) (a.put (opD ops.toList i).dst v) w→Q (.panic c) a w:=by exact fun _ _ _ h => h) (hS:S w:=by assumption):wpAnyH P md ops Q S (fuel+1) listed a w:=by
 obtain ⟨h1,h2,h3,h4,_⟩:=takeB_spec hs
 exact wpAnyH_first (opD_ops h4) (Region.noSelect_spec h1) hQ fuel listed a w (Region.free_spec (opD_ops h4) h2) h3 (.inl ⟨hg,hy⟩) hS h
theorem tkN {fuel:Nat} {listed:Array Bool} {a:Act} {w:World} (i:Nat) (h:wpAnyH P md ops Q S fuel (listed.setIfInBounds i true) (a.put (opD ops.toList i).dst undef) w) (hs:takeB md ops listed i=true:=by kernel_rfl)
 (hg:Region.wanted (opD ops.toList i) (yielded ops a.tmps)=false:=by rfl) (hQ:∀ c a w,Q (.panic c) (a.put (opD ops.toList i).dst undef) w→Q (.panic c) a w:=by exact fun _ _ _ h => h) (hS:S w:=by assumption):wpAnyH P md ops Q S (fuel+1) listed a w:=by
 obtain ⟨h1,h2,h3,h4,_⟩:=takeB_spec hs
 exact wpAnyH_first (opD_ops h4) (Region.noSelect_spec h1) hQ fuel listed a w (Region.free_spec (opD_ops h4) h2) h3 (.inr ⟨hg,rfl⟩) hS h
theorem rdH {fuel:Nat} {listed:Array Bool} {a:Act} {w:World} {i:Nat} {o:Oper} {rs:List Nat}
 (h:∀ K':Act→World→Prop,Shut (∀ a w,S w→(S w→wpAnyH P md ops Q S fuel (listed.setIfInBounds i true) a w)→K' a w)→if Region.wanted o (yielded ops a.tmps)=true then Oper.wp P o a w K' Q else K' (a.put o.dst undef) w)
 (hs:AllReadyH P md ops Q S fuel listed a w rs) (hi:decide (i < ops.size)=true:=by kernel_rfl) (hO:opD ops.toList i=o:=by (simp only [opD];try rfl)):AllReadyH P md ops Q S fuel listed a w (i ::rs):=by
 subst hO
 exact AllReadyH.cons (opD_ops (of_decide_eq_true hi)) h hs
theorem sA {α:Type} (l:List α) (i:Nat) (a:α):l.toArray.setIfInBounds i a=(l.set i a).toArray:=by simp
theorem sB {α:Type} (x:α) (l:List α) (a:α):(x ::l).set 0 a=a ::l:=rfl
theorem sC {α:Type} (x:α) (l:List α) (i:Nat) (a:α):(x ::l).set (i+1) a=x ::l.set i a:=rfl
end
end
end Go.Proofs.YtdgpmpccfjmmcaaGreatDoor
