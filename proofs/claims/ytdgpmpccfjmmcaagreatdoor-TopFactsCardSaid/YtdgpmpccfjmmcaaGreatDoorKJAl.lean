/- What the run of TopFacts comes to,plainly. The queries' texts,plainly:lists of integers;a name with arguments. The queries of TopOrders are read as their terms,plainly. A name with two arguments,plainly:TopFacts' query and its facts are read as their terms. A sentence's end,plainly:a point with a blank or a line feed behind it. Sentences one behind the other,a blank between,are read as all of them,plainly. A program's text,sentences with a blank behind each point,is read as all its sentences,plainly. Texts of facts,plainly:their tokens. -/
import Derived.Test.YtdgpmpccfjmmcaaGreatDoorKJAk
import Derived.KernelRfl
import Derived.Test.YtdgpmpccfjmmcaaGreatDoorKJAf
set_option linter.unusedVariables false
set_option linter.unusedSimpArgs false
namespace Go.Proofs.YtdgpmpccfjmmcaaGreatDoor
def startM (q:P) (k:Nat):Ms:={fr:=[.goal 0 (.c [99,97,108,108] [q])],ch:=[],n:=k,L:=[],M:=[],steps:=0}
def runFuel:Nat:=1000000
def limTop (answers:Nat):Lim0:=⟨4000,900,200,answers⟩
def ansB:List UInt8:=[97,110,115,119,101,114]
def ansI (room:Nat) (S:Ms):Option Int:=match walkP S.L (.v 0) with
 | .i k => (match szP S.L (room+1) deepF 0 (.c ansB [.v 0]) with
  | some z => if z≤room+1∧0 < S.n then some k else none
  | none => none)
 | _ => none
theorem ansI_open {room:Nat} {S:Ms} {k:Int} (h:ansI room S=some k):walkP S.L (.v 0)=.i k∧0 < S.n∧∃ z,szP S.L (room+1) deepF 0 (.c ansB [.v 0])=some z∧z≤room+1:=by
 unfold ansI at h
 split at h
 ·rename_i k' hk
  split at h
  ·rename_i z hz
   split at h
   ·rename_i hc
    injection h with h
    subst h
    exact ⟨hk,hc.2,z,hz,hc.1⟩
   ·cases h
  ·cases h
 ·cases h
theorem res_int {L:Bp} {p:P} {k:Int} (h:walkP L p=.i k) (f:Nat):resP L (f+1) p=some (.i k):=by
 unfold resP
 rw [h]
theorem res_one {L:Bp} {p:P} {k:Int} (h:walkP L p=.i k) (f:Nat) (s:List UInt8):resP L (f+2) (.c s [p])=some (.c s [.i k]):=by
 unfold resP
 rw [walk_c]
 simp [res_int h]
def factC (x:Int) (k:Nat):Cl0:=⟨.c [112] [.i x,.i (k:Int)],0,[]⟩
def nobody:P:=.a [110,111,98,111,100,121]
def factsFrom:Nat→List Int→List Cl0
 | _,[] => []
 | k,x ::l => factC x k ::factsFrom (k+1) l
def factsP (l:List Int):List Cl0:=⟨.c [113] [nobody,.i 0],0,[]⟩ ::(if l=[] then [⟨.c [112] [nobody,nobody],0,[]⟩] else factsFrom 0 l)
def factQ (a:Int):P:=.c [112] [.i a,.v 0]
def hitsF (a:Int):Nat→List Int→List Nat
 | _,[] => []
 | k,x ::l => if x=a then k ::hitsF a (k+1) l else hitsF a (k+1) l
theorem walk_nil (p:P):walkP [] p=p:=by cases p <;> rfl
theorem uni_fact (a:Int) (k:Nat):uniM [] (.c [112] [.i a,.v 0]) (.c [112] [.i a,.i k])=some (.ok [(0,.i k)] 1997):=by
 unfold uniM
 rw [show (2000:Nat)=1997+1+1+1 from rfl]
 have h1:occP [] 0 deepF (.i (k:Int))=some false:=rfl
 simp only [uniP,walk_nil,List.zip_cons_cons,List.zip_nil_right,List.cons_append,List.nil_append,and_self,List.length_cons,List.length_nil,if_true,h1]
theorem facts_len:∀ (k:Nat) (l:List Int),(factsFrom k l).length=l.length
 | _,[] => rfl
 | k,x ::l => by simp [factsFrom,facts_len (k+1) l]
theorem facts_at:∀ (k:Nat) (l:List Int) (i:Nat) (h:i < l.length),(factsFrom k l)[i]? =some (factC l[i] (k+i))
 | k,[],i,h => absurd h (by simp)
 | k,x ::l,0,_ => rfl
 | k,x ::l,i+1,h => by
  rw [factsFrom,List.getElem?_cons_succ,facts_at (k+1) l i (by simpa using h)]
  simp only [List.getElem_cons_succ]
  rw [show k+1+i=k+(i+1) by omega]
theorem hits_at (a:Int):∀ (k:Nat) (l:List Int),∀ j ∈ hitsF a k l,∃ i,∃ h:i < l.length,j=k+i∧l[i]=a
 | _,[],j,h => by cases h
 | k,x ::l,j,h => by
  unfold hitsF at h
  split at h
  ·rename_i e
   rcases List.mem_cons.1 h with rfl | h
   ·exact ⟨0,by simp,rfl,e⟩
   ·obtain ⟨i,hi,e1,e2⟩:=hits_at a (k+1) l j h
    exact ⟨i+1,by simpa using hi,by omega,by simpa using e2⟩
  ·obtain ⟨i,hi,e1,e2⟩:=hits_at a (k+1) l j h
   exact ⟨i+1,by simpa using hi,by omega,by simpa using e2⟩
theorem which_facts (a:Int):∀ (l:List Int) (k o:Nat),((List.range' o l.length).filter fun j => ((factsFrom k l)[j - o]?.map fun c => nameP c.head) == some (some ([112],2))).filter (fun j => (2:Nat) == 0 || !(((factsFrom k l)[j - o]?.map fun c => clashP (arg0 c.head) (arg0 (factQ a))).getD false))=(hitsF a k l).map (·+o - k)
 | [],k,o => rfl
 | x ::l,k,o => by
  have ih:=which_facts a l (k+1) (o+1)
  have e0:∀ j ∈ List.range' (o+1) l.length,(factsFrom k (x ::l))[j - o]? =(factsFrom (k+1) l)[j - (o+1)]?:=fun j hj => by
   have:=List.mem_range'_1.1 hj
   rw [show j - o=(j - (o+1))+1 by omega]
   rfl
  rw [List.length_cons,List.range'_succ,List.filter_cons_of_pos (by simp [factsFrom,factC,nameP])]
  have key:∀ (p:Option Cl0→Bool) (q:Option Cl0→Bool),((List.range' (o+1) l.length).filter fun j => p ((factsFrom k (x ::l))[j - o]?)).filter (fun j => q ((factsFrom k (x ::l))[j - o]?)) =
   ((List.range' (o+1) l.length).filter fun j => p ((factsFrom (k+1) l)[j - (o+1)]?)).filter (fun j => q ((factsFrom (k+1) l)[j - (o+1)]?)):=fun p q => by
   rw [List.filter_filter,List.filter_filter]
   exact List.filter_congr fun j hj => by rw [e0 j hj]
  have hm:(hitsF a (k+1) l).map (·+(o+1) - (k+1))=(hitsF a (k+1) l).map (·+o - k):=by
   apply List.map_congr_left
   intro j _
   omega
  rw [List.filter_cons]
  have hk:=key (fun c => (c.map fun c => nameP c.head) == some (some ([112],2))) (fun c => (2:Nat) == 0 || !((c.map fun c => clashP (arg0 c.head) (arg0 (factQ a))).getD false))
  rw [hk,ih,hm]
  by_cases e:x=a
  ·subst e
   rw [if_pos (by simp [factsFrom,factC,arg0,factQ,clashP])]
   simp [hitsF]
  ·rw [if_neg (by simp [factsFrom,factC,arg0,factQ,clashP,e])]
   simp [hitsF,e]
theorem ans_one (fr:List Fr0) (ch:List Ch0) (M:List (Nat × Nat)) (st:Nat) (z:Int):ansI 900 {fr:=fr,ch:=ch,n:=1,L:=[(0,.i z)],M:=M,steps:=st}=some z:=by kernel_rfl
theorem facts_more (l:List Int) (a:Int):∀ (rest:List Nat) (M:List (Nat × Nat)) (outs:List Int) (f:Nat),rest≠[]→(∀ j ∈ rest,1≤j∧(factsP l)[j]? =some (factC a (j - 1)))→M.length+rest.length < 100000→2*rest.length < f→outs.length+rest.length < 40→
 runM (goalF (factsP l)) (ansI 900) (factsP l) (limTop 40) f {fr:=[],ch:=[],n:=1,L:=[],M:=M,steps:=2} (.more (factQ a) rest 0) outs=some ⟨outs++rest.map fun j => ((j - 1:Nat):Int),.no,2⟩
 | [],_,_,_,h,_,_,_,_ => absurd rfl h
 | k ::rest,M,outs,0,_,_,_,h,_ => absurd h (by simp)
 | k ::rest,M,outs,1,_,_,_,h,_ => absurd h (by simp)
 | k ::rest,M,outs,f+2,_,hat,hM,hf,ho => by
  obtain ⟨hk1,hk⟩:=hat k List.mem_cons_self
  simp only [List.length_cons] at hM hf ho
  have hMl:decide (M.length≤100000)=true:=by simp;omega
  have hMl2:decide ((M++[(0,1)]).length≤100000)=true:=by simp;omega
  have hchl:decide ((if rest=[] then ([]:List Ch0) else []++[.more M.length [] (factQ a) rest 0]).length≤100000)=true:=by split <;> simp
  have ok1:okP 1 (factQ a)=true:=rfl
  have ok2:okP (1+0) (shiftP 1 (factC a (k - 1)).head)=true:=rfl
  have try1:tryM (factsP l) {fr:=[],ch:=[],n:=1,L:=[],M:=M,steps:=2} (factQ a) (k ::rest) 0 =
   some (.go {fr:=[],ch:=if rest=[] then [] else []++[.more M.length [] (factQ a) rest 0],n:=1,L:=[(0,.i ((k - 1:Nat):Int))],M:=M++[(0,1)],steps:=2}):=by
   unfold tryM tryF
   simp only [Ms.mark,List.length_nil,hk]
   have hc:¬ ((!(decide (1+0≤1000) && okP 1 (factQ a) && okP (1+0) (shiftP 1 (factC a (k - 1)).head)))=true):=by rw [ok1,ok2];decide
   refine (if_neg hc).trans ?_
   rw [show uniM [] (factQ a) (shiftP 1 (factC a (k - 1)).head)=some (.ok [(0,.i ((k - 1:Nat):Int))] 1997) from uni_fact a _]
   rfl
  rw [runM]
  simp only [hMl,List.length_nil,Nat.zero_le,decide_true,Bool.and_self,Bool.not_true,Bool.false_eq_true,if_false,try1]
  rw [runM]
  simp only [hMl2,hchl,List.length_nil,Nat.zero_le,decide_true,Bool.and_self,Bool.not_true,Bool.false_eq_true,if_false,List.isEmpty_nil,if_true,ans_one]
  rw [if_neg (by show ¬ outs.length+1=40;omega)]
  by_cases hr:rest=[]
  ·subst hr
   simp only [if_true,backM,List.getLast?_nil,List.map_cons,List.map_nil]
  ·rw [if_neg hr]
   have hbk:backM {fr:=[],ch:=[]++[.more M.length [] (factQ a) rest 0],n:=1,L:=[(0,.i ((k - 1:Nat):Int))],M:=M++[(0,1)],steps:=2}=some (some ({fr:=[],ch:=[],n:=1,L:=[],M:=M++[(0,1)],steps:=2},.more (factQ a) rest 0)):=by
    unfold backM
    simp [Ms.undo,List.take_of_length_le]
   rw [hbk]
   simp only
   rw [facts_more l a rest (M++[(0,1)]) (outs++[((k - 1:Nat):Int)]) f hr (fun j hj => hat j (List.mem_cons_of_mem _ hj)) (by simp;omega) (by omega) (by simp;omega)]
   simp
theorem step_call (pr:List Cl0) (a:Int):stepM (goalF pr) (limTop 40) (startM (factQ a) 1)=some (.go {fr:=[.goal 0 (factQ a)],ch:=[],n:=1,L:=[],M:=[],steps:=1}):=by kernel_rfl
theorem step_user (pr:List Cl0) (a:Int):stepM (goalF pr) (limTop 40) {fr:=[.goal 0 (factQ a)],ch:=[],n:=1,L:=[],M:=[],steps:=1}=user pr {fr:=[],ch:=[],n:=1,L:=[],M:=[],steps:=2} (factQ a) [112] 2:=by kernel_rfl
theorem named_facts (l:List Int):namedK (factsP l) [112] 2≠[]:=by
 unfold namedK factsP
 by_cases h:l=[]
 ·subst h;simp [List.range_succ_eq_map,nameP,nobody]
 ·rw [if_neg h]
  cases l with
  | nil => exact absurd rfl h
  | cons x l =>
   intro he
   have hm:1 ∈ (List.range ((⟨.c [113] [nobody,.i 0],0,[]⟩:Cl0) ::factsFrom 0 (x ::l)).length).filter fun k => (((⟨.c [113] [nobody,.i 0],0,[]⟩:Cl0) ::factsFrom 0 (x ::l))[k]?.map fun c => nameP c.head) == some (some ([112],2)):=by
    rw [List.mem_filter]
    exact ⟨List.mem_range.2 (by simp [factsFrom]),by simp [factsFrom,factC,nameP]⟩
   rw [he] at hm
   cases hm
theorem which_all (l:List Int) (a:Int):whichK (factsP l) [112] 2 (factQ a)=(hitsF a 0 l).map (·+1):=by
 unfold whichK namedK factsP
 by_cases h:l=[]
 ·subst h;simp [List.range_succ_eq_map,nameP,nobody,hitsF,clashP,arg0,factQ]
 ·rw [if_neg h]
  have hr:List.range ((⟨.c [113] [nobody,.i 0],0,[]⟩:Cl0) ::factsFrom 0 l).length=0 ::List.range' 1 l.length:=by
   rw [List.length_cons,facts_len,List.range_eq_range',List.range'_succ]
  rw [hr,List.filter_cons_of_neg (by simp [nameP])]
  have hw:=which_facts a l 0 1
  have e0:∀ j ∈ List.range' 1 l.length,((⟨.c [113] [nobody,.i 0],0,[]⟩:Cl0) ::factsFrom 0 l)[j]? =(factsFrom 0 l)[j - 1]?:=fun j hj => by
   have:=List.mem_range'_1.1 hj
   rw [show j=(j - 1)+1 by omega]
   rfl
  have key:∀ (p:Option Cl0→Bool) (q:Option Cl0→Bool),((List.range' 1 l.length).filter fun j => p (((⟨.c [113] [nobody,.i 0],0,[]⟩:Cl0) ::factsFrom 0 l)[j]?)).filter (fun j => q (((⟨.c [113] [nobody,.i 0],0,[]⟩:Cl0) ::factsFrom 0 l)[j]?)) =
   ((List.range' 1 l.length).filter fun j => p ((factsFrom 0 l)[j - 1]?)).filter (fun j => q ((factsFrom 0 l)[j - 1]?)):=fun p q => by
   rw [List.filter_filter,List.filter_filter]
   exact List.filter_congr fun j hj => by rw [e0 j hj]
  rw [key (fun c => (c.map fun c => nameP c.head) == some (some ([112],2))) (fun c => (2:Nat) == 0 || !((c.map fun c => clashP (arg0 c.head) (arg0 (factQ a))).getD false)),hw]
  simp
theorem hits_len (a:Int):∀ (k:Nat) (l:List Int),(hitsF a k l).length≤l.length
 | _,[] => Nat.le_refl _
 | k,x ::l => by
  have:=hits_len a (k+1) l
  unfold hitsF
  split <;> simp <;> omega
theorem run_facts (l:List Int) (a:Int) (hl:l.length≤30):runM (goalF (factsP l)) (ansI 900) (factsP l) (limTop 40) runFuel (startM (factQ a) 1) .step []=some ⟨(hitsF a 0 l).map fun j:Nat => (j:Int),.no,2⟩:=by
 have hh:=hits_len a 0 l
 obtain ⟨F,hF,hF2⟩:∃ F,runFuel=F+1+1+1∧100 < F:=⟨999997,rfl,by decide⟩
 rw [hF]
 rw [runM]
 simp only [show (startM (factQ a) 1).M=[] from rfl,show (startM (factQ a) 1).ch=[] from rfl,show (startM (factQ a) 1).fr=[.goal 0 (.c [99,97,108,108] [factQ a])] from rfl,List.length_nil,List.length_cons,Nat.zero_le,decide_true,Bool.and_self,Nat.zero_add,Nat.reduceLeDiff,Bool.not_true,Bool.false_eq_true,if_false,List.isEmpty_cons,step_call]
 rw [runM]
 simp only [List.length_nil,List.length_cons,Nat.zero_le,decide_true,Bool.and_self,Nat.zero_add,Nat.reduceLeDiff,Bool.not_true,Bool.false_eq_true,if_false,List.isEmpty_cons,step_user]
 unfold user
 rw [if_neg (named_facts l),which_all]
 have hat:∀ j ∈ (hitsF a 0 l).map (·+1),1≤j∧(factsP l)[j]? =some (factC a (j - 1)):=fun j hj => by
  obtain ⟨i,hi,rfl⟩:=List.mem_map.1 hj
  obtain ⟨q,hq,rfl,e2⟩:=hits_at a 0 l i hi
  refine ⟨by omega,?_⟩
  unfold factsP
  rw [if_neg (fun e => by rw [e] at hq;simp at hq),List.getElem?_cons_succ,facts_at 0 l _ (by omega)]
  simp [e2]
 have hmap:(hitsF a 0 l).map (fun j:Nat => (j:Int))=((hitsF a 0 l).map (·+1)).map fun j => ((j - 1:Nat):Int):=by simp
 rw [hmap]
 have hlen:((hitsF a 0 l).map (·+1)).length≤30:=by simp;omega
 generalize (hitsF a 0 l).map (·+1)=ks at*
 by_cases hk:ks=[]
 ·subst hk
  have ht:tryM (factsP l) {fr:=[],ch:=[],n:=1,L:=[],M:=[],steps:=2} (factQ a) [] 0=some (.fail {fr:=[],ch:=[],n:=1,L:=[],M:=[(0,1)],steps:=2}):=rfl
  have hb:backM {fr:=[],ch:=[],n:=1,L:=[],M:=[(0,1)],steps:=2}=some none:=rfl
  rw [List.length_nil,ht]
  simp only [hb,List.map_nil]
 ·have hm:=facts_more l a ks [] [] (F+1+1) hk hat (by simp;omega) (by omega) (by simp;omega)
  rw [runM] at hm
  simp only [List.length_nil,Nat.zero_le,decide_true,Bool.and_self,Bool.not_true,Bool.false_eq_true,if_false] at hm
  simpa using hm
end Go.Proofs.YtdgpmpccfjmmcaaGreatDoor
namespace Go.Proofs.YtdgpmpccfjmmcaaGreatDoor
end Go.Proofs.YtdgpmpccfjmmcaaGreatDoor
namespace Go.Proofs.YtdgpmpccfjmmcaaGreatDoor
end Go.Proofs.YtdgpmpccfjmmcaaGreatDoor
namespace Go.Proofs.YtdgpmpccfjmmcaaGreatDoor
end Go.Proofs.YtdgpmpccfjmmcaaGreatDoor
namespace Go.Proofs.YtdgpmpccfjmmcaaGreatDoor
theorem tok_stop {u:ByteArray} {p:Nat} {c:UInt8} {R:List UInt8} {l:List Tk} (h:u.data.toList.drop p=46 ::c ::R) (hc:c=32∨c=10) (hl:l.length≤1000) :
 LexTo u p l (p+1) (l++[⟨6,ba [46],p,p+1⟩]):=by
 have h1:u.data.toList.drop (p+1)=c ::R:=drop_more (A:=[46]) (B:=c ::R) h
 have b0:(bn u p:Int)=46:=bn_here h
 have b1:(bn u (p+1):Int)=c.toNat:=bn_here h1
 have hb1:blankB (bn u (p+1))=true:=by rw [b1];rcases hc with rfl | rfl <;> decide
 have c46:blankB 46=false∧((46:Int) == 37)=false∧((46:Int) == 47)=false∧((46:Int) == 39)=false:=by decide
 exact toks_word (u:=u) (p:=p) (W:=[46]) (R:=c ::R) (K:=6) (l:=l) h (by simp) (by rw [b0];exact c46.1) (by rw [b0];exact c46.2.1) (two_first (by rw [b0];exact c46.2.2.1)) (by rw [b0];exact c46.2.2.2) (by
  unfold headN
  rw [if_pos (by rw [b0,hb1];simp)]
  rfl) hl
end Go.Proofs.YtdgpmpccfjmmcaaGreatDoor
namespace Go.Proofs.YtdgpmpccfjmmcaaGreatDoor
end Go.Proofs.YtdgpmpccfjmmcaaGreatDoor
namespace Go.Proofs.YtdgpmpccfjmmcaaGreatDoor
theorem toks_last {u:ByteArray} {p:Nat} {c:UInt8} {l:List Tk} (h:u.data.toList.drop p=[c]) (hc:c=32∨c=10):toksN u p l=.ok l:=by
 have h2:u.size=p+1:=by
  have e:=congrArg List.length h
  rw [List.length_drop,len_u] at e
  have:=drop_lt h (by simp)
  simp at e
  omega
 have b0:(bn u p:Int)=c.toNat:=bn_here h
 rw [toksN_one (by omega),betN_eq (j:=p) (by omega),if_pos (by rw [b0];rcases hc with rfl | rfl <;> decide),betN_end (by omega)]
 simp [h2]
end Go.Proofs.YtdgpmpccfjmmcaaGreatDoor
namespace Go.Proofs.YtdgpmpccfjmmcaaGreatDoor
open Go.RowKit
structure Fc where
 s:List UInt8
 a:P
 b:P
def atX:P→List UInt8
 | .i n => Lib.itoa n
 | .a s => s
 | .v _ => [65]
 | .c _ _ => []
def Fc.tx (f:Fc):List UInt8:=f.s++40 ::(atX f.a++44 ::32 ::(atX f.b++[41]))
def atK:P→List Tk→Prop
 | .i n,l => (n < 0∧∃ x y,l=[x,y]∧x.k=1∧x.t=ba [45]∧y.k=3∧y.t=ba (Lib.decDigits n.natAbs)∧y.a=x.b)∨(0≤n∧∃ x,l=[x]∧x.k=3∧x.t=ba (Lib.itoa n))
 | .a s,l => ∃ x,l=[x]∧x.k=1∧x.t=ba s
 | .v _,l => ∃ x,l=[x]∧x.k=2∧x.t=ba [65]
 | .c _ _,_ => False
def smallW (s:List UInt8):Prop:=∃ c r,s=c ::r∧smallB c.toNat=true∧∀ d ∈ s,kindB 1 d.toNat=true
def P.at_:P→Prop
 | .i n => I64 n
 | .a s => smallW s∧opPre (ba s)=none
 | .v n => n=0
 | .c _ _ => False
def Fc.ok (f:Fc):Prop:=smallW f.s∧f.a.at_∧f.b.at_
theorem tok_small {u:ByteArray} {p:Nat} {W R:List UInt8} {l:List Tk} (h:u.data.toList.drop p=W++R) (hW:smallW W) (hR:stopR R) (hl:l.length≤1000) :
 ∃ x:Tk,x.k=1∧x.t=ba W∧x.a=p∧x.b=p+W.length∧LexTo u p l (p+W.length) (l++[x]):=by
 obtain ⟨c,r,e,hc,hk⟩:=hW
 have hb:(bn u p:Int)=(c.toNat:Int):=bn_here (L:=r++R) (by rw [h,e];rfl)
 obtain ⟨f1,f2,f3,f4,f5⟩:blankB c.toNat=false∧((c.toNat:Int) == 37)=false∧((c.toNat:Int) == 39)=false∧((c.toNat:Int) == 46)=false∧((c.toNat:Int) == 47)=false:=by
  simp only [smallB,Bool.and_eq_true,decide_eq_true_eq] at hc
  refine ⟨?_,?_,?_,?_,?_⟩
  ·simp only [blankB,Bool.or_eq_false_iff,beq_eq_false_iff_ne];omega
  all_goals (rw [beq_eq_false_iff_ne];omega)
 rw [← hb] at f1 f2 f3 f4 f5 hc
 refine ⟨⟨1,ba W,p,p+W.length⟩,rfl,rfl,rfl,rfl,toks_word h (by rw [e];simp) f1 f2 (two_first f5) f3 ?_ hl⟩
 unfold headN
 rw [f4,hc,run_word W p R h hk (hR.k (.inl rfl))]
 simp
theorem lex_at {a:P} (ha:a.at_) {u:ByteArray} {p:Nat} {R:List UInt8} {l:List Tk} (h:u.data.toList.drop p=atX a++R) (hR:stopR R) (hl:l.length < 900):LexS u p l (p+(atX a).length) (atK a) 2:=by
 cases a with
 | i n =>
  change u.data.toList.drop p=Lib.itoa n++R at h
  show LexS u p l (p+(Lib.itoa n).length) (atK (.i n)) 2
  by_cases h0:n < 0
  ·have e:Lib.itoa n=45 ::Lib.decDigits n.natAbs:=by rw [Lib.itoa,if_pos h0]
   rw [e] at h ⊢
   have hd1:=drop_more (A:=[45]) (B:=Lib.decDigits n.natAbs++R) h
   obtain ⟨x,h1,h2,_,hb,hL⟩:=tok_minus h (digits_stop3 _ R) (l:=l) (by omega)
   refine (LexS.bind (P:=fun tks => tks=[x]) (n:=1) (m:=1) (.one hL (by omega) rfl) fun a' ha hla => ?_).at (p1:=p+1+(Lib.decDigits n.natAbs).length) (by simp only [List.length_cons];omega)
   subst ha
   obtain ⟨y,h3,h4,h5,_,hL2⟩:=tok_int hd1 (dec_ne _) (dec_digits _) hR (l:=l++[x]) (by simp;omega)
   exact .one hL2 (by simp;omega) (.inl ⟨h0,x,y,rfl,h1,h2,h3,h4,by rw [h5,hb];rfl⟩)
  ·have e:Lib.itoa n=Lib.decDigits n.toNat:=by rw [Lib.itoa,if_neg h0]
   rw [e] at h ⊢
   obtain ⟨x,h1,h2,_,_,hL⟩:=tok_int h (dec_ne _) (dec_digits _) hR (l:=l) (by omega)
   exact (LexS.one (P:=atK (.i n)) hL (by omega) (.inr ⟨by omega,x,rfl,h1,by rw [h2,e]⟩)).mono (fun _ h => h) (by omega)
 | a s =>
  obtain ⟨x,h1,h2,_,_,hL⟩:=tok_small (W:=s) h ha.1 hR (l:=l) (by omega)
  exact (LexS.one (P:=atK (.a s)) hL (by omega) ⟨x,rfl,h1,h2⟩).mono (fun _ h => h) (by omega)
 | v n =>
  obtain ⟨x,h1,h2,_,_,hL⟩:=tok_var (W:=[65]) h ⟨65,[],rfl,by decide,by decide⟩ hR (l:=l) (by omega)
  exact (LexS.one (P:=atK (.v n)) hL (by omega) ⟨x,rfl,h1,h2⟩).mono (fun _ h => h) (by omega)
 | c _ _ => exact ha.elim
def FcK (f:Fc) (tks:List Tk):Prop:=∃ x0 x1 ta x2 tb x3,tks=[x0]++([x1]++(ta++([x2]++(tb++[x3]))))∧x0.k=1∧x0.t=ba f.s∧x1.k=4∧atK f.a ta∧Mk x2 44∧atK f.b tb∧Mk x3 41
theorem lex_fc {f:Fc} (hf:f.ok) {u:ByteArray} {p:Nat} {R:List UInt8} {l:List Tk} (h:u.data.toList.drop p=f.tx++R) (hl:l.length < 800):LexS u p l (p+f.tx.length) (FcK f) 8:=by
 have h0:u.data.toList.drop p=f.s++(40 ::(atX f.a++44 ::32 ::(atX f.b++41 ::R))):=by rw [h];simp [Fc.tx]
 have h1:=drop_more h0
 have h2:=drop_more (A:=[40]) h1
 have h3:=drop_more h2
 have h4:=drop_more (A:=[44]) h3
 have h5:=drop_more (A:=[32]) h4
 have h6:=drop_more h5
 obtain ⟨x0,q1,q2,_,q4,hL⟩:=tok_small h0 hf.1 (stopR_of _ (by decide)) (l:=l) (by omega)
 refine (LexS.bind (P:=fun tks => tks=[x0]) (n:=1) (m:=7) (.one hL (by omega) rfl) fun a ha hla => ?_).at (p1:=p+f.s.length+1+(atX f.a).length+1+1+(atX f.b).length+1) (by simp [Fc.tx];omega)
 subst ha
 obtain ⟨x1,q5,_,_,hL1⟩:=tok_open h1 q1 q4 (l:=l) (by simp;omega)
 refine LexS.bind (P:=fun tks => tks=[x1]) (n:=1) (m:=6) (.one hL1 (by simp;omega) rfl) fun a ha hla => ?_
 subst ha
 refine LexS.bind (n:=2) (m:=4) (lex_at hf.2.1 h2 (stopR_of _ (by decide)) (by simp;omega)) fun ta hta hla => ?_
 refine LexS.bind (n:=1) (m:=3) (LexS.mark h3 (by decide) (by decide) (by simp;omega)) fun a ha hlb => ?_
 obtain ⟨x2,rfl,hx2⟩:=ha
 refine LexS.blank h4 (by simp) ?_
 refine LexS.bind (n:=2) (m:=1) (lex_at hf.2.2 h5 (stopR_of _ (by decide)) (by simp;omega)) fun tb htb hlc => ?_
 refine (LexS.mark (R:=R) h6 (by decide) (by decide) (by simp;omega)).mono (fun a ha => ?_) (Nat.le_refl _)
 obtain ⟨x3,rfl,hx3⟩:=ha
 exact ⟨x0,x1,ta,x2,tb,x3,rfl,q1,q2,q5,hta,hx2,htb,hx3⟩
def progX:List Fc→List UInt8
 | [] => []
 | f ::r => f.tx++46 ::32 ::progX r
def ProgK:List Fc→List Tk→Prop
 | [],l => l=[]
 | f ::r,l => ∃ a e b,l=a++e ::b∧FcK f a∧e.k=6∧ProgK r b
theorem lex_prog {u:ByteArray}:∀ (r:List Fc) (p:Nat) (l:List Tk),(∀ f ∈ r,f.ok)→u.data.toList.drop p=progX r→r≠[]→l.length+9*r.length≤700→∃ tks,ProgK r tks∧toksN u p l=.ok (l++tks)∧tks.length≤9*r.length
 | [],_,_,_,_,h,_ => absurd rfl h
 | f ::r,p,l,hf,h,_,hl => by
  rw [List.length_cons] at hl
  obtain ⟨a,ha,e1,l1⟩:=lex_fc (hf f (List.mem_cons_self ..)) (R:=46 ::32 ::progX r) h (l:=l) (by omega)
  have h1:u.data.toList.drop (p+f.tx.length)=46 ::32 ::progX r:=drop_more h
  have hla:(l++a).length≤l.length+8:=by rw [List.length_append];omega
  have e2:=(tok_stop h1 (.inl rfl) (l:=l++a) (by omega)).sure (by omega)
  have h2:u.data.toList.drop (p+f.tx.length+1)=32 ::progX r:=drop_more (A:=[46]) h1
  obtain ⟨z,hz⟩:∃ z:Tk,(⟨6,ba [46],p+f.tx.length,p+f.tx.length+1⟩:Tk)=z:=⟨_,rfl⟩
  have hz6:z.k=6:=by rw [← hz]
  rw [hz] at e2
  cases r with
  | nil =>
   refine ⟨a++[z],⟨a,z,[],rfl,ha,hz6,rfl⟩,?_,by simp;omega⟩
   rw [e1,e2,toks_last h2 (.inl rfl),List.append_assoc]
  | cons g r =>
   have hne:progX (g ::r)≠[]:=by simp [progX]
   obtain ⟨b,hb,e3,l3⟩:=lex_prog (g ::r) (p+f.tx.length+1+1) (l++a++[z]) (fun x hx => hf x (List.mem_cons_of_mem _ hx)) (drop_more (A:=[32]) h2) (by simp) (by simp at hl ⊢;omega)
   refine ⟨a++z ::b,⟨a,z,b,rfl,ha,hz6,hb⟩,?_,by simp at l3 ⊢;omega⟩
   rw [e1,e2,skip_blank h2 hne,e3]
   simp
theorem lexn_prog {r:List Fc} (hf:∀ f ∈ r,f.ok) (hr:r≠[]) (hl:r.length≤70) (hs:(progX r).length≤4096):∃ tks,ProgK r tks∧lexN (ba (progX r))=.ok tks∧tks.length≤9*r.length:=by
 have hd:(ba (progX r)).data.toList=progX r:=ba_data _
 obtain ⟨t,h1,h2,h3⟩:=lex_prog (u:=ba (progX r)) r 0 [] hf (by rw [hd];rfl) hr (by simp;omega)
 refine ⟨t,h1,?_,h3⟩
 unfold lexN
 rw [if_neg (by rw [← len_u,hd];omega),h2]
 rfl
theorem lexn_query {f:Fc} (hf:f.ok) (hs:f.tx.length≤4000):(∃ tks,FcK f tks∧lexN (ba f.tx)=.ok tks)∧∃ tks z,FcK f tks∧z.k=6∧tks.length≤8∧lexN (ba (f.tx++[32,46]))=.ok (tks++[z]):=by
 constructor
 ·have hd:(ba f.tx).data.toList=f.tx:=ba_data _
  obtain ⟨t,h1,h2,h3⟩:=lex_fc (u:=ba f.tx) (p:=0) (R:=[]) (l:=[]) hf (by rw [hd];simp) (by simp)
  have hz:(ba f.tx).size=f.tx.length:=by rw [← len_u,hd]
  refine ⟨t,h1,?_⟩
  unfold lexN
  rw [if_neg (by omega),h2]
  exact toksN_end (by omega)
 ·obtain ⟨u,hu⟩:∃ u,ba (f.tx++[32,46])=u:=⟨_,rfl⟩
  have hd:u.data.toList=f.tx++[32,46]:=by rw [← hu];exact ba_data _
  obtain ⟨t,h1,h2,h3⟩:=lex_fc (u:=u) (p:=0) (R:=[32,46]) (l:=[]) hf (by rw [hd];simp) (by simp)
  have hz:u.size=f.tx.length+2:=by rw [← len_u,hd];simp
  rcases toks_end (u:=u) (p:=0+f.tx.length) (l:=[]++t) (by rw [hd];simp) (by simp;omega) with ⟨g3,_⟩ | ⟨g3,_⟩
  ·refine ⟨t,⟨6,ba [46],0+f.tx.length+1,0+f.tx.length+2⟩,h1,rfl,h3,?_⟩
   rw [hu]
   unfold lexN
   rw [if_neg (by omega),h2]
   exact g3
  ·simp at g3
   omega
end Go.Proofs.YtdgpmpccfjmmcaaGreatDoor
