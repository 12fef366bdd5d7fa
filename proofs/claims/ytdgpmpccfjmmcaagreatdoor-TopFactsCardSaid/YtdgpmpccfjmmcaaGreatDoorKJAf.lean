/- The machine,plainly:its steps,for programs without constraints. Unification on plain terms:bindings,what a term stands for,whether a variable is within it;no program in sight. Unification on plain terms:one pair;a stack of pairs. What a term stands for,wholly:resolved terms,as plain terms. The machine's plain terms are the terms of the walks:what a term stands for,occurs,making the same,resolving. Names of terms and control constructs:both packages. -/
import Derived.Test.YtdgpmpccfjmmcaaGreatDoorKJAe
import Derived.Test.YtdgpmpccfjmmcaaGreatDoorKJAc
import Derived.Test.YtdgpmpccfjmmcaaGreatDoorKJAd
import Derived.Deep.RegionHeld3
set_option linter.unusedVariables false
set_option linter.unusedSimpArgs false
namespace Go.Proofs.YtdgpmpccfjmmcaaGreatDoor
def ctlW (s:List UInt8) (n:Nat):Bool:=(n == 2 && (s == [44] || s == [59] || s == [45,62])) || (n == 1 && s == [92,43]) || (n == 0 && s == [33])
mutual
def wrgP:P→Bool
 | .i _ => true
 | .c s l => ctlW s l.length && wrgPs l
 | _ => false
def wrgPs:List P→Bool
 | [] => false
 | p ::l => wrgP p || wrgPs l
end
def gatP:Nat→P→Option (List P)
 | 0,_ => none
 | f+1,.c s l => match l with
  | [x,y] => if s=[44] then (match gatP f x,gatP f y with
   | some a,some b => some (a++b)
   | _,_ => none) else some [.c s l]
  | [] => none
  | _ => some [.c s l]
 | _+1,.a s => some (if s=[116,114,117,101] then [] else [.a s])
 | _+1,.v n => some [.c [99,97,108,108] [.v n]]
 | _+1,.i n => some [.i n]
inductive Fr0 where
 | goal (bar:Nat) (g:P)
 | cut (n:Nat)
inductive Ch0 where
 | alt (mark:Nat) (fr:List Fr0)
 | more (mark:Nat) (fr:List Fr0) (g:P) (rest:List Nat) (bar:Nat)
structure Ms where
 fr:List Fr0
 ch:List Ch0
 n:Nat
 L:Bp
 M:List (Nat × Nat)
 steps:Nat
structure Cl0 where
 head:P
 slots:Nat
 goals:List P
structure Lim0 where
 fuel:Nat
 room:Nat
 stack:Nat
 answers:Nat
inductive Oc where
 | go (S:Ms)
 | fail (S:Ms)
 | ball (S:Ms) (t:P)
 | out (S:Ms) (k:Nat)
def Ms.mark (S:Ms):Ms:={S with M:=S.M++[(S.L.length,S.n)]}
def Ms.undo (S:Ms) (k:Nat):Option Ms:=match S.M[k]? with
 | none => none
 | some m => some {S with L:=S.L.take m.1,n:=m.2,M:=S.M.take (k+1)}
def deepF:Nat:=100000
def uniM (L:Bp) (a b:P):Option RP:=uniP deepF 2000 L [(a,b)]
def goalsF (gs:List P) (bar:Nat):List Fr0:=gs.map fun g => .goal bar g
def tryF (pr:List Cl0) (mark:Nat) (g:P) (bar:Nat):Ms→List Nat→Option Oc
 | S,[] => some (.fail S)
 | S,k ::rest => match pr[k]? with
  | none => none
  | some c => if !(decide (S.n+c.slots≤1000) && okP S.n g && okP (S.n+c.slots) (shiftP S.n c.head)) then none else match uniM S.L g (shiftP S.n c.head) with
   | none => none
   | some .many => some (.out {S with n:=S.n+c.slots} 6)
   | some .unlike => match ({S with n:=S.n+c.slots}:Ms).undo mark with
    | none => none
    | some S' => tryF pr mark g bar S' rest
   | some (.ok L _) => some (.go {S with
    n:=S.n+c.slots,L:=L,fr:=goalsF (c.goals.map (shiftP S.n)) bar++S.fr,
    ch:=if rest=[] then S.ch else S.ch++[.more mark S.fr g rest bar]})
def tryM (pr:List Cl0) (S:Ms) (g:P) (l:List Nat) (bar:Nat):Option Oc:=tryF pr S.M.length g bar S.mark l
def nameP:P→Option (List UInt8 × Nat)
 | .a s => some (s,0)
 | .c s l => some (s,l.length)
 | _ => none
def clashP:P→P→Bool
 | .i n,.i m => n != m
 | .i _,.a _ => true
 | .i _,.c _ _ => true
 | .a s,.a t => s != t
 | .a _,.i _ => true
 | .a _,.c _ _ => true
 | .c s l,.c t m => s != t || l.length != m.length
 | .c _ _,.i _ => true
 | .c _ _,.a _ => true
 | _,_ => false
def arg0:P→P
 | .c _ (x ::_) => x
 | p => p
def namedK (pr:List Cl0) (s:List UInt8) (n:Nat):List Nat:=(List.range pr.length).filter fun k => (pr[k]?.map fun c => nameP c.head) == some (some (s,n))
def whichK (pr:List Cl0) (s:List UInt8) (n:Nat) (g:P):List Nat:=(namedK pr s n).filter fun k => n == 0 || !((pr[k]?.map fun c => clashP (arg0 c.head) (arg0 g)).getD false)
def errP (t:P):P:=.c [101,114,114,111,114] [t]
def Ms.doB (S:Ms) (t:P) (bar:Nat):Option Oc:=
 if wrgP t then some (.ball S (errP (.c [116,121,112,101] [.a [99,97,108,108,97,98,108,101],t])))
 else match gatP deepF t with
  | none => none
  | some gs => some (.go {S with fr:=goalsF gs bar++S.fr})
def user (pr:List Cl0) (S:Ms) (g:P) (s:List UInt8) (n:Nat):Option Oc:=
 if namedK pr s n=[] then some (.ball S (errP (.c [101,120,105,115,116,101,110,99,101] [.c [47] [.a s,.i n]])))
 else tryM pr S g (whichK pr s n g) S.ch.length
def Ms.guard (S:Ms) (other:List Fr0) (a:P) (next:List Fr0):Option Oc:=
 if wrgP a then none else match gatP deepF a with
  | none => none
  | some gs => some (.go {S.mark with
   ch:=S.ch++[.alt S.M.length (other++S.fr)],fr:=goalsF gs (S.ch.length+1)++.cut S.ch.length ::(next++S.fr)})
abbrev GoalM:=Ms→P→Nat→Option Oc
def goalF (pr:List Cl0) (S:Ms) (g:P) (_:Nat):Option Oc:=match nameP g with
 | none => none
 | some (s,n) => if !resT s n then user pr S g s n
  else if s=[99,97,108,108] then (match g with
   | .c _ [.v _] => none
   | .c _ [t] => if okP S.n t then S.doB t S.ch.length else none
   | _ => none)
  else none
def stepM (gl:GoalM) (lim:Lim0) (S:Ms):Option Oc:=match S.fr with
 | [] => none
 | f ::r =>
  if lim.fuel < S.steps+1 then some (.out {S with fr:=r,steps:=S.steps+1} 5)
  else match f with
   | .goal bar g => if !(okP S.n g) then none else (match szP S.L lim.room deepF 0 g with
    | none => none
    | some z => if lim.room < z then some (.out {S with fr:=r,steps:=S.steps+1} 6)
     else if lim.stack < r.length then some (.out {S with fr:=r,steps:=S.steps+1} 7)
     else match resP S.L deepF g with
      | none => none
      | some g' => gl {S with fr:=r,steps:=S.steps+1} g' bar)
   | .cut _ => none
inductive Nx where
 | step
 | more (g:P) (rest:List Nat) (bar:Nat)
 | caught (t:P)
inductive En where
 | no
 | kind (k:Nat)
 | uncaught (t:P)
structure Ro (α:Type) where
 outs:List α
 en:En
 steps:Nat
def backM (S:Ms):Option (Option (Ms × Nx)):=match S.ch.getLast? with
 | none => some none
 | some (.alt _ _) => none
 | some (.more m fr g rest bar) => match ({S with ch:=S.ch.dropLast}:Ms).undo m with
  | none => none
  | some S' => some (some ({S' with fr:=fr},.more g rest bar))
def runM {α:Type} (gl:GoalM) (ans:Ms→Option α) (pr:List Cl0) (lim:Lim0):Nat→Ms→Nx→List α→Option (Ro α)
 | 0,_,_,_ => none
 | f+1,S,nx,outs =>
  let back:=fun (S:Ms) (outs:List α) => match backM S with
   | none => none
   | some none => some ⟨outs,.no,S.steps⟩
   | some (some (S',nx')) => runM gl ans pr lim f S' nx' outs
  let after:=fun (o:Option Oc) => match o with
   | none => none
   | some (.go S') => runM gl ans pr lim f S' .step outs
   | some (.fail S') => back S' outs
   | some (.ball S' t) => runM gl ans pr lim f S' (.caught t) outs
   | some (.out S' k) => some ⟨outs,.kind k,S'.steps⟩
  if !(decide (S.M.length≤100000) && decide (S.ch.length≤100000) && decide (S.fr.length≤100000)) then none else match nx with
  | .step => if S.fr.isEmpty then (match ans S with
   | none => none
   | some t => if outs.length+1=lim.answers then some ⟨outs++[t],.kind 8,S.steps⟩ else back S (outs++[t]))
   else after (stepM gl lim S)
  | .more g rest bar => after (tryM pr S g rest bar)
  | .caught t => some ⟨outs,.uncaught t,S.steps⟩
end Go.Proofs.YtdgpmpccfjmmcaaGreatDoor
namespace Go.Proofs.YtdgpmpccfjmmcaaGreatDoor
open Go.RowKit
abbrev Bs:=List (Int × T)
def findB:Bs→Int→Option T
 | [],_ => none
 | (k,x) ::L,n => if k=n then some x else findB L n
def T.var?:T→Option Int
 | .nil => none
 | .mk k n _ _ _ => if k=1 then some n else none
def T.hasV (v:Int):T→Prop
 | .nil => False
 | .mk k n _ m a => (k=1∧n=v)∨(k=4∧∃ i,i < m∧(a i).hasV v)
def T.ok (t:T):Prop:=t.good∧t.nodes≤4000
theorem sumTo_ge0 (n:Nat) (f:Nat→Nat) (i:Nat) (hi:i < n):f i≤sumTo n f:=by
 induction n with
 | zero => omega
 | succ n ih =>
  simp only [sumTo]
  rcases Nat.lt_or_ge i n with h | h
  ·have:=ih h;omega
  ·obtain rfl:i=n:=by omega
   omega
theorem T.ok.arg {k n:Int} {s:ByteArray} {m:Nat} {a:Nat→T} (h:(T.mk k n s m a).ok) {i:Nat} (hi:i < m):(a i).ok:=
 ⟨h.1.2 i hi,by have:=sumTo_ge0 m (fun i => (a i).nodes) i hi;have h2:=h.2;simp only [T.nodes] at h2;omega⟩
theorem T.good.pos:∀ {t:T},t.good→0 < t.nodes
 | .nil,h => h.elim
 | .mk _ _ _ _ _,_ => by simp only [T.nodes];omega
theorem sumTo_ones0 (n:Nat) (f:Nat→Nat) (h:∀ i,i < n→0 < f i):n≤sumTo n f:=by
 induction n with
 | zero => omega
 | succ n ih =>
  have:=ih fun i hi => h i (by omega)
  have:=h n (by omega)
  simp only [sumTo]
  omega
theorem T.ok.few {k n:Int} {s:ByteArray} {m:Nat} {a:Nat→T} (h:(T.mk k n s m a).ok):m < 4000:=by
 have:=sumTo_ones0 m (fun i => (a i).nodes) fun i hi => (h.1.2 i hi).pos
 have h2:=h.2
 simp only [T.nodes] at h2
 omega
theorem T.ok.var {k n:Int} {s:ByteArray} {m:Nat} {a:Nat→T} (h:(T.mk k n s m a).ok) (hk:k=1):0≤n∧n < 1000∧s=⟨#[]⟩∧m=0:=by
 rcases h.1.1 with h | h | h | h
 ·exact ⟨h.2.1,h.2.2.1,h.2.2.2.1,h.2.2.2.2⟩
 all_goals omega
theorem T.ok.plain {k n:Int} {s:ByteArray} {m:Nat} {a:Nat→T} (h:(T.mk k n s m a).ok) (hk:k≠4):m=0:=by
 rcases h.1.1 with h | h | h | h
 ·exact h.2.2.2.2
 ·exact h.2.2.2
 ·exact h.2.2.2
 ·omega
structure EnvOk (L:Bs):Prop where
 nd:(L.map Prod.fst).Nodup
 ok:∀ p ∈ L,0≤p.1∧p.1 < 1000∧p.2.ok
 acyc:∃ r:Int→Nat,∀ p ∈ L,∀ v,p.2.hasV v→r v < r p.1
theorem EnvOk.nil:EnvOk []:=⟨List.Pairwise.nil,fun _ h => absurd h List.not_mem_nil,fun _ => 0,fun _ h => absurd h List.not_mem_nil⟩
theorem findB_mem {L:Bs} {n:Int} {x:T} (h:findB L n=some x):(n,x) ∈ L:=by
 induction L with
 | nil => cases h
 | cons p L ih =>
  obtain ⟨k,y⟩:=p
  unfold findB at h
  split at h
  ·rename_i e;injection h with h;subst e;subst h;exact List.mem_cons_self
  ·exact List.mem_cons_of_mem _ (ih h)
theorem findB_none {L:Bs} {n:Int} (h:findB L n=none):∀ p ∈ L,p.1≠n:=by
 induction L with
 | nil => intro p hp;cases hp
 | cons q L ih =>
  obtain ⟨k,y⟩:=q
  unfold findB at h
  split at h
  ·cases h
  ·rename_i e
   intro p hp
   rcases List.mem_cons.mp hp with rfl | hp
   ·exact e
   ·exact ih h p hp
theorem findB_of_mem {L:Bs} (hnd:(L.map Prod.fst).Nodup) {k:Int} {x:T} (h:(k,x) ∈ L):findB L k=some x:=by
 induction L with
 | nil => exact absurd h List.not_mem_nil
 | cons q L ih =>
  obtain ⟨k',y⟩:=q
  rw [List.map_cons,List.nodup_cons] at hnd
  unfold findB
  rcases List.mem_cons.mp h with e | h
  ·injection e with e1 e2;subst e1;subst e2;simp
  ·have hne:k'≠k:=fun e => hnd.1 (List.mem_map.mpr ⟨_,h,e.symm⟩)
   rw [if_neg hne]
   exact ih hnd.2 h
theorem findB_append (L:Bs) (n:Int) (t:T) (m:Int):findB (L++[(n,t)]) m=match findB L m with | some x => some x | none => if n=m then some t else none:=by
 induction L with
 | nil => simp [findB]
 | cons p L ih =>
  obtain ⟨k,y⟩:=p
  simp only [List.cons_append,findB]
  by_cases e:k=m
  ·simp [e]
  ·simp only [if_neg e];exact ih
theorem EnvOk.find {L:Bs} (h:EnvOk L) {n:Int} {x:T} (hf:findB L n=some x):0≤n∧n < 1000∧x.ok:=h.ok _ (findB_mem hf)
def stepW (L:Bs) (t:T):T:=match t.var? with
 | some n => (match findB L n with | some x => x | none => t)
 | none => t
def walkF (L:Bs):Nat→T→T
 | 0,t => t
 | j+1,t => stepW L (walkF L j t)
def doneW (L:Bs) (t:T):Prop:=∀ n,t.var? =some n→findB L n=none
theorem stepW_done {L:Bs} {t:T} (h:doneW L t):stepW L t=t:=by
 unfold stepW
 split
 ·rename_i n hn;rw [h n hn]
 ·rfl
theorem walkF_more {L:Bs} {t:T} {i:Nat} (h:doneW L (walkF L i t)):∀ j,i≤j→walkF L j t=walkF L i t:=by
 intro j hj
 induction j with
 | zero => obtain rfl:i=0:=by omega
           rfl
 | succ j ih =>
  rcases Nat.lt_or_ge j i with h1 | h1
  ·obtain rfl:i=j+1:=by omega
   rfl
  ·simp only [walkF];rw [ih h1];exact stepW_done h
theorem walkF_comm (L:Bs) (t:T):∀ j,walkF L (j+1) t=walkF L j (stepW L t):=by
 intro j
 induction j with
 | zero => rfl
 | succ j ih => simp only [walkF] at ih ⊢;rw [ih]
def cntR (L:Bs) (r:Int→Nat) (k:Nat):Nat:=(L.filter fun p => decide (r p.1 < k)).length
theorem cntR_le (L:Bs) (r:Int→Nat) (k:Nat):cntR L r k≤L.length:=List.length_filter_le _ _
theorem cntR_mono (L:Bs) (r:Int→Nat) {k k':Nat} (h:k≤k'):cntR L r k≤cntR L r k':=by
 unfold cntR
 induction L with
 | nil => simp
 | cons p L ih =>
  simp only [List.filter_cons]
  by_cases h1:r p.1 < k
  ·have h2:r p.1 < k':=by omega
   simp [h1,h2];exact ih
  ·by_cases h2:r p.1 < k'
   ·simp [h1,h2];omega
   ·simp [h1,h2];exact ih
theorem cntR_lt (L:Bs) (r:Int→Nat) {p:Int × T} (hp:p ∈ L):cntR L r (r p.1) < cntR L r (r p.1+1):=by
 unfold cntR
 induction L with
 | nil => cases hp
 | cons q L ih =>
  simp only [List.filter_cons]
  rcases List.mem_cons.mp hp with rfl | hp
  ·have:=cntR_mono L r (k:=r p.1) (k':=r p.1+1) (by omega)
   unfold cntR at this
   simp;omega
  ·have:=ih hp
   by_cases h1:r q.1 < r p.1
   ·have h2:r q.1 < r p.1+1:=by omega
    simp [h1,h2];omega
   ·by_cases h2:r q.1 < r p.1+1
    ·simp [h1,h2];omega
    ·simp [h1,h2];omega
theorem var_iff {k n n':Int} {s:ByteArray} {m:Nat} {a:Nat→T}:(T.mk k n s m a).var? =some n'↔k=1∧n=n':=by
 unfold T.var?
 by_cases h:k=1
 ·simp [h]
 ·simp [h]
theorem var_has {t:T} {n:Int} (h:t.var? =some n):t.hasV n:=by
 cases t with
 | nil => cases h
 | mk k n' s m a => exact .inl (var_iff.mp h)
theorem walkF_done {L:Bs} {r:Int→Nat} (hr:∀ p ∈ L,∀ v,p.2.hasV v→r v < r p.1):∀ (f:Nat) (t:T),(∀ n,t.var? =some n→cntR L r (r n+1)≤f)→doneW L (walkF L f t):=by
 intro f
 induction f with
 | zero =>
  intro t h n hn
  have h0:=h n hn
  cases hx:findB L n with
  | none => rfl
  | some x => have:=cntR_lt L r (findB_mem hx);simp only at this;omega
 | succ f ih =>
  intro t h
  by_cases hd:doneW L t
  ·rw [walkF_more (i:=0) (show doneW L (walkF L 0 t) from hd) (f+1) (by omega)]
   exact hd
  ·rw [walkF_comm]
   have hd':∃ n x,t.var? =some n∧findB L n=some x:=by
    apply Classical.byContradiction
    intro hno
    apply hd
    intro n hn
    cases hx:findB L n with
    | none => rfl
    | some x => exact absurd ⟨n,x,hn,hx⟩ hno
   obtain ⟨n',x,hn',hx⟩:=hd'
   have hs:stepW L t=x:=by unfold stepW;rw [hn'];simp only [hx]
   rw [hs]
   refine ih _ fun n hn => ?_
   have h0:=h n' hn'
   have h1:=hr _ (findB_mem hx) n (var_has hn)
   have h2:=cntR_lt L r (findB_mem hx)
   have h3:=cntR_mono L r (k:=r n+1) (k':=r n') h1
   simp only at h2
   omega
def walkN (L:Bs) (t:T):T:=walkF L L.length t
theorem EnvOk.walk_done {L:Bs} (h:EnvOk L) (t:T):doneW L (walkN L t):=by
 obtain ⟨r,hr⟩:=h.acyc
 exact walkF_done hr _ t fun n _ => cntR_le L r _
theorem walkN_eq {L:Bs} (h:EnvOk L) {t:T} {j:Nat} (hd:doneW L (walkF L j t)):walkN L t=walkF L j t:=by
 unfold walkN
 rcases Nat.lt_or_ge j L.length with h1 | h1
 ·exact walkF_more hd _ (by omega)
 ·exact (walkF_more (h.walk_done t) j h1).symm
theorem EnvOk.step_ok {L:Bs} (h:EnvOk L) {t:T} (ht:t.ok):(stepW L t).ok:=by
 unfold stepW
 split
 ·split
  ·rename_i n _ x hx;exact (h.find hx).2.2
  ·exact ht
 ·exact ht
theorem EnvOk.walkF_ok {L:Bs} (h:EnvOk L) {t:T} (ht:t.ok):∀ j,(walkF L j t).ok
 | 0 => ht
 | j+1 => h.step_ok (h.walkF_ok ht j)
theorem EnvOk.walk_ok {L:Bs} (h:EnvOk L) {t:T} (ht:t.ok):(walkN L t).ok:=h.walkF_ok ht _
inductive Reach (L:Bs) (n:Int):T→Prop
 | var {t:T}:t.var? =some n→Reach L n t
 | bind {t:T} {m:Int} {x:T}:t.var? =some m→findB L m=some x→Reach L n x→Reach L n t
 | arg {n':Int} {s:ByteArray} {m:Nat} {a:Nat→T} {i:Nat}:i < m→Reach L n (a i)→Reach L n (.mk 4 n' s m a)
theorem reach_var {L:Bs} {n k:Int} {t t':T} (h:t.var? =some k) (h':t'.var? =some k) (hr:Reach L n t):Reach L n t':=by
 cases hr with
 | var e => rw [h] at e;injection e with e;subst e;exact .var h'
 | bind e hf hx => rw [h] at e;injection e with e;subst e;exact .bind h' hf hx
 | arg hi hx => rw [var_iff] at h;exact absurd h.1 (by decide)
theorem reach_of_has {L:Bs} {n v:Int} {x:T} (hx:x.var? =some v) (hr:Reach L n x):∀ {t:T},t.hasV v→Reach L n t:=by
 intro t
 induction t with
 | nil => exact fun h => h.elim
 | mk k n' s m a ih =>
  rintro (h | ⟨h4,i,hi,h⟩)
  ·exact reach_var hx (var_iff.mpr h) hr
  ·subst h4;exact .arg hi (ih i h)
def varT (n:Int):T:=.mk 1 n ⟨#[]⟩ 0 fun _ => .nil
theorem varT_var (n:Int):(varT n).var? =some n:=rfl
theorem rank_bound (r:Int→Nat):∀ t:T,∃ K,∀ v,t.hasV v→r v < K:=by
 intro t
 induction t with
 | nil => exact ⟨0,fun _ h => h.elim⟩
 | mk k n s m a ih =>
  have key:∀ q,∃ K,∀ i,i < q→∀ v,(a i).hasV v→r v < K:=by
   intro q
   induction q with
   | zero => exact ⟨0,fun i hi => absurd hi (by omega)⟩
   | succ q ihq =>
    obtain ⟨K1,h1⟩:=ihq
    obtain ⟨K2,h2⟩:=ih q
    refine ⟨max K1 K2,fun i hi v hv => ?_⟩
    rcases Nat.lt_or_ge i q with h | h
    ·have:=h1 i h v hv;omega
    ·obtain rfl:i=q:=by omega
     have:=h2 v hv;omega
  obtain ⟨K,hK⟩:=key m
  refine ⟨max (r n+1) K,fun v hv => ?_⟩
  rcases hv with ⟨_,rfl⟩ | ⟨_,i,hi,hv⟩
  ·omega
  ·have:=hK i hi v hv;omega
theorem EnvOk.bind {L:Bs} (h:EnvOk L) {n:Int} {t:T} (hn:findB L n=none) (h0:0≤n) (h1:n < 1000) (ht:t.ok) (hno:¬ Reach L n t):EnvOk (L++[(n,t)]):=by
 obtain ⟨r,hr⟩:=h.acyc
 obtain ⟨K,hK⟩:=rank_bound r t
 refine ⟨?_,fun p hp => ?_,?_⟩
 ·rw [List.map_append,List.nodup_append]
  refine ⟨h.nd,by simp,fun a ha b hb => ?_⟩
  obtain ⟨p,hp,rfl⟩:=List.mem_map.mp ha
  simp at hb
  subst hb
  exact findB_none hn p hp
 ·rcases List.mem_append.mp hp with hp | hp
  ·exact h.ok p hp
  ·simp at hp;subst hp;exact ⟨h0,h1,ht⟩
 ·refine ⟨fun v => r v+@ite _ (Reach L n (varT v)) (Classical.propDecidable _) (K+1) 0,fun p hp v hv => ?_⟩
  rcases List.mem_append.mp hp with hp | hp
  ·have hlt:=hr p hp v hv
   by_cases hv1:Reach L n (varT v)
   ·have hp1:Reach L n (varT p.1):=by
     obtain ⟨k,x⟩:=p
     exact .bind (varT_var k) (findB_of_mem h.nd hp) (reach_of_has (varT_var v) hv1 hv)
    simp only [if_pos hv1,if_pos hp1]
    omega
   ·simp only [if_neg hv1]
    omega
  ·simp at hp
   subst hp
   have hv1:¬ Reach L n (varT v):=fun hr1 => hno (reach_of_has (varT_var v) hr1 hv)
   have hn1:Reach L n (varT n):=.var (varT_var n)
   have:=hK v hv
   simp only [if_neg hv1,if_pos hn1]
   omega
end Go.Proofs.YtdgpmpccfjmmcaaGreatDoor
namespace Go.Proofs.YtdgpmpccfjmmcaaGreatDoor
open Go.RowKit
inductive Out where
 | bind (n:Int) (t:T)
 | fail
 | args (m:Nat) (f g:Nat→T)
open Classical in
noncomputable def stepU (L:Bs) (a b:T):Out:=match a,b with
 | .mk ka na sa ma fa,.mk kb nb sb mb fb =>
  if ka=1 then
   (if kb=1 then (if na=nb then .args 0 fa fb else if na < nb then .bind nb (.mk ka na sa ma fa) else .bind na (.mk kb nb sb mb fb))
    else if Reach L na (.mk kb nb sb mb fb) then .fail else .bind na (.mk kb nb sb mb fb))
  else if kb=1 then (if Reach L nb (.mk ka na sa ma fa) then .fail else .bind nb (.mk ka na sa ma fa))
  else if ka≠kb∨(ka=2∧na≠nb)∨sa≠sb∨ma≠mb then .fail else .args ma fa fb
 | _,_ => .fail
inductive Res where
 | ok (L:Bs) (f:Nat)
 | many
 | unlike
def pairsOf (m:Nat) (g h:Nat→T):List (T × T):=(List.range m).map fun i => (g i,h i)
noncomputable def uniF:Nat→Bs→List (T × T)→Res
 | 0,L,[] => .ok L 0
 | 0,_,_ ::_ => .many
 | f+1,L,[] => .ok L (f+1)
 | f+1,L,p ::rest => match stepU L (walkN L p.1) (walkN L p.2) with
  | .fail => .unlike
  | .bind n t => uniF f (L++[(n,t)]) rest
  | .args m g h => uniF f L (pairsOf m g h++rest)
theorem uniF_nil (f:Nat) (L:Bs):uniF f L []=.ok L f:=by cases f <;> rfl
noncomputable def Res.then (r:Res) (xs:List (T × T)):Res:=match r with
 | .ok L f => uniF f L xs
 | .many => .many
 | .unlike => .unlike
theorem uniF_append:∀ (f:Nat) (L:Bs) (xs ys:List (T × T)),uniF f L (xs++ys)=(uniF f L xs).then ys:=by
 intro f
 induction f with
 | zero =>
  intro L xs ys
  cases xs with
  | nil => rfl
  | cons x xs => rfl
 | succ f ih =>
  intro L xs ys
  cases xs with
  | nil => rfl
  | cons x xs =>
   simp only [List.cons_append,uniF]
   cases stepU L (walkN L x.1) (walkN L x.2) with
   | fail => rfl
   | bind n t => exact ih _ _ _
   | args m g h => simp only [← List.append_assoc];exact ih _ _ _
theorem stepU_bind {L:Bs} {a b:T} (ha:a.ok) (hb:b.ok) (da:doneW L a) (db:doneW L b) {n:Int} {t:T} (he:stepU L a b=.bind n t):findB L n=none∧0≤n∧n < 1000∧t.ok∧¬ Reach L n t:=by
 cases a with
 | nil => cases he
 | mk ka na sa ma fa =>
 cases b with
 | nil => cases he
 | mk kb nb sb mb fb =>
 have other:∀ {n k s m f},(T.mk 1 k s m f).ok→doneW L (.mk 1 k s m f)→k≠n→¬ Reach L n (.mk 1 k s m f):=by
  intro n k s m f _ hd hne hr
  cases hr with
  | var e => exact hne (var_iff.mp e).2
  | bind e hf hx => rw [hd _ e] at hf;cases hf
 unfold stepU at he
 simp only at he
 split at he
 ·rename_i h1
  subst h1
  obtain ⟨a0,a1,_⟩:=ha.var rfl
  split at he
  ·rename_i h1;subst h1
   obtain ⟨b0,b1,_⟩:=hb.var rfl
   split at he
   ·cases he
   ·rename_i hne
    split at he
    ·rename_i hlt
     injection he with e1 e2;subst e1;subst e2
     exact ⟨db _ (var_iff.mpr ⟨rfl,rfl⟩),b0,b1,ha,other ha da hne⟩
    ·injection he with e1 e2;subst e1;subst e2
     exact ⟨da _ (var_iff.mpr ⟨rfl,rfl⟩),a0,a1,hb,other hb db fun e => hne e.symm⟩
  ·split at he
   ·cases he
   ·rename_i hr
    injection he with e1 e2;subst e1;subst e2
    exact ⟨da _ (var_iff.mpr ⟨rfl,rfl⟩),a0,a1,hb,hr⟩
 ·split at he
  ·rename_i h1;subst h1
   obtain ⟨b0,b1,_⟩:=hb.var rfl
   split at he
   ·cases he
   ·rename_i hr
    injection he with e1 e2;subst e1;subst e2
    exact ⟨db _ (var_iff.mpr ⟨rfl,rfl⟩),b0,b1,ha,hr⟩
  ·split at he <;> cases he
end Go.Proofs.YtdgpmpccfjmmcaaGreatDoor
namespace Go.Proofs.YtdgpmpccfjmmcaaGreatDoor
open Go.RowKit
def resF (L:Bs):Nat→T→T
 | 0,_ => .nil
 | f+1,t => match walkN L t with
  | .nil => .nil
  | .mk k n s m a => if k=4 then .mk 4 0 s m (fun i => resF L f (a i)) else .mk k n s m a
def Deep (L:Bs):Nat→T→Prop
 | 0,_ => False
 | f+1,t => match walkN L t with
  | .nil => False
  | .mk k _ _ m a => k=4→∀ i,i < m→Deep L f (a i)
theorem resF_leaf {L:Bs} {t:T} {k n:Int} {s:ByteArray} {m:Nat} {a:Nat→T} (h:walkN L t=.mk k n s m a) (hk:k≠4) (f:Nat):resF L (f+1) t=.mk k n s m a:=by
 simp only [resF,h,if_neg hk]
theorem resF_cmp {L:Bs} {t:T} {n:Int} {s:ByteArray} {m:Nat} {a:Nat→T} (h:walkN L t=.mk 4 n s m a) (f:Nat):resF L (f+1) t=.mk 4 0 s m (fun i => resF L f (a i)):=by
 simp only [resF,h,if_true]
theorem Deep.args {L:Bs} {f:Nat} {t:T} (hd:Deep L (f+1) t) {n:Int} {s:ByteArray} {m:Nat} {a:Nat→T} (h:walkN L t=.mk 4 n s m a):∀ i,i < m→Deep L f (a i):=by
 unfold Deep at hd;rw [h] at hd;exact hd rfl
theorem Deep.more {L:Bs}:∀ {f:Nat} {t:T},Deep L f t→∀ {g:Nat},f≤g→Deep L g t:=by
 intro f
 induction f with
 | zero => exact fun h => h.elim
 | succ f ih =>
  intro t h g hg
  obtain ⟨g,rfl⟩:∃ g',g=g'+1:=⟨g - 1,by omega⟩
  unfold Deep at h ⊢
  split at h
  ·exact h.elim
  ·rename_i k n s m a e
   exact fun hk i hi => ih (h hk i hi) (by omega)
end Go.Proofs.YtdgpmpccfjmmcaaGreatDoor
namespace Go.Proofs.YtdgpmpccfjmmcaaGreatDoor
mutual
def P.t:P→T
 | .v n => .mk 1 n ⟨#[]⟩ 0 fun _ => .nil
 | .i n => .mk 2 n ⟨#[]⟩ 0 fun _ => .nil
 | .a s => .mk 3 0 (ba s) 0 fun _ => .nil
 | .c s l => .mk 4 0 (ba s) l.length (tsP l)
def tsP:List P→Nat→T
 | [] => fun _ => .nil
 | p ::l => fun k => match k with
  | 0 => p.t
  | k+1 => tsP l k
end
theorem ts_at:∀ (l:List P) (i:Nat) (h:i < l.length),tsP l i=(l[i]).t
 | [],i,h => absurd h (by simp)
 | p ::l,0,_ => by simp only [tsP];rfl
 | p ::l,i+1,h => by
  simp only [tsP]
  exact ts_at l i (by simpa using h)
theorem ba_inj {s t:List UInt8} (h:ba s=ba t):s=t:=by
 have:=congrArg (fun b:ByteArray => b.data.toList) h
 simpa [ba] using this
def Bt (L:Bp):Bs:=L.map fun x => ((x.1:Int),x.2.t)
theorem Bt_app (L M:Bp):Bt (L++M)=Bt L++Bt M:=by simp [Bt]
theorem Bt_one (L:Bp) (n:Nat) (x:P):Bt (L++[(n,x)])=Bt L++[((n:Int),x.t)]:=by simp [Bt]
theorem find_t (n:Nat):∀ L:Bp,findB (Bt L) (n:Int)=(findP L n).map P.t
 | [] => rfl
 | (k,x) ::L => by
  show findB (((k:Int),x.t) ::Bt L) n=_
  unfold findB findP
  by_cases h:k=n
  ·rw [if_pos h,if_pos (by omega)];rfl
  ·rw [if_neg h,if_neg (by omega)];exact find_t n L
theorem walkF_fix {L:Bs} {t:T} (h:stepW L t=t):∀ j,walkF L j t=t
 | 0 => rfl
 | j+1 => by rw [walkF_comm,h];exact walkF_fix h j
theorem walkF_t (L:Bp):∀ (j:Nat) (p:P),walkF (Bt L) j p.t=(walkQ L j p).t
 | 0,p => by cases p <;> rfl
 | j+1,.v n => by
  rw [walkF_comm]
  have hs:stepW (Bt L) (P.v n).t=match findP L n with
   | none => (P.v n).t
   | some x => x.t:=by
   simp only [P.t,stepW,T.var?,if_true,find_t]
   cases findP L n <;> rfl
  rw [hs,walkQ]
  cases hf:findP L n with
  | none =>
   rw [hf] at hs
   exact walkF_fix hs j
  | some x => exact walkF_t L j x
 | j+1,.i n => walkF_fix rfl _
 | j+1,.a s => walkF_fix rfl _
 | j+1,.c s l => walkF_fix rfl _
theorem walk_t (L:Bp) (p:P):walkN (Bt L) p.t=(walkP L p).t:=by
 unfold walkN walkP
 rw [show (Bt L).length=L.length by simp [Bt]]
 exact walkF_t L _ p
theorem walkN_nil (L:Bs):walkN L .nil=.nil:=walkF_fix rfl _
theorem occ_t (L:Bp) (n:Nat):∀ (f:Nat) (p:P) (b:Bool),occP L n f p=some b→(b=true↔Reach (Bt L) n p.t)
 | 0,p,b,h => by cases h
 | f+1,.v m,b,h => by
  unfold occP at h
  by_cases hm:m=n
  ·rw [if_pos hm] at h
   obtain rfl:=Option.some.inj h
   subst hm
   exact ⟨fun _ => .var rfl,fun _ => rfl⟩
  ·rw [if_neg hm] at h
   have hne:(m:Int)≠(n:Int):=by omega
   cases hf:findP L m with
   | none =>
    rw [hf] at h
    obtain rfl:=Option.some.inj h
    refine ⟨fun h => (by cases h),fun hr => ?_⟩
    simp only [P.t] at hr
    cases hr with
    | var e => exact absurd (var_iff.1 e).2 hne
    | bind e hb hx =>
     obtain rfl:=(var_iff.1 e).2
     rw [find_t,hf] at hb
     cases hb
   | some x =>
    rw [hf] at h
    rw [occ_t L n f x b h]
    refine ⟨fun hr => .bind (m:=m) rfl (by rw [find_t,hf];rfl) hr,fun hr => ?_⟩
    simp only [P.t] at hr
    cases hr with
    | var e => exact absurd (var_iff.1 e).2 hne
    | bind e hb hx =>
     obtain rfl:=(var_iff.1 e).2
     rw [find_t,hf] at hb
     obtain rfl:=Option.some.inj hb
     exact hx
 | f+1,.i m,b,h => by
  obtain rfl:=Option.some.inj h
  refine ⟨fun h => (by cases h),fun hr => ?_⟩
  simp only [P.t] at hr
  cases hr with
  | var e => exact absurd (var_iff.1 e).1 (by decide)
  | bind e hb hx => exact absurd (var_iff.1 e).1 (by decide)
 | f+1,.a m,b,h => by
  obtain rfl:=Option.some.inj h
  refine ⟨fun h => (by cases h),fun hr => ?_⟩
  simp only [P.t] at hr
  cases hr with
  | var e => exact absurd (var_iff.1 e).1 (by decide)
  | bind e hb hx => exact absurd (var_iff.1 e).1 (by decide)
 | f+1,.c s l,b,h => by
  unfold occP at h
  have key:∀ (l:List P) (b:Bool),l.foldr (fun x r => match occP L n f x with
   | none => none
   | some true => some true
   | some false => r) (some false)=some b→(b=true↔∃ x ∈ l,Reach (Bt L) n x.t):=by
   intro l
   induction l with
   | nil =>
    intro b h
    obtain rfl:=Option.some.inj h
    simp
   | cons x l ih =>
    intro b h
    rw [List.foldr_cons] at h
    cases hx:occP L n f x with
    | none => rw [hx] at h;cases h
    | some c =>
     rw [hx] at h
     have h2:=occ_t L n f x c hx
     cases c with
     | true =>
      obtain rfl:=Option.some.inj h
      exact ⟨fun _ => ⟨x,List.mem_cons_self,h2.1 rfl⟩,fun _ => rfl⟩
     | false =>
      rw [ih b h]
      constructor
      ·rintro ⟨y,hy,hr⟩
       exact ⟨y,List.mem_cons_of_mem _ hy,hr⟩
      ·rintro ⟨y,hy,hr⟩
       rcases List.mem_cons.1 hy with rfl | hy
       ·exact absurd (h2.2 hr) (by decide)
       ·exact ⟨y,hy,hr⟩
  rw [key l b h]
  simp only [P.t]
  constructor
  ·rintro ⟨x,hx,hr⟩
   obtain ⟨i,hi,rfl⟩:=List.getElem_of_mem hx
   exact .arg hi (by rw [ts_at l i hi];exact hr)
  ·intro hr
   cases hr with
   | var e => exact absurd (var_iff.1 e).1 (by decide)
   | bind e hb hx => exact absurd (var_iff.1 e).1 (by decide)
   | arg hi hr =>
    rw [ts_at l _ hi] at hr
    exact ⟨_,List.getElem_mem hi,hr⟩
def RP.res:RP→Res
 | .ok L f => .ok (Bt L) f
 | .many => .many
 | .unlike => .unlike
def tt (x:P × P):T × T:=(x.1.t,x.2.t)
theorem pairs_t (l m:List P) (h:l.length=m.length):pairsOf l.length (tsP l) (tsP m)=(l.zip m).map tt:=by
 unfold pairsOf
 apply List.ext_getElem
 ·simp [h]
 ·intro i h1 h2
  simp at h1
  simp [tt,ts_at l i h1,ts_at m i (by omega)]
theorem step_vv (L:Bp) (n m:Nat):stepU (Bt L) (P.v n).t (P.v m).t=if n=m then .args 0 (fun _ => .nil) (fun _ => .nil) else if n < m then .bind m (P.v n).t else .bind n (P.v m).t:=by
 simp only [P.t,stepU,if_true]
 by_cases h:n=m
 ·rw [if_pos h,if_pos (by omega)]
 ·rw [if_neg h,if_neg (by omega)]
  by_cases h2:n < m
  ·rw [if_pos h2,if_pos (by omega)]
  ·rw [if_neg h2,if_neg (by omega)]
theorem step_vx (L:Bp) (n:Nat) (y:P) (hy:∀ m,y≠.v m) {b:Bool} (hb:b=true↔Reach (Bt L) n y.t):stepU (Bt L) (P.v n).t y.t=if b then .fail else .bind n y.t:=by
 cases y with
 | v m => exact absurd rfl (hy m)
 | _ =>
  simp only [P.t,stepU,if_true] at hb ⊢
  rw [if_neg (by decide)]
  cases b with
  | true => rw [if_pos (hb.1 rfl)];rfl
  | false => rw [if_neg (fun h => absurd (hb.2 h) (by decide))];rfl
theorem step_xv (L:Bp) (n:Nat) (y:P) (hy:∀ m,y≠.v m) {b:Bool} (hb:b=true↔Reach (Bt L) n y.t):stepU (Bt L) y.t (P.v n).t=if b then .fail else .bind n y.t:=by
 cases y with
 | v m => exact absurd rfl (hy m)
 | _ =>
  simp only [P.t,stepU,if_true] at hb ⊢
  rw [if_neg (by decide)]
  cases b with
  | true => rw [if_pos (hb.1 rfl)];rfl
  | false => rw [if_neg (fun h => absurd (hb.2 h) (by decide))];rfl
theorem uni_t (fo:Nat):∀ (f:Nat) (L:Bp) (st:List (P × P)) (r:RP),uniP fo f L st=some r→uniF f (Bt L) (st.map tt)=r.res
 | 0,L,[],r,h => by obtain rfl:=Option.some.inj h;rfl
 | 0,L,x ::st,r,h => by obtain rfl:=Option.some.inj h;rfl
 | f+1,L,[],r,h => by obtain rfl:=Option.some.inj h;rfl
 | f+1,L,(x,y) ::st,r,h => by
  unfold uniP at h
  simp only [List.map_cons,tt,uniF,walk_t]
  simp only at h
  have bind:∀ (n:Nat) (q:P),uniP fo f (L++[(n,q)]) st=some r→uniF f (Bt L++[((n:Int),q.t)]) (st.map tt)=r.res:=fun n q h => by
   rw [← Bt_one];exact uni_t fo f _ st r h
  generalize walkP L x=a at*
  generalize walkP L y=b at*
  have vx:∀ (n:Nat) (q:P),(∀ m,q≠.v m)→(match occP L n fo q with
   | none => none
   | some true => some RP.unlike
   | some false => uniP fo f (L++[(n,q)]) st)=some r→∃ b:Bool,(b=true↔Reach (Bt L) n q.t)∧(match (if b then Out.fail else Out.bind n q.t) with
    | .fail => Res.unlike
    | .bind n t => uniF f (Bt L++[(n,t)]) (st.map tt)
    | .args m g h => uniF f (Bt L) (pairsOf m g h++st.map tt))=r.res:=fun n q hq h => by
   cases ho:occP L n fo q with
   | none => rw [ho] at h;cases h
   | some b =>
    rw [ho] at h
    refine ⟨b,occ_t L n fo q b ho,?_⟩
    cases b with
    | true => obtain rfl:=Option.some.inj h;rfl
    | false => exact bind n q h
  have same:uniP fo f L st=some r→uniF f (Bt L) ([]++st.map tt)=r.res:=fun h => uni_t fo f L st r h
  cases a with
  | v n =>
   cases b with
   | v m =>
    simp only at h
    rw [step_vv]
    by_cases e:n=m
    ·rw [if_pos e] at h ⊢
     exact same h
    ·rw [if_neg e] at h ⊢
     by_cases e2:n < m
     ·rw [if_pos e2] at h ⊢
      exact bind m (.v n) h
     ·rw [if_neg e2] at h ⊢
      exact bind n (.v m) h
   | i m => obtain ⟨b,h1,h2⟩:=vx n _ (fun _ e => by cases e) h;rw [step_vx L n _ (fun _ e => by cases e) h1];exact h2
   | a m => obtain ⟨b,h1,h2⟩:=vx n _ (fun _ e => by cases e) h;rw [step_vx L n _ (fun _ e => by cases e) h1];exact h2
   | c s l => obtain ⟨b,h1,h2⟩:=vx n _ (fun _ e => by cases e) h;rw [step_vx L n _ (fun _ e => by cases e) h1];exact h2
  | i n =>
   cases b with
   | v m => obtain ⟨b,h1,h2⟩:=vx m _ (fun _ e => by cases e) h;rw [step_xv L m _ (fun _ e => by cases e) h1];exact h2
   | i m =>
    simp only at h
    by_cases e:n=m
    ·subst e
     rw [if_pos rfl] at h
     simp [P.t,stepU]
     exact same h
    ·rw [if_neg e] at h
     obtain rfl:=Option.some.inj h
     simp [P.t,stepU,e]
     rfl
   | a m => obtain rfl:=Option.some.inj h;simp [P.t,stepU];rfl
   | c s l => obtain rfl:=Option.some.inj h;simp [P.t,stepU];rfl
  | a n =>
   cases b with
   | v m => obtain ⟨b,h1,h2⟩:=vx m _ (fun _ e => by cases e) h;rw [step_xv L m _ (fun _ e => by cases e) h1];exact h2
   | i m => obtain rfl:=Option.some.inj h;simp [P.t,stepU];rfl
   | a m =>
    simp only at h
    by_cases e:n=m
    ·subst e
     rw [if_pos rfl] at h
     simp [P.t,stepU]
     exact same h
    ·rw [if_neg e] at h
     obtain rfl:=Option.some.inj h
     have e':¬ ba n=ba m:=fun h => e (ba_inj h)
     simp [P.t,stepU,e']
     rfl
   | c s l => obtain rfl:=Option.some.inj h;simp [P.t,stepU];rfl
  | c n k =>
   cases b with
   | v m => obtain ⟨b,h1,h2⟩:=vx m _ (fun _ e => by cases e) h;rw [step_xv L m _ (fun _ e => by cases e) h1];exact h2
   | i m => obtain rfl:=Option.some.inj h;simp [P.t,stepU];rfl
   | a m => obtain rfl:=Option.some.inj h;simp [P.t,stepU];rfl
   | c s l =>
    simp only at h
    by_cases e:n=s∧k.length=l.length
    ·rw [if_pos e] at h
     obtain ⟨rfl,e⟩:=e
     simp only [P.t,stepU]
     rw [if_neg (by decide),if_neg (by decide),if_neg (by simp [e])]
     simp only
     rw [pairs_t k l e,← List.map_append]
     exact uni_t fo f L _ r h
    ·rw [if_neg e] at h
     obtain rfl:=Option.some.inj h
     simp only [P.t,stepU]
     rw [if_neg (by decide),if_neg (by decide),if_pos (by
      by_cases e1:n=s
      ·exact .inr (.inr (.inr (fun h => e ⟨e1,h⟩)))
      ·exact .inr (.inr (.inl (fun h => e1 (ba_inj h)))))]
     rfl
theorem res_t (L:Bp):∀ (f:Nat) (p q:P),resP L f p=some q→resF (Bt L) f p.t=q.t∧Deep (Bt L) f p.t
 | 0,p,q,h => by cases h
 | f+1,p,q,h => by
  unfold resP at h
  simp only [resF,Deep,walk_t]
  generalize walkP L p=w at*
  cases w with
  | v n => obtain rfl:=Option.some.inj h;exact ⟨by simp [P.t],by simp [P.t]⟩
  | i n => obtain rfl:=Option.some.inj h;exact ⟨by simp [P.t],by simp [P.t]⟩
  | a n => obtain rfl:=Option.some.inj h;exact ⟨by simp [P.t],by simp [P.t]⟩
  | c s l =>
   simp only at h
   obtain ⟨ys,hys,rfl⟩:=Option.map_eq_some_iff.1 h
   have key:∀ (l ys:List P),l.foldr (fun x r => match resP L f x,r with
    | some y,some ys => some (y ::ys)
    | _,_ => none) (some [])=some ys→ys.length=l.length∧∀ i,resF (Bt L) f (tsP l i)=tsP ys i∧(i < l.length→Deep (Bt L) f (tsP l i)):=by
    intro l
    induction l with
    | nil =>
     intro ys h
     obtain rfl:=Option.some.inj h
     refine ⟨rfl,fun i => ⟨?_,fun h => absurd h (by simp)⟩⟩
     simp only [tsP]
     cases f with
     | zero => rfl
     | succ f => simp only [resF,walkN_nil]
    | cons x l ih =>
     intro ys h
     rw [List.foldr_cons] at h
     cases hx:resP L f x with
     | none => rw [hx] at h;simp at h
     | some y =>
      rw [hx] at h
      cases hr:(l.foldr (fun x r => match resP L f x,r with
       | some y,some ys => some (y ::ys)
       | _,_ => none) (some [])) with
      | none => rw [hr] at h;simp at h
      | some zs =>
       rw [hr] at h
       obtain rfl:=Option.some.inj h
       obtain ⟨h1,h2⟩:=ih zs hr
       obtain ⟨h3,h4⟩:=res_t L f x y hx
       refine ⟨by simp [h1],fun i => ?_⟩
       cases i with
       | zero => simp only [tsP];exact ⟨h3,fun _ => h4⟩
       | succ i => simp only [tsP];exact ⟨(h2 i).1,fun h => (h2 i).2 (by simpa using h)⟩
   obtain ⟨h1,h2⟩:=key l ys hys
   simp only [P.t,if_true]
   refine ⟨?_,fun _ i hi => (h2 i).2 hi⟩
   rw [h1]
   congr 1
   funext i
   exact (h2 i).1
end Go.Proofs.YtdgpmpccfjmmcaaGreatDoor
namespace Go.Proofs.YtdgpmpccfjmmcaaGreatDoor
open Go.RowKit
def nameV (k:Int) (s:ByteArray) (m:Nat):Value:=if k=3 then .tuple #[.string s,.int .i64 0,.bool true] else if k=4 then .tuple #[.string s,.int .i64 (m:Int),.bool true] else .tuple #[.string ⟨#[]⟩,.int .i64 0,.bool false]
set_option maxRecDepth 100000 in
set_option maxHeartbeats 4000000 in
theorem pname_any (k n:Int) (s:ByteArray) (A:Option Addr) (m c:Nat) (w:World):Calls Tryz.prog 13 #[.agg #[.int .i64 k,.int .i64 n,.string s,.slice A m c]] w fun e w' => e=.returned (nameV k s m)∧Below w.heap.size w w':=by
 have BX:=Lib.hid ((Below.refl w.heap.size w).alloc (Nat.le_refl _) (Obj.cells #[.int .i64 k,.int .i64 n,.string s,.slice A m c] 51))
 unfold nameV
 by_cases h3:k=3
 ·subst h3
  go_enter Tryz.func13,Tryz.ntmps13
  go_wp2_with fail
  go_ret3
  exact ⟨rfl,BX.out⟩
 ·have h3':(k == 3)=false:=by simpa using h3
  by_cases h4:k=4
  ·subst h4
   go_enter Tryz.func13,Tryz.ntmps13
   go_wp2_with fail
   go_region
   all_goals
    go_wp2_with fail
    go_ret3
    exact ⟨rfl,BX.out.drew⟩
  ·have h4':(k == 4)=false:=by simpa using h4
   rw [if_neg h3,if_neg h4]
   go_enter Tryz.func13,Tryz.ntmps13
   go_wp2_with fail
   go_ret3
   exact ⟨rfl,BX.out⟩
end Go.Proofs.YtdgpmpccfjmmcaaGreatDoor
