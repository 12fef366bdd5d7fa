/- A struct of many cells stored into a block just laid,in a region that draws its order:as a whole. The walk through term.Vars and its closure. Goals of the program,exactly. The machine's runs,plainly:one round;what a run's end says of it. What a step is ended by:attempt. A fact's code,plainly,and built back. -/
import Derived.Test.YtdgpmpccfjmmcaaGreatDoorKJAr
import Derived.Deep.WholeRow
import Derived.Great.BuildSlice
import Derived.Great.Walk
import Derived.Test.YtdgpmpccfjmmcaaGreatDoorKJAg
import Derived.Deep.DeepCutAuto
import Derived.Deep.AppendLies
import Derived.Test.YtdgpmpccfjmmcaaGreatDoorKMd3
import Derived.Test.YtdgpmpccfjmmcaaGreatDoorKJAf
import Derived.Test.YtdgpmpccfjmmcaaGreatDoorKJAq
import Derived.Tactics2
import Derived.Defers
import Derived.Recover
import Derived.Laws.Pointers
import Derived.Test.YtdgpmpccfjmmcaaGreatDoorKJAs
import Derived.Test.YtdgpmpccfjmmcaaGreatDoorKJAl
set_option linter.unusedVariables false
set_option linter.unusedSimpArgs false
namespace Go.Proofs.YtdgpmpccfjmmcaaGreatDoor
theorem step_store_new {P:Program} {ops:Array Oper} {o:Oper} {a:Act} {K:Act→World→Prop} {Q:Exit→Act→World→Prop} {E:Prop} (w:World) (hgd:o.guard=none) (d x:Operand) (t:TypeId) (ho:o.op=.store t d x) (c c':Array Value)
 (hd:a.eval d=.pointer (some ⟨w.heap.size,0,none⟩)) (hx:a.eval x=.agg c') (hi:(P.info? t).map (·.size)=some c'.size) (hs:c.size=c'.size) (h1:c'.all (·.oneCell')=true) (hdst:o.dst=none) (h:K a (w.alloc (.cells c' t))) :
 if Region.wanted o (yielded ops a.tmps)=true then Oper.wp P o a (w.alloc (.cells c t)) K Q else E:=by
 rw [if_pos (by simp [Region.wanted,hgd])]
 unfold Oper.wp
 simp only [execOp,ho,hd,hx,Sem.run_bind,run_storeAt_new w t c c' hi hs h1,Result.andThen,Sem.run_pure]
 have e:a.put o.dst undef=a:=by rw [hdst];rfl
 show K (a.put o.dst undef) _
 rw [e]
 exact h
theorem load_whole {P:Program} {o:Oper} {ρ:Operand→Value} {w:World} {d:Operand} {t:TypeId} {b:Nat} {l:List Value} (ho:o.op=.load t d) (hd:ρ d=.pointer (some ⟨b,0,none⟩)) (hc:AC w b 0 l) (hi:(P.info? t).map (·.size)=some l.length) (ha:(isAgg t).run P w=.ok true w) :
 (execOp ρ o).run P w=.ok (.value (.agg l.toArray)) w:=by
 have hx:(loadCells ⟨b,0,none⟩ l.length).run P w=.ok l.toArray w:=run_loadCells_list w ⟨b,0,none⟩ l fun j v hj => by
  have key:∀ (l:List Value) (k j:Nat) (v:Value),AC w b k l→l[j]? =some v→w.cell? ⟨b,k+j,none⟩=some v:=by
   intro l
   induction l with
   | nil => intro k j v _ h;cases h
   | cons x l ih =>
    intro k j v h hj
    cases j with
    | zero => injection hj with hj;subst hj;exact h.1
    | succ j => have:=ih (k+1) j v h.2 (by simpa using hj);rwa [show k+1+j=k+(j+1) by omega] at this
  have hadd:(⟨b,0,none⟩:Addr).add j=⟨b,j,none⟩:=by unfold Addr.add;split <;> simp_all
  rw [hadd]
  have:=key l 0 j v hc hj
  rwa [Nat.zero_add] at this
 cases hq:P.info? t with
 | none => simp [hq] at hi
 | some i =>
  have hs:i.size=l.length:=by simpa [hq] using hi
  simp [execOp,ho,hd,Instr.loadAt,Instr.sureAddr,loadVar,Sem.run_bind,Result.andThen,ha,sizeOf,typeInfo,hq,hs,hx]
theorem step_slice_one {P:Program} {ops:Array Oper} {o:Oper} {a:Act} {K:Act→World→Prop} {Q:Exit→Act→World→Prop} {E:Prop} (w:World) (hgd:o.guard=none) (x:Operand) (t e:TypeId) (ho:o.op=.buildSlice t 1 #[(0,x)]) (cells:Array Value)
 (hu:P.underlying t=some (.slice e)) (hf:P.builtSlice e 1 [(0,a.eval x)]=some cells) (h:K (a.put o.dst (.slice (some ⟨w.heap.size,0,none⟩) 1 1)) (w.alloc (.cells cells e))) :
 if Region.wanted o (yielded ops a.tmps)=true then Oper.wp P o a w K Q else E:=by
 rw [if_pos (by simp [Region.wanted,hgd])]
 unfold Program.builtSlice at hf
 cases hie:P.info? e with
 | none => simp [hie] at hf
 | some ie =>
  simp only [hie] at hf
  cases hz:ie.zero with
  | none => simp [hz] at hf
  | some z =>
   simp only [hz] at hf
   by_cases hc:1*ie.size > 2 ^ 24∨1*ie.size=0
   ·rw [if_pos hc] at hf;cases hf
   ·rw [if_neg hc] at hf
    exact wp_buildSlice t e 1 #[(0,x)] ho cells ie z hu hie hz (fun h => hc (.inl h)) (fun h => hc (.inr h)) (by simpa using hf) h
end Go.Proofs.YtdgpmpccfjmmcaaGreatDoor
namespace Go.Proofs.YtdgpmpccfjmmcaaGreatDoor
open Go.RowKit
theorem targs_yes {k n:Int} {s:ByteArray} {A:Option Addr} {m c:Nat} (hk:(k == 4)=true) (w:World) :
 Calls Tryz.prog 66 #[.agg #[.int .i64 k,.int .i64 n,.string s,.slice A m c]] w fun e w' => e=.returned (.slice A m c)∧Below w.heap.size w w':=by
 have hk':(k != 4)=false:=by simpa using hk
 clear hk
 go_enter Tryz.func66,Tryz.ntmps66
 go_wp2_with fail
 go_ret
 exact ⟨rfl,(Below.refl _ _).alloc (Nat.le_refl _) _⟩
theorem targs_no {k n:Int} {s:ByteArray} {A:Option Addr} {m c:Nat} (hk:(k == 4)=false) (w:World) :
 Calls Tryz.prog 66 #[.agg #[.int .i64 k,.int .i64 n,.string s,.slice A m c]] w fun e w' => e=.returned (.slice none 0 0)∧Below w.heap.size w w':=by
 have hk':(k != 4)=true:=by simpa using hk
 clear hk
 go_enter Tryz.func66,Tryz.ntmps66
 go_wp2_with fail
 go_ret
 exact ⟨rfl,(Below.refl _ _).alloc (Nat.le_refl _) _⟩
def fnV (Sb Ob Wb:Nat):Value:=.func (.func 65) #[] #[.pointer (some ⟨Sb,0,none⟩),.pointer (some ⟨Ob,0,none⟩),.pointer (some ⟨Wb,0,none⟩)]
structure Vc (w0 w:World) (Sb Ob Wb sb:Nat) (acc:List Int):Prop where
 bs:w.heap[Sb]? =some (.cells #[.map (some sb)] 155 (0,0))
 bw:w.heap[Wb]? =some (.cells #[fnV Sb Ob Wb] 109 (0,0))
 bo:∃ A c,w.heap[Ob]? =some (.cells #[.slice A acc.length c] 24 (0,0))∧ORow w w0.heap.size (.slice A acc.length c) acc
 seen:IM w sb acc.length (seenM acc)
 nd:acc.Nodup
 rng:∀ x ∈ acc,0≤x∧x < 1000
 low:Below w0.heap.size w0 w
 o0:w0.heap.size≤Ob
 s0:w0.heap.size≤sb
theorem Vc.below {w0 w w':World} {Sb Ob Wb sb:Nat} {acc:List Int} (h:Vc w0 w Sb Ob Wb sb acc) (hb:Below w.heap.size w w'):Vc w0 w' Sb Ob Wb sb acc:=by
 obtain ⟨A,c,h1,h2⟩:=h.bo
 exact ⟨(hb.block _ (heap_lt h.bs)).trans h.bs,(hb.block _ (heap_lt h.bw)).trans h.bw,⟨A,c,(hb.block _ (heap_lt h1)).trans h1,h2.below hb⟩,h.seen.keep (hb.block sb h.seen.lt),h.nd,h.rng,h.low.trans (hb.mono h.low.size),h.o0,h.s0⟩
theorem Vc.few {w0 w:World} {Sb Ob Wb sb:Nat} {acc:List Int} (h:Vc w0 w Sb Ob Wb sb acc):acc.length≤1000:=nodup_few 1000 _ h.nd h.rng
theorem Vc.asked {w0 w:World} {Sb Ob Wb sb:Nat} {acc:List Int} (h:Vc w0 w Sb Ob Wb sb acc) {i:Int} (h0:0≤i) (h1:i < 1000) :
 (Instr.lookup 155 (.map (some sb)) (.int .i64 i) false).run Tryz.prog w=.ok (.bool (decide (i ∈ acc))) w:=by
 have:=h.seen.look1 Tryz.underlying155 (zeroB w) (i:=i) ⟨by omega,by omega⟩
 rw [this]
 by_cases hi:i ∈ acc <;> simp [seenM,hi]
theorem seenM_snoc (acc:List Int) (i:Int):putI (seenM acc) i (.bool true)=seenM (acc++[i]):=by
 funext j
 by_cases h:j=i <;> simp [putI,seenM,h]
theorem Vc.mark {w0 w:World} {Sb Ob Wb sb:Nat} {acc:List Int} (h:Vc w0 w Sb Ob Wb sb acc) {i:Int} (h0:0≤i) (h1:i < 1000) :
 ∃ w',(Instr.mapUpdate 155 (.map (some sb)) (.int .i64 i) (.bool true)).run Tryz.prog w=.ok () w'∧IM w' sb (acc.length+1) (seenM (acc++[i]))∧w.mapTurned w' sb:=by
 obtain ⟨w',a1,a2,a3⟩:=h.seen.store Tryz.underlying155 (by have:=h.few;unfold maxLen;omega) (i:=i) ⟨by omega,by omega⟩ (.bool true)
 rw [seenM_snoc] at a2
 exact ⟨w',a1,a2,a3⟩
theorem Vc.add {w0 w w1 w2 W:World} {Sb Ob Wb sb:Nat} {acc:List Int} {A:Option Addr} {c g cap:Nat} {i:Int} (h:Vc w0 w Sb Ob Wb sb acc) (hbo:w.heap[Ob]? =some (.cells #[.slice A acc.length c] 24 (0,0))) (hor:ORow w w0.heap.size (.slice A acc.length c) acc)
 (hi:i ∉ acc) (h0:0≤i) (h1:i < 1000) (him:IM w1 sb (acc.length+1) (seenM (acc++[i]))) (ht:w.mapTurned w1 sb) (o:Obj) (hown:w2.ownsRow w0.heap.size 3 1 (.slice (some ⟨g,0,none⟩) (acc.length+1) cap) (acc.length+1) (acc.map (Value.int .i64)++[.int .i64 i]))
 (hg:(w1.alloc o).grownBy w2 (Value.slice A acc.length c).ownBlock) (hW:W=w2.setCell ⟨Ob,0,none⟩ (.slice (some ⟨g,0,none⟩) (acc.length+1) cap)):Vc w0 W Sb Ob Wb sb (acc++[i]):=by
 obtain ⟨es,cl,hmm⟩:=h.seen.is
 have hsz:=turned_size ht
 have keepT:∀ {b:Nat} {cs:Array Value} {ty:TypeId} {m:Nat × Nat},w.heap[b]? =some (.cells cs ty m)→w1.heap[b]? =some (.cells cs ty m):=fun {b cs ty m} hb => by
  refine (turned_block ht b ?_).trans hb
  rintro rfl
  rw [hmm] at hb
  cases hb
 have hor1:ORow w1 w0.heap.size (.slice A acc.length c) acc:=own_keep hor fun b hb => by
  obtain ⟨cs,f,hh⟩:=Go.Lib.ownsRow_kind hor b hb
  exact (keepT hh).trans hh.symm
 have ba:Below w1.heap.size w1 (w1.alloc o):=belA (Below.refl _ _) o
 have keep2:∀ {b:Nat} {cs:Array Value} {ty:TypeId} {m:Nat × Nat},w.heap[b]? =some (.cells cs ty m)→ty≠3→w2.heap[b]? =some (.cells cs ty m):=fun {b cs ty m} hb hne =>
  grownFar (own_below hor1 ba) hg ((ba.block b (heap_lt (keepT hb))).trans (keepT hb)) fun _ _ => cellsNe hne
 have keepW:∀ {b:Nat} {cs:Array Value} {ty:TypeId} {m:Nat × Nat},w.heap[b]? =some (.cells cs ty m)→ty≠3→ty≠24→W.heap[b]? =some (.cells cs ty m):=fun {b cs ty m} hb hne hne2 => by
  rw [hW]
  refine (Below.heap_setCell _ _ _ b ?_).trans (keep2 hb hne)
  rintro rfl
  rw [show w.heap[_]? =_ from hbo] at hb
  injection hb with hb
  injection hb with _ hb
  exact hne2 hb.symm
 have hb2:=keep2 hbo (by decide)
 have hob:W.heap[Ob]? =some (.cells #[.slice (some ⟨g,0,none⟩) (acc.length+1) cap] 24 (0,0)):=by rw [hW];simpa using blk_set hb2 0 (.slice (some ⟨g,0,none⟩) (acc.length+1) cap)
 have hnd:(acc++[i]).Nodup:=by
  rw [List.nodup_append]
  exact ⟨h.nd,by simp,fun a ha b hb => by simp at hb;subst hb;exact fun e => hi (e ▸ ha)⟩
 have hsb:sb≠Ob:=by rintro rfl;rw [hmm] at hbo;cases hbo
 have hm1:∃ es cl,w1.heap[sb]? =some (.map es cl):=him.is
 obtain ⟨es1,cl1,hm1⟩:=hm1
 have hm2:w2.heap[sb]? =w1.heap[sb]?:=(grownFar (own_below hor1 ba) hg ((ba.block sb (heap_lt hm1)).trans hm1) (fun _ _ e => by cases e)).trans hm1.symm
 refine ⟨keepW h.bs (by decide) (by decide),keepW h.bw (by decide) (by decide),⟨_,cap,by rw [List.length_append];exact hob,?_⟩,?_,hnd,fun x hx => ?_,?_,h.o0,h.s0⟩
 ·rw [hW]
  have:ORow w2 w0.heap.size (.slice (some ⟨g,0,none⟩) (acc.length+1) cap) (acc++[i]):=ORow.push hown
  rw [List.length_append]
  refine own_keep this fun b hb => Below.heap_setCell _ _ _ b ?_
  rintro rfl
  obtain ⟨cs,f,hh⟩:=Go.Lib.ownsRow_kind this _ hb
  rw [show w2.heap[_]? =_ from hb2] at hh
  injection hh with hh
  injection hh with _ hh
  exact absurd hh (by decide)
 ·rw [List.length_append]
  refine him.keep ?_
  rw [hW,Below.heap_setCell _ _ _ sb hsb]
  exact hm2
 ·rcases List.mem_append.mp hx with hx | hx
  ·exact h.rng x hx
  ·simp at hx;subst hx;exact ⟨h0,h1⟩
 ·rw [hW]
  exact (((Below.turned h.low ht h.s0).alloc (by have:=h.low.size;omega) o).grown hg (by have:=h.low.size;simp;omega) fun k hk => (hor.lt k hk).1).setCell (p:=⟨Ob,0,none⟩) h.o0 _
set_option maxRecDepth 100000 in
set_option maxHeartbeats 8000000 in
theorem vc_any {w0:World} {Sb Ob Wb sb:Nat}:∀ (t:T),t.ok→∀ (w:World) (v:Value) (acc:List Int),Vc w0 w Sb Ob Wb sb acc→TP w0 (fun _ => True) t v→
 Calls Tryz.prog 65 #[v,.pointer (some ⟨Sb,0,none⟩),.pointer (some ⟨Ob,0,none⟩),.pointer (some ⟨Wb,0,none⟩)] w fun e w' => e=.returned (.tuple #[])∧Vc w0 w' Sb Ob Wb sb (addAll acc (varsT t)):=by
 intro t
 induction t with
 | nil => exact fun h => h.1.elim
 | mk k n s m a ih =>
  intro hok w v acc hvc hv
  obtain ⟨A,c,rfl,hmc,hA,hx⟩:=hv
  have HX:=Lib.hid hx
  have OK:=Lib.hid hok
  have IH:=Lib.hid ih
  have hm:m≤4000:=Nat.le_of_lt hok.few
  obtain ⟨W,hW⟩:∃ W,W=w.alloc (Obj.cells #[.int .i64 k,.int .i64 n,.string s,.slice A m c] 51):=⟨_,rfl⟩
  have V:=Lib.hid (show Vc w0 W Sb Ob Wb sb acc by rw [hW];exact hvc.below (belA (Below.refl _ _) _))
  have X:=Lib.hid (show W.heap[w.heap.size]? =some (.cells #[.int .i64 k,.int .i64 n,.string s,.slice A m c] 51 (0,0)) by rw [hW];exact heap_alloc_new _ _)
  have HW:=Lib.hid hW
  obtain ⟨OA,oc,hbo,hor⟩:=V.out.bo
  have HBO:=Lib.hid hbo
  have HOR:=Lib.hid hor
  obtain ⟨x0,x1,x2,x3⟩:=box4 X.out
  have hgl:=heap_lt X.out
  have b0:=cell_of_row W Sb 0 _ _ _ V.out.bs
  have b1:=cell_of_row W Ob 0 _ _ _ hbo
  have b2:=cell_of_row W Wb 0 _ _ _ V.out.bw
  have l0:=heap_lt V.out.bs
  have l1:=heap_lt hbo
  have l2:=heap_lt V.out.bw
  have hs0:=hvc.low.size
  have hfew:=V.out.few
  have hOb:Ob < w.heap.size:=by
   obtain ⟨_,_,hh,_⟩:=hvc.bo
   exact heap_lt hh
  obtain ⟨item,ii1,ii2,ii3,ii4⟩:=elInt8.hi
  clear hvc hx hok ih hA hbo hor hW
  cases hk1:(k == 1) with
  | true =>
   have hk:k=1:=by simpa using hk1
   have hk4:(k == 4)=false:=by rw [hk];rfl
   have hn0:=(OK.out.var hk).1
   have hn1:=(OK.out.var hk).2.1
   have EV:=Lib.hid (show varsT (.mk k n s m a)=[n] by unfold varsT;rw [if_pos hk])
   have RS:=V.out.asked hn0 hn1
   clear hk
   by_cases hmem:n ∈ acc
   ·have E:=Lib.hid (show addAll acc (varsT (.mk k n s m a))=acc by rw [EV.out];exact if_pos hmem)
    rw [decide_eq_true hmem] at RS
    clear hmem
    go_enter Tryz.func65,Tryz.ntmps65
    go_upto_region 1 with fail
    rw [← HW.out]
    go_wp2_with fail
    refine (targs_no hk4 _).mono ?_
    rintro e w6 ⟨rfl,h6⟩
    have V6:=Lib.hid (V.out.below h6)
    clear h6
    go_wp2_with fail
    go_loopw [6,28] (fun _ iv wr => iv=.int .i64 0∧wr=w6) (fun _ _ _ => 0)
    case atStart => exact ⟨rfl,rfl⟩
    case round =>
     obtain ⟨rfl,rfl⟩:=hrel
     go_wp2_with fail
     go_end0
     exact ⟨rfl,by rw [E.out];exact V6.out⟩
   ·have E:=Lib.hid (show addAll acc (varsT (.mk k n s m a))=acc++[n] by rw [EV.out];exact if_neg hmem)
    rw [decide_eq_false hmem] at RS
    have HM:=Lib.hid hmem
    obtain ⟨w1,hrun,him,hturn⟩:=V.out.mark hn0 hn1
    have HIM:=Lib.hid him
    have HT:=Lib.hid hturn
    have kT:∀ {b:Nat} {cs:Array Value} {ty:TypeId} {m:Nat × Nat},W.heap[b]? =some (.cells cs ty m)→w1.heap[b]? =some (.cells cs ty m):=fun {b cs ty m} hb => by
     refine (turned_block hturn b ?_).trans hb
     rintro rfl
     obtain ⟨es,cl,hmm⟩:=V.out.seen.is
     rw [hmm] at hb
     cases hb
    have X1:=kT X.out
    have HBO1:=kT HBO.out
    obtain ⟨z0,z1,z2,z3⟩:=box4 X1
    have y1:=cell_of_row w1 Ob 0 _ _ _ HBO1
    have hl1:=heap_lt HBO1
    have hglx:=heap_lt X1
    have HOR1:=Lib.hid (show ORow w1 w0.heap.size (.slice OA acc.length oc) acc from own_keep HOR.out fun b hb => by
     obtain ⟨cs,f,hh⟩:=Go.Lib.ownsRow_kind HOR.out b hb
     exact (kT hh).trans hh.symm)
    have HX1:=Lib.hid X1
    have HO1:=Lib.hid HBO1
    have hsz:=turned_size hturn
    have HSZ:=Lib.hid hsz
    have hWs:w0.heap.size≤W.heap.size:=V.out.low.size
    have hw1s:w0.heap.size≤w1.heap.size:=by omega
    clear him hturn kT X1 HBO1 hmem hsz
    go_enter Tryz.func65,Tryz.ntmps65
    go_upto_region 1 with fail
    rw [← HW.out]
    go_wp2_with (at_builtin;go_must (refine wpList_append_lies _ rfl _ _ _ rfl w0.heap.size 3 item (.int .i64 0) 1 8 Tryz.underlying24 ii1 ii2 ii3 ii4 rfl (by omega) _ acc.length _ rfl (own_below HOR1.out (belA (Below.refl _ _) _)) ⟨w1.heap.size,0,none⟩ 1 1 [.int .i64 n] rfl rfl (World.news_of_block (heap_alloc_new _ _)) ?_ (by omega) (by unfold maxLen;omega) (by omega) (by simp;omega) _ rfl ?_))
    ·first
     | rfl
     | (intro u hu
        simp only [List.mem_cons,List.not_mem_nil,or_false] at hu
        rcases hu with rfl
        rfl)
    intro g1 cap1 w3 hown3 hg3 hat3 hlt3
    have hw1a:=belA (Below.refl w1.heap.size w1) (Obj.cells #[.int .i64 n] 3)
    have O3:=grownFar (own_below HOR1.out hw1a) hg3 ((hw1a.block _ hl1).trans HO1.out) fun _ _ => cellsNe (by decide)
    have X3:=grownFar (own_below HOR1.out hw1a) hg3 ((hw1a.block _ hglx).trans HX1.out) fun _ _ => cellsNe (by decide)
    have of3:∀ j,w3.frozen? ⟨Ob,j,none⟩=false:=fun j => by simp [World.frozen?,O3]
    have oc3:=cell_of_row w3 Ob 0 _ _ _ O3
    have ol3:=heap_lt O3
    have VA:=Lib.hid (Vc.add V.out HBO.out HOR.out HM.out hn0 hn1 HIM.out HT.out _ hown3 hg3 rfl)
    obtain ⟨y0,y1',y2,y3⟩:=box4 ((Below.heap_setCell w3 ⟨Ob,0,none⟩ (.slice (some ⟨g1,0,none⟩) (acc.length+1) cap1) w.heap.size (Nat.ne_of_gt hOb)).trans X3)
    have hgX3:=heap_lt X3
    clear hown3 hg3 hat3 hlt3 hw1a O3 X3 hrun RS
    go_wp2_with fail
    refine (targs_no hk4 _).mono ?_
    rintro e w6 ⟨rfl,h6⟩
    have V6:=Lib.hid (VA.out.below h6)
    clear h6
    go_wp2_with fail
    go_loopw [6,28] (fun _ iv wr => iv=.int .i64 0∧wr=w6) (fun _ _ _ => 0)
    case atStart => exact ⟨rfl,rfl⟩
    case round =>
     obtain ⟨rfl,rfl⟩:=hrel
     go_wp2_with fail
     go_end0
     exact ⟨rfl,by rw [E.out];exact V6.out⟩
  | false =>
   have hk1n:¬ k=1:=by simpa using hk1
   cases hk4:(k == 4) with
   | false =>
    have E:=Lib.hid (show addAll acc (varsT (.mk k n s m a))=acc by unfold varsT;rw [if_neg hk1n,if_neg (by simpa using hk4)];rfl)
    clear hk1n
    go_enter Tryz.func65,Tryz.ntmps65
    go_upto_region 1 with fail
    rw [← HW.out]
    go_wp2_with fail
    refine (targs_no hk4 _).mono ?_
    rintro e w6 ⟨rfl,h6⟩
    have V6:=Lib.hid (V.out.below h6)
    clear h6
    go_wp2_with fail
    go_loopw [6,28] (fun _ iv wr => iv=.int .i64 0∧wr=w6) (fun _ _ _ => 0)
    case atStart => exact ⟨rfl,rfl⟩
    case round =>
     obtain ⟨rfl,rfl⟩:=hrel
     go_wp2_with fail
     go_end0
     exact ⟨rfl,by rw [E.out];exact V6.out⟩
   | true =>
    obtain ⟨ff,hff⟩:∃ ff:Nat→List Int,(fun i => varsT (a i))=ff:=⟨_,rfl⟩
    have FI:=Lib.hid (show ∀ i,varsT (a i)=ff i from fun i => by rw [← hff])
    have E:=Lib.hid (show addAll acc (varsT (.mk k n s m a))=foldVs m ff acc by
     rw [show k=4 by simpa using hk4,varsT_cmp,hff];exact foldVs_acc acc)
    clear hk1n hff
    go_enter Tryz.func65,Tryz.ntmps65
    go_upto_region 1 with fail
    rw [← HW.out]
    go_wp2_with fail
    refine (targs_yes hk4 _).mono ?_
    rintro e w6 ⟨rfl,h6⟩
    have V6:=Lib.hid (V.out.below h6)
    clear h6 x0 x1 x2 x3 b0 b1 b2
    go_wp2_with fail
    go_loopw [6,28] (fun _ iv wr => ∃ i:Nat,iv=.int .i64 (i:Int)∧i≤m∧Vc w0 wr Sb Ob Wb sb (foldVs i ff acc)) (fun _ iv _ => m - (intOf iv).toNat)
    case atStart => exact ⟨0,rfl,Nat.zero_le _,V6.out⟩
    case round =>
     clear V6
     obtain ⟨i,rfl,hi,hr⟩:=hrel
     have R:=Lib.hid hr
     have hl2:=heap_lt hr.bw
     have b2:=cell_of_row wr Wb 0 _ _ _ hr.bw
     clear hr
     by_cases him:i < m
     ·have him':(i:Int) < (m:Int):=by omega
      obtain ⟨b,cs,fz,rfl,hSb,hbb,hcell⟩:=HX.out (by omega)
      obtain ⟨v0,v1,v2,v3,c0,c1',c2,c3,ht'⟩:=hcell i him
      obtain ⟨k0',k1,k2,A0',m0',cc0,he⟩:=ht'.agg
      injection he with he
      simp only [Array.mk.injEq,List.cons.injEq,and_true] at he
      obtain ⟨rfl,rfl,rfl,rfl⟩:=he
      have hbw:=(R.out.low.block b (heap_lt hbb)).trans hbb
      have hbl:=heap_lt hbw
      have hrc:=fun (j:Nat) => cell_of_row wr b j _ _ _ hbw
      have d0:=(hrc (4*i)).trans c0
      have d1:=(hrc (4*i+1)).trans c1'
      have d2:=(hrc (4*i+2)).trans c2
      have d3:=(hrc (4*i+3)).trans c3
      rw [Nat.mul_comm 4 i] at d0 d1 d2 d3
      have CI:=IH.out i (OK.out.arg him) _ _ _ (R.out.below (belA (Below.refl _ _) (Obj.cells #[.int .i64 k0',.int .i64 k1,.string k2,.slice A0' m0' cc0] 51))) ht'
      rw [FI.out i] at CI
      have CI:=Lib.hid CI
      clear hrc c0 c1' c2 c3 ht' hcell hbb hbw
      unfold fnV at b2
      go_wp2_with fail
      refine CI.out.mono ?_
      rintro e w7 ⟨rfl,h7⟩
      have V7:=Lib.hid (show Vc w0 w7 Sb Ob Wb sb (foldVs (i+1) ff acc) from h7)
      clear h7 d0 d1 d2 d3 b2
      go_wp2_with fail
      go_roundw
      case rel => exact ⟨i+1,by go_num,him,V7.out⟩
      case measure => simp [intOf];omega
     ·obtain rfl:i=m:=by omega
      have him':¬ (i:Int) < (i:Int):=by omega
      go_wp2_with fail
      go_end0
      exact ⟨rfl,by rw [E.out];exact R.out⟩
set_option maxRecDepth 100000 in
set_option maxHeartbeats 4000000 in
theorem tvars_any {t:T} (hok:t.ok) {v:Value} {w:World} {S:Nat→Prop} (hv:TP w S t v) :
 Calls Tryz.prog 31 #[v] w fun e w' => VarsP t w e w':=by
 obtain ⟨k,n,s,A,m,c,rfl⟩:=hv.agg
 have HV:=Lib.hid (hv.more (S':=fun _ => True) fun _ _ => trivial)
 have MK:∀ W:World,(Instr.makeMap 155 none).run Tryz.prog W=.ok (.map (some W.heap.size)) (W.alloc (.map #[] 0)):=fun W => run_makeMap _ W
 obtain ⟨W5,hW5⟩:∃ W5,W5=(((w.alloc (Obj.cells #[.int .i64 k,.int .i64 n,.string s,.slice A m c] 51)).alloc (Obj.cells #[.slice none 0 0] 24)).alloc (Obj.map #[] 0)).alloc (Obj.cells #[.map (some (w.heap.size+1+1))] 155):=⟨_,rfl⟩
 have z5:W5.heap.size=w.heap.size+1+1+1+1:=by rw [hW5];simp
 have B5:Below w.heap.size w W5:=by rw [hW5];exact belA (belA (belA (belA (Below.refl _ _) _) _) _) _
 have g0:W5.heap[w.heap.size]? =some (.cells #[.int .i64 k,.int .i64 n,.string s,.slice A m c] 51 (0,0)):=by rw [hW5];exact (Below.heap_alloc _ _ _ (by simp;omega)).trans ((Below.heap_alloc _ _ _ (by simp;omega)).trans ((Below.heap_alloc _ _ _ (by simp)).trans (heap_alloc_new _ _)))
 have g1:W5.heap[w.heap.size+1]? =some (.cells #[.slice none 0 0] 24 (0,0)):=by rw [hW5];exact (Below.heap_alloc _ _ _ (by simp <;> omega)).trans ((Below.heap_alloc _ _ _ (by simp <;> omega)).trans ((congrArg _ (by simp)).trans (heap_alloc_new _ _)))
 have g3:W5.heap[w.heap.size+1+1+1]? =some (.cells #[.map (some (w.heap.size+1+1))] 155 (0,0)):=by rw [hW5];exact (congrArg _ (by simp)).trans (heap_alloc_new _ _)
 have gm:IM W5 (w.heap.size+1+1) 0 (fun _ => none):=by
  rw [hW5]
  have h:=(IM.made ((w.alloc (Obj.cells #[.int .i64 k,.int .i64 n,.string s,.slice A m c] 51)).alloc (Obj.cells #[.slice none 0 0] 24)))
  have e:((w.alloc (Obj.cells #[.int .i64 k,.int .i64 n,.string s,.slice A m c] 51)).alloc (Obj.cells #[.slice none 0 0] 24)).heap.size=w.heap.size+1+1:=by simp
  rw [e] at h
  exact h.keep (Below.heap_alloc _ _ _ (by simp))
 have SF:∀ (a:Addr) (cs:Array Value) (m:Mode) (W:World),(store a (.func (.func 65) #[] cs) m).run Tryz.prog W=stored Tryz.prog W a (.func (.func 65) #[] cs) m:=fun a cs m W => run_store _ W a _ m rfl
 have BW:=Lib.hid (belA (Below.refl W5.heap.size W5) (Obj.cells #[fnV (w.heap.size+1+1+1) (w.heap.size+1) W5.heap.size] 109))
 have V:=Lib.hid (show Vc w (W5.alloc (Obj.cells #[fnV (w.heap.size+1+1+1) (w.heap.size+1) W5.heap.size] 109)) (w.heap.size+1+1+1) (w.heap.size+1) W5.heap.size (w.heap.size+1+1) [] from
  ⟨(BW.out.block _ (heap_lt g3)).trans g3,heap_alloc_new _ _,⟨none,0,(BW.out.block _ (heap_lt g1)).trans g1,World.ownsRow_nil _ _ _ _⟩,(show (fun _ => none)=seenM [] by funext i;simp [seenM]) ▸ (gm.keep (BW.out.block _ gm.lt)),List.Pairwise.nil,fun _ h => absurd h List.not_mem_nil,B5.trans (BW.out.mono (by omega)),by omega,by omega⟩)
 have X5:=Lib.hid ((BW.out.block _ (heap_lt g0)).trans g0)
 have CV:=Lib.hid (vc_any t hok _ _ _ V.out HV.out)
 have HW5:=Lib.hid hW5
 have HZ:=Lib.hid z5
 have G0:=Lib.hid g0
 clear hv B5 g0 g1 g3 gm hW5 z5
 go_enter Tryz.func31,Tryz.ntmps31
 go_upto_region 3 with fail
 rw [← HW5.out]
 obtain ⟨t0,t1,t2,t3⟩:=box4 G0.out
 have ht5:=heap_lt G0.out
 have e9:w.heap.size+1+1+1+1=W5.heap.size:=HZ.out.symm
 go_wp2_with fail
 refine CV.out.mono ?_
 rintro e w7 ⟨rfl,h7⟩
 rw [addAll_nil varsT_nodup] at h7
 obtain ⟨OA,oc,h8,h9⟩:=h7.bo
 have o0:=cell_of_row w7 (w.heap.size+1) 0 _ _ _ h8
 have ol:=heap_lt h8
 have O9:=Lib.hid h9
 have B7:=Lib.hid h7.low
 clear h7 h8 h9
 go_wp2_with fail
 go_ret
 exact ⟨⟨OA,oc,rfl,O9.out⟩,B7.out⟩
end Go.Proofs.YtdgpmpccfjmmcaaGreatDoor
namespace Go.Proofs.YtdgpmpccfjmmcaaGreatDoor
open Go.RowKit
def PGoals (t:T) (S:Nat→Prop) (w:World) (e:Ending) (w':World):Prop:=
 (∃ (A:Option Addr) (m c:Nat),e=.returned (.tuple #[.slice A m c,.int .i64 (erW (wrongT t))])∧Hid (wrongT t=false→∃ (P:Nat→Prop) (qs:List Q6),TL w' w.heap.size S P (.slice A m c) (gatN t) qs))∧Below w.heap.size w w'
set_option maxRecDepth 100000 in
set_option maxHeartbeats 4000000 in
theorem pgoals_any {t:T} (hok:t.ok) {S:Nat→Prop} {v:Value} {w:World} (hN:∀ b,S b→b < w.heap.size) (hv:TP w S t v):Calls Tryz.prog 15 #[v] w fun e w' => PGoals t S w e w':=by
 obtain ⟨k,n,s,A,m,c,rfl⟩:=hv.agg
 have SF1:∀ (a:Addr) (cs:Array Value) (m:Mode) (W:World),(store a (.func (.func 37) #[] cs) m).run Tryz.prog W=stored Tryz.prog W a (.func (.func 37) #[] cs) m:=fun a cs m W => run_store _ W a _ m rfl
 have SF2:∀ (a:Addr) (cs:Array Value) (m:Mode) (W:World),(store a (.func (.func 38) #[] cs) m).run Tryz.prog W=stored Tryz.prog W a (.func (.func 38) #[] cs) m:=fun a cs m W => run_store _ W a _ m rfl
 have HV:=Lib.hid hv
 have HOK:=Lib.hid hok
 obtain ⟨W0,hW0⟩:∃ W0,W0=((((w.alloc (Obj.cells #[.int .i64 k,.int .i64 n,.string s,.slice A m c] 51)).alloc (Obj.cells #[.slice none 0 0] 47)).alloc (Obj.cells #[.bool false] 4)).alloc (Obj.cells #[fnK (w.heap.size+1+1) (w.heap.size+1+1+1)] 109)).alloc (Obj.cells #[fnH (w.heap.size+1+1+1+1) (w.heap.size+1)] 109):=⟨_,rfl⟩
 have st:∀ (u:World) (o o':Obj) (g:Nat),u.heap[g]? =some o'→(u.alloc o).heap[g]? =some o':=fun u o o' g h => (Below.heap_alloc _ _ _ (heap_lt h)).trans h
 have nw:∀ (u:World) (o:Obj) (g:Nat),g=u.heap.size→(u.alloc o).heap[g]? =some o:=fun u o g h => heap_at u o h
 have BX:=Lib.hid (show Below w.heap.size w W0 by rw [hW0];exact belA (belA (belA (belA (belA (Below.refl _ _) _) _) _) _) _)
 have X0:=Lib.hid (show W0.heap[w.heap.size]? =some (.cells #[.int .i64 k,.int .i64 n,.string s,.slice A m c] 51 (0,0)) by rw [hW0];exact st _ _ _ _ (st _ _ _ _ (st _ _ _ _ (st _ _ _ _ (nw _ _ _ rfl)))))
 have CK:=Lib.hid (show Ck W0 (w.heap.size+1+1) (w.heap.size+1+1+1) false by
  rw [hW0]
  exact ⟨st _ _ _ _ (st _ _ _ _ (nw _ _ _ (by simp))),st _ _ _ _ (nw _ _ _ (by simp))⟩)
 have hF0:W0.heap[w.heap.size+1+1+1+1]? =some (.cells #[fnH (w.heap.size+1+1+1+1) (w.heap.size+1)] 109 (0,0)):=by rw [hW0];exact nw _ _ _ (by simp)
 have hO0:W0.heap[w.heap.size+1]? =some (.cells #[.slice none 0 0] 47 (0,0)):=by rw [hW0];exact st _ _ _ _ (st _ _ _ _ (st _ _ _ _ (nw _ _ _ (by simp))))
 have H0:=Lib.hid (And.intro hF0 hO0)
 have HW0:=Lib.hid hW0
 have hsz0:W0.heap.size=w.heap.size+5:=by rw [hW0];simp
 have HSZ:=Lib.hid hsz0
 have CC:=Lib.hid (pcheck_any t hok (w.heap.size+1+1) (w.heap.size+1+1+1) w.heap.size false S _ W0 hN (by omega) (by omega) CK.out (hv.below BX.out))
 obtain ⟨wv,hwv⟩:∃ wv,wrongT t=wv:=⟨_,rfl⟩
 have HWV:=Lib.hid hwv
 have HN:=Lib.hid hN
 unfold PGoals
 clear hv hok hW0 st nw hF0 hO0 hsz0 CK hwv hN
 go_enter Tryz.func15,Tryz.ntmps15
 go_wp2_with fail
 have hW:=HW0.out
 unfold fnK fnH at hW
 rw [← hW]
 clear hW
 refine CC.out.mono ?_
 rintro e w1 ⟨rfl,⟨cw,hck,HCW⟩,hke⟩
 have hcw:cw=wv:=by rw [HCW.out,HWV.out];rfl
 subst hcw
 have KE:=Lib.hid hke
 have B1:=Lib.hid (BX.out.trans hke.low)
 have hk1:=hke.low.size
 have X1:=Lib.hid ((hke.keep w.heap.size (heap_lt X0.out) (by omega)).trans X0.out)
 have G1:=Lib.hid (show Gb w1 (w.heap.size+1+1+1+1) (w.heap.size+1) w.heap.size S (fun _ => False) none 0 0 [] [] from ⟨(hke.keep _ (heap_lt H0.out.1) (by omega)).trans H0.out.1,(hke.keep _ (heap_lt H0.out.2) (by omega)).trans H0.out.2,TL.empty (World.ownsRow_nil _ _ _ _) HN.out⟩)
 have cw0:=cell_of_row w1 (w.heap.size+1+1) 0 _ _ _ hck.bw
 have lw0:=heap_lt hck.bw
 have HL:=Lib.hid (show w.heap.size+5≤w1.heap.size by have:=heap_lt hck.bw;have:=heap_lt G1.out.bf;omega)
 clear hck hke CC hk1
 cases cw with
 | true =>
  go_wp2_with fail
  go_ret2
  exact ⟨⟨none,0,0,by rw [HWV.out];rfl,Lib.hid fun h => by rw [HWV.out] at h;cases h⟩,B1.out⟩
 | false =>
  have CG:=Lib.hid (gath_any t HOK.out (w.heap.size+1+1+1+1) (w.heap.size+1) w.heap.size S (fun _ => False) none 0 0 [] [] _ w1 (by have:=HL.out;omega) (by omega) (by have:=HOK.out.2;simp;omega) G1.out (HV.out.below B1.out))
  have cf0:=cell_of_row w1 (w.heap.size+1+1+1+1) 0 _ _ _ G1.out.bf
  have lf0:=heap_lt G1.out.bf
  have lx0:=heap_lt X1.out
  obtain ⟨x0,x1,x2,x3⟩:=box4t X1.out
  unfold fnH at cf0
  go_wp2_with fail
  refine CG.out.mono ?_
  rintro e w2 ⟨rfl,P2,A2,m2,c2,qs2,hg2,hk2⟩
  have G2:=Lib.hid hg2
  have B2:=Lib.hid (B1.out.trans hk2.low)
  have co0:=cell_of_row w2 (w.heap.size+1) 0 _ _ _ hg2.bo
  have lo0:=heap_lt hg2.bo
  clear hg2 hk2 CG cf0 lf0 lx0 x0 x1 x2 x3 cw0 lw0
  go_wp2_with fail
  go_ret2
  exact ⟨⟨A2,m2,c2,by rw [HWV.out];rfl,Lib.hid fun _ => ⟨P2,qs2,G2.out.tl⟩⟩,B2.out⟩
end Go.Proofs.YtdgpmpccfjmmcaaGreatDoor
namespace Go.Proofs.YtdgpmpccfjmmcaaGreatDoor
section
variable {α:Type} {gl:GoalM} {ans:Ms→Option α} {pr:List Cl0} {lim:Lim0}
def rdM (gl:GoalM) (ans:Ms→Option α) (pr:List Cl0) (lim:Lim0) (S:Ms) (nx:Nx) (outs:List α):Option (Oc × List α):=match nx with
 | .step => if S.fr.isEmpty then (ans S).map fun t => (.fail S,outs++[t]) else (stepM gl lim S).map fun o => (o,outs)
 | .more g rest bar => (tryM pr S g rest bar).map fun o => (o,outs)
 | .caught _ => none
def BehindM (gl:GoalM) (ans:Ms→Option α) (pr:List Cl0) (lim:Lim0) (f:Nat) (ro:Ro α) (outs:List α):Oc→Prop
 | .go S' => runM gl ans pr lim f S' .step outs=some ro
 | .fail S' => ∃ r,backM S'=some r∧match r with
  | none => ro.outs=outs
  | some x => runM gl ans pr lim f x.1 x.2 outs=some ro
 | _ => False
def En.isNo:En→Bool
 | .no => true
 | _ => false
theorem run_open {f:Nat} {S:Ms} {nx:Nx} {outs:List α} {ro:Ro α} (h:runM gl ans pr lim (f+1) S nx outs=some ro) (he:ro.en.isNo=true):(S.M.length≤100000∧S.ch.length≤100000∧S.fr.length≤100000)∧
 ∃ o outs',rdM gl ans pr lim S nx outs=some (o,outs')∧(S.fr=[]→nx=.step→outs.length+1≠lim.answers)∧BehindM gl ans pr lim f ro outs' o:=by
 unfold runM at h
 simp only at h
 split at h
 ·cases h
 rename_i hk
 simp at hk
 refine ⟨⟨hk.1.1,hk.1.2,hk.2⟩,?_⟩
 have after:∀ (o:Option Oc),(match o with
  | none => none
  | some (.go S') => runM gl ans pr lim f S' .step outs
  | some (.fail S') => (match backM S' with
   | none => none
   | some none => some ⟨outs,.no,S'.steps⟩
   | some (some (S',nx')) => runM gl ans pr lim f S' nx' outs)
  | some (.ball S' t) => runM gl ans pr lim f S' (.caught t) outs
  | some (.out S' k) => some ⟨outs,.kind k,S'.steps⟩)=some ro→∃ o',o=some o'∧BehindM gl ans pr lim f ro outs o':=by
  intro o h
  rcases o with _ | o
  ·cases h
  refine ⟨o,rfl,?_⟩
  cases o with
  | go S' => exact h
  | fail S' =>
   simp only at h
   cases hb:backM S' with
   | none => rw [hb] at h;cases h
   | some r =>
    rw [hb] at h
    refine ⟨r,hb,?_⟩
    rcases r with _ | ⟨S2,nx2⟩
    ·injection h with h;subst h;rfl
    ·exact h
  | ball S' t =>
   exfalso
   simp only at h
   cases f with
   | zero => cases h
   | succ f =>
    unfold runM at h
    simp only at h
    split at h
    ·cases h
    ·injection h with h
     subst h
     cases he
  | out S' k => injection h with h;subst h;cases he
 cases nx with
 | step =>
  simp only at h
  by_cases hf:S.fr.isEmpty=true
  ·rw [if_pos hf] at h
   cases ha:ans S with
   | none => rw [ha] at h;cases h
   | some t =>
    rw [ha] at h
    simp only at h
    split at h
    ·injection h with h;subst h;cases he
    rename_i hn
    refine ⟨.fail S,outs++[t],by simp [rdM,hf,ha],fun _ _ => hn,?_⟩
    cases hb:backM S with
    | none => rw [hb] at h;cases h
    | some r =>
     rw [hb] at h
     refine ⟨r,hb,?_⟩
     rcases r with _ | ⟨S2,nx2⟩
     ·injection h with h;subst h;rfl
     ·exact h
  ·rw [if_neg hf] at h
   obtain ⟨o,ho,hb⟩:=after _ h
   exact ⟨o,outs,by simp [rdM,hf,ho],fun e => absurd (by simp [e]) hf,hb⟩
 | more g rest bar =>
  obtain ⟨o,ho,hb⟩:=after _ h
  exact ⟨o,outs,by simp [rdM,ho],fun _ e => (by cases e),hb⟩
 | caught t => injection h with h;subst h;cases he
end
end Go.Proofs.YtdgpmpccfjmmcaaGreatDoor
namespace Go.Proofs.YtdgpmpccfjmmcaaGreatDoor
open Go.RowKit
def endV:Bool→Value
 | true => .nilIface
 | false => .iface 130 (.agg #[])
theorem acatch_idle (p:Nat) (w:World) (v:Value) (hp:w.cell? ⟨p,0,none⟩=some v) (fp:w.frozen? ⟨p,0,none⟩=false) :
 CallsD Tryz.prog 44 #[.pointer (some ⟨p,0,none⟩)] .returning w fun e u' w' => e=.returned (.tuple #[])∧u'=.returning∧w'=w.setCell ⟨p,0,none⟩ .nilIface:=by
 refine callsD_of_wpS Tryz.func44 rfl fun c₀ cs hu => ?_
 apply wpS_region
 simp [wpOpsS,go_sem,recoverD,hu,Tryz.ntmps44,hp,fp]
 cases c₀
 simp_all [bodyPostS,results,Tryz.results44]
theorem acatch_panicking (p:Nat) (w:World) (v:Value) (older:List PanicEntry) (hp:w.cell? ⟨p,0,none⟩=some v) (fp:w.frozen? ⟨p,0,none⟩=false) :
 CallsD Tryz.prog 44 #[.pointer (some ⟨p,0,none⟩)] (.panicking (failP ::older)) w fun e u' w' =>
  e=.returned (.tuple #[])∧u'=.panicking ({v:=endV false,recovered:=true} ::older)∧w'=w.setCell ⟨p,0,none⟩ (endV false):=by
 unfold failP endV
 refine callsD_of_wpS Tryz.func44 rfl fun c₀ cs hu => ?_
 apply wpS_region
 simp [wpOpsS,go_sem,recoverD,hu,Tryz.ntmps44,hp,fp]
 simp_all [bodyPostS,results,Tryz.results44]
def AttQ (Q:Bool→World→Prop) (w:World) (e:Ending) (w':World):Prop:=∃ (b:Bool) (w2:World),Q b w2∧e=.returned (endV b)∧w'.heap[w.heap.size]? =some (Obj.cells #[endV b] 20 (0,0))∧Below w.heap.size w2 w'∧∀ k,k≠w.heap.size→w'.heap[k]? =w2.heap[k]?
set_option maxRecDepth 100000 in
theorem attempt_any {F:Nat} {caps:Array Value} {w:World} {Q:Bool→World→Prop} (hen:∀ (args:Array Value) (W:World),Sem.run Tryz.prog (callFunc F args) W=.ok (.enter F args) W)
 (hC:Calls Tryz.prog F caps (w.alloc (Obj.cells #[.nilIface] 20)) fun e w' => ∃ b:Bool,e=(if b then .returned (.tuple #[]) else .panicked [failP])∧Q b w'∧w'.heap[w.heap.size]? =some (Obj.cells #[.nilIface] 20 (0,0))) :
 Calls Tryz.prog 24 #[.func (.func F) #[] caps] w fun e w' => AttQ Q w e w':=by
 have hmf:∀ (fn:Fn) (first cap:Array Value) (w:World),(Instr.makeFunc fn first cap).run Tryz.prog w=.ok (.func fn first cap) w:=fun _ _ _ _ => rfl
 go_enter_defers Tryz.func24,Tryz.ntmps24
 go_wp2_with fail
 refine hC.mono ?_
 rintro e w2 ⟨b,rfl,hq,hx⟩
 have HQ:=Lib.hid hq
 have HX:=Lib.hid hx
 have x0:=cell_of_row _ _ 0 _ _ _ hx
 have f0:w2.frozen? ⟨w.heap.size,0,none⟩=false:=by simp [World.frozen?,hx]
 clear hq hx hC
 have hlt:=heap_lt HX.out
 cases b with
 | true =>
  simp only [if_true]
  go_wp2_with fail
  show Leaves _ _ _ _ _ _ _
  refine leaves_cons (f:=44) (args:=#[.pointer (some ⟨w.heap.size,0,none⟩)]) (by simp) (by simp [go_sem]) ?_
  have X1:=blk_set HX.out 0 .nilIface
  refine (acatch_idle w.heap.size _ .nilIface (by have:=cell_of_row _ _ 0 _ _ _ X1;simpa using this) (by simp [World.frozen?,X1])).mono ?_
  rintro e u' w'' ⟨rfl,rfl,rfl⟩
  have X2:=blk_set X1 0 .nilIface
  have x2:=cell_of_row _ _ 0 _ _ _ X2
  simp at x2
  simp [Leaves,settle,results,Tryz.results24,go_sem,x2]
  exact ⟨true,w2,HQ.out,rfl,by simpa [endV] using X2,((Below.refl _ _).setCell (p:=⟨w.heap.size,0,none⟩) (Nat.le_refl _) _).setCell (p:=⟨w.heap.size,0,none⟩) (Nat.le_refl _) _,fun k hk => (Below.heap_setCell _ _ _ k hk).trans (Below.heap_setCell _ _ _ k hk)⟩
 | false =>
  simp only [Bool.false_eq_true,if_false]
  go_wp2_with fail
  show Leaves _ _ _ _ _ _ _
  refine leaves_cons (f:=44) (args:=#[.pointer (some ⟨w.heap.size,0,none⟩)]) (by simp) (by simp [go_sem]) ?_
  refine (acatch_panicking w.heap.size _ .nilIface [] x0 f0).mono ?_
  rintro e u' w'' ⟨rfl,rfl,rfl⟩
  have X2:=blk_set HX.out 0 (endV false)
  have x2:=cell_of_row _ _ 0 _ _ _ X2
  simp at x2
  simp [Leaves,settle,results,Tryz.results24,go_sem,x2]
  exact ⟨false,w2,HQ.out,rfl,by simpa using X2,(Below.refl _ _).setCell (p:=⟨w.heap.size,0,none⟩) (Nat.le_refl _) _,fun k hk => Below.heap_setCell _ _ _ k hk⟩
end Go.Proofs.YtdgpmpccfjmmcaaGreatDoor
namespace Go.Proofs.YtdgpmpccfjmmcaaGreatDoor
def atomP:P→Bool
 | .i _ => true
 | .a _ => true
 | _ => false
def insP:P→Ins
 | .i n => ⟨4,n,⟨#[]⟩⟩
 | .a s => ⟨5,0,ba s⟩
 | _ => ⟨0,0,⟨#[]⟩⟩
def factI (s:List UInt8) (a b:P):List Ins:=[⟨1,0,⟨#[]⟩⟩,⟨6,2,ba s⟩,insP a,insP b,⟨8,0,⟨#[]⟩⟩]
theorem code_atom {p:P} (h:atomP p=true) (vs:List Int):codeT p.t vs=([insP p],vs):=by
 cases p with
 | v n => simp [atomP] at h
 | c s l => simp [atomP] at h
 | i n => simp [P.t,codeT,insP]
 | a s => simp [P.t,codeT,insP]
theorem enc_fact {s:List UInt8} {a b:P} (ha:atomP a=true) (hb:atomP b=true):encN (P.c s [a,b]).t []=factI s a b:=by
 have e0:tsP [a,b] 0=a.t:=by simp only [tsP]
 have e1:tsP [a,b] 1=b.t:=by simp only [tsP]
 have hc:codeT (P.c s [a,b]).t []=([⟨6,2,ba s⟩,insP a,insP b],[]):=by
  rw [P.t]
  simp [codeT,foldC,e0,e1,code_atom ha,code_atom hb]
 simp [encN,codeG,hc,factI]
theorem build_atom {p:P} (h:atomP p=true) (l:List Ins) (base f k:Nat) (hk:l[k]? =some (insP p)):buildI l base (f+1) k=some (shiftP base p,k+1):=by
 cases p with
 | v n => simp [atomP] at h
 | c s l => simp [atomP] at h
 | i n => simp [buildI,hk,insP,shiftP,mapP]
 | a s => simp [buildI,hk,insP,shiftP,mapP,ba]
theorem build_fact {s:List UInt8} {a b:P} (ha:atomP a=true) (hb:atomP b=true) (base:Nat):∃ f a2,buildI (factI s a b) base f 1=some (shiftP base (.c s [a,b]),a2):=by
 refine ⟨2,4,?_⟩
 have h2:=build_atom ha (factI s a b) base 0 2 rfl
 have h3:=build_atom hb (factI s a b) base 0 3 rfl
 have h1:(factI s a b)[1]? =some ⟨6,2,ba s⟩:=rfl
 rw [buildI,h1]
 simp [argsI,h2,h3,shiftP,mapP,mapPs,ba]
theorem fact_no7 {s:List UInt8} {a b:P} (ha:atomP a=true) (hb:atomP b=true):∀ x ∈ factI s a b,x.o≠7:=by
 intro x hx
 have h7:∀ {p:P},atomP p=true→(insP p).o≠7:=fun {p} h => by cases p <;> simp_all [atomP,insP]
 simp only [factI,List.mem_cons,List.not_mem_nil,or_false] at hx
 rcases hx with rfl | rfl | rfl | rfl | rfl
 ·decide
 ·show (6:Int)≠7
  decide
 ·exact h7 ha
 ·exact h7 hb
 ·decide
end Go.Proofs.YtdgpmpccfjmmcaaGreatDoor
