/- Control constructs:norm's. Control constructs:the reference's. Control constructs:both packages' words are the plain one's. Goals that may be called:the reference's callable,exactly. Bits on rows of integers and on terms' arguments. Maps from integers to values,as the call itself made them:what is at a key,by a function. What the walks over terms and bindings share:what a call leaves alone,a term's arguments,the map of what was gone into. The variables of a term,each once,by where they come first:plain. Instructions of a clause,plain:what both coders lay down;how its slots are numbered. Instructions read back,plain:what both decoders read;a clause's own instructions are read back as the clause with its variables numbered. The walks through coneyref07.has,Vars;coneyref10.Name,Is. Rows of terms of one's own. The walks through coneyref10:Control,callable:they come to an end,with some answer. The walks through coneyref10:gather:a row of terms of one's own. Goals of the reference,exactly in its error;its reserved names. -/
import Derived.Test.YtdgpmpccfjmmcaaGreatDoorKJAf
import Derived.Test.YtdgpmpccfjmmcaaGreatDoorKJAc
import Derived.Deep.QuietTactic
import Derived.BigQuiet
import Derived.Test.YtdgpmpccfjmmcaaGreatDoorKJAa
import Derived.WalkKit
import Derived.Lib.Hide
import Derived.Below
import Derived.Maps.Own
import Derived.Maps.OwnSet
import Derived.Maps.Views
import Derived.Deep.RegionLaw
import Derived.Deep.RegionHeld3
import Derived.Test.YtdgpmpccfjmmcaaGreatDoorKJAe
import Derived.Lib.OwnKind
import Derived.Maps.AppendAt
set_option linter.unusedVariables false
set_option linter.unusedSimpArgs false
namespace Go.Proofs.YtdgpmpccfjmmcaaGreatDoor
open Go.RowKit
def ctlL (l:List UInt8) (m:Int):Bool:=if l == [44] || l == [59] || l == [45,62] then m == 2 else if l == [92,43] then m == 1 else if l == [33] then m == 0 else false
def ctlV (k:Int) (s:ByteArray) (m:Nat):Bool:=if k=3 then ctlL s.toList 0 else if k=4 then ctlL s.toList m else false
set_option maxRecDepth 100000 in
set_option maxHeartbeats 4000000 in
theorem pcontrol_any (k n:Int) (s:ByteArray) (A:Option Addr) (m c:Nat) (w:World):Calls Tryz.prog 35 #[.agg #[.int .i64 k,.int .i64 n,.string s,.slice A m c]] w fun e w' => e=.returned (.bool (ctlV k s m))∧Below w.heap.size w w':=by
 have BX:=Lib.hid ((Below.refl w.heap.size w).alloc (Nat.le_refl _) (Obj.cells #[.int .i64 k,.int .i64 n,.string s,.slice A m c] 51))
 have main:∀ (z:ByteArray) (q:Int) (b:Bool),nameV k s m=.tuple #[.string z,.int .i64 q,.bool b]→ctlV k s m=ctlL z.toList q→Calls Tryz.prog 35 #[.agg #[.int .i64 k,.int .i64 n,.string s,.slice A m c]] w fun e w' => e=.returned (.bool (ctlV k s m))∧Below w.heap.size w w':=by
  intro z q b he hv
  rw [hv]
  have CN:=Lib.hid (fun W => pname_any k n s A m c W)
  rw [he] at CN
  unfold ctlL
  clear he hv
  go_enter Tryz.func35,Tryz.ntmps35
  go_wp2_with fail
  refine (CN.out _).mono ?_
  rintro e w1 ⟨rfl,hb⟩
  have B1:=Lib.hid (BX.out.trans (hb.mono BX.out.size))
  clear hb CN
  go_wp2_with fail
  all_goals
   go_ret
   exact ⟨by simp_all,B1.out⟩
 by_cases h3:k=3
 ·subst h3
  exact main s 0 true rfl rfl
 ·by_cases h4:k=4
  ·subst h4
   exact main s m true rfl rfl
  ·exact main ⟨#[]⟩ 0 false (by unfold nameV;rw [if_neg h3,if_neg h4]) (by unfold ctlV;rw [if_neg h3,if_neg h4,show (⟨#[]⟩:ByteArray).toList=[] from by rw [ByteArray.toList_eq]];rfl)
end Go.Proofs.YtdgpmpccfjmmcaaGreatDoor
namespace Go.Proofs.YtdgpmpccfjmmcaaGreatDoor
open Go.RowKit
def isV (z:ByteArray) (q:Int) (b:Bool) (nm:ByteArray) (x:Int):Bool:=b && (z.toList == nm.toList) && (q == x)
end Go.Proofs.YtdgpmpccfjmmcaaGreatDoor
namespace Go.Proofs.YtdgpmpccfjmmcaaGreatDoor
open Go.RowKit
theorem nm_list (l:List UInt8):(ba l).toList=l:=by rw [ByteArray.toList_eq];exact ba_data l
theorem nameV_cases (k:Int) (s:ByteArray) (m:Nat):∃ (z:ByteArray) (q:Nat) (b:Bool),nameV k s m=.tuple #[.string z,.int .i64 (q:Int),.bool b]∧((b=true∧z=s∧(k=3∧q=0∨k=4∧q=m))∨(b=false∧k≠3∧k≠4∧z=⟨#[]⟩∧q=0)):=by
 unfold nameV
 by_cases h3:k=3
 ·rw [if_pos h3]
  exact ⟨s,0,true,rfl,.inl ⟨rfl,rfl,.inl ⟨h3,rfl⟩⟩⟩
 ·rw [if_neg h3]
  by_cases h4:k=4
  ·rw [if_pos h4]
   exact ⟨s,m,true,rfl,.inl ⟨rfl,rfl,.inr ⟨h4,rfl⟩⟩⟩
  ·rw [if_neg h4]
   exact ⟨⟨#[]⟩,0,false,rfl,.inr ⟨rfl,h3,h4,rfl,rfl⟩⟩
theorem isN_is {k n:Int} {s:ByteArray} {m:Nat} {a:Nat→T} {z:ByteArray} {q:Nat} {b:Bool} (h:(b=true∧z=s∧(k=3∧q=0∨k=4∧q=m))∨(b=false∧k≠3∧k≠4∧z=⟨#[]⟩∧q=0)) (l:List UInt8) (x:Nat) :
 isN (.mk k n s m a) l x=isV z q b (ba l) x:=by
 unfold isN isV nameT
 rw [nm_list]
 have key:∀ y:Nat,(some (s.data.toList,y) == some (l,x))=(true && (s.toList == l) && ((y:Int) == (x:Int))):=fun y => by
  rw [ByteArray.toList_eq]
  apply Bool.eq_iff_iff.2
  simp
  exact fun _ => ⟨fun e => by rw [e],fun e => by exact_mod_cast e⟩
 rcases h with ⟨rfl,rfl,⟨rfl,rfl⟩ | ⟨rfl,rfl⟩⟩ | ⟨rfl,h3,h4,rfl,rfl⟩
 ·dsimp only
  rw [if_pos rfl]
  exact key 0
 ·dsimp only
  rw [if_neg (by decide),if_pos rfl]
  exact key q
 ·dsimp only
  rw [if_neg h3,if_neg h4]
  rfl
end Go.Proofs.YtdgpmpccfjmmcaaGreatDoor
namespace Go.Proofs.YtdgpmpccfjmmcaaGreatDoor
open Go.RowKit
end Go.Proofs.YtdgpmpccfjmmcaaGreatDoor
namespace Go.Proofs.YtdgpmpccfjmmcaaGreatDoor
open Go.RowKit
theorem nodup_few:∀ (n:Nat) (l:List Int),l.Nodup→(∀ i ∈ l,0≤i∧i < (n:Int))→l.length≤n:=by
 intro n
 induction n with
 | zero =>
  intro l _ h
  cases l with
  | nil => simp
  | cons a l => have:=h a List.mem_cons_self;omega
 | succ n ih =>
  intro l hl h
  have h1:=ih (l.erase (n:Int)) (hl.erase _) fun i hi => by
   have h2:=h i (List.mem_of_mem_erase hi)
   have h3:i≠(n:Int):=fun e => by rw [e] at hi;exact (hl.not_mem_erase hi)
   omega
  have:=List.length_erase (a:=(n:Int)) (l:=l)
  split at this <;> omega
theorem belA {w w1:World} (h:Below w.heap.size w w1) (o:Obj):Below w.heap.size w (w1.alloc o):=h.alloc h.size o
theorem bel_drewN {B:Nat} {w w1:World} (h:Below B w w1) (n:Nat):Below B w (w1.drewN n):=⟨h.os,h.tape,h.output,h.size,h.block⟩
theorem Tryz.info_int8:(Tryz.prog.info? 3).map (fun i => (i.zero,i.size,i.bytes))=some (some (.int .i64 0),1,8):=by kernel_rfl
theorem elInt8:El Tryz.prog 24 3 (.int .i64 0) 1 8:=by
 obtain ⟨i0,hi,hz0,hz1,hz2⟩:=info_parts Tryz.info_int8
 exact ⟨Tryz.underlying24,⟨i0,hi,hz0,hz1,hz2⟩,rfl,by omega⟩
def IRow (w:World) (v:Value) (ns:List Int):Prop:=w.ownsRow 0 3 1 v ns.length (ns.map (Value.int .i64))
theorem IRow.below {w w':World} {v:Value} {ns:List Int} (h:IRow w v ns) (hb:Below w.heap.size w w'):IRow w' v ns:=own_below h hb
theorem IRow.nil (w:World):IRow w (.slice none 0 0) []:=World.ownsRow_nil _ _ _ _
theorem IRow.open_ {w:World} {v:Value} {ns:List Int} (h:IRow w v ns):∃ A c,v=.slice A ns.length c∧ns.length≤c∧(A=none→c=0)∧∀ i x,ns[i]? =some x→∃ g,A=some ⟨g,0,none⟩∧g < w.heap.size∧w.cell? ⟨g,i,none⟩=some (.int .i64 x):=by
 obtain ⟨A,c,e,h1,h2,_,h3⟩:=own_open h
 refine ⟨A,c,e,h1,h2,fun i x hx => ?_⟩
 have hi:i < ns.length:=by
  rcases Nat.lt_or_ge i ns.length with h | h
  ·exact h
  ·rw [List.getElem?_eq_none h] at hx;cases hx
 obtain ⟨g,cur,rfl,_,hh,hc⟩:=h3 (by omega)
 exact ⟨g,rfl,heap_lt hh,(cell_of_row w g i _ _ _ hh).trans ((hc i (by omega)).trans (by simp [hx]))⟩
theorem TP.args {w:World} {S:Nat→Prop} {k n:Int} {s:ByteArray} {m:Nat} {a:Nat→T} {v0 v1 v2:Value} {A:Option Addr} {m' c:Nat} (h:TP w S (.mk k n s m a) (.agg #[v0,v1,v2,.slice A m' c])) :
 v0=.int .i64 k∧v1=.int .i64 n∧v2=.string s∧m'=m∧m≤c∧(A=none→c=0)∧∀ i,i < m→∃ (b:Nat) (k0 k1:Int) (k2:ByteArray) (A0:Option Addr) (m0 c0:Nat),A=some ⟨b,0,none⟩∧S b∧b < w.heap.size∧w.cell? ⟨b,i*4,none⟩=some (.int .i64 k0)∧w.cell? ⟨b,i*4+1,none⟩=some (.int .i64 k1)∧
  w.cell? ⟨b,i*4+2,none⟩=some (.string k2)∧w.cell? ⟨b,i*4+3,none⟩=some (.slice A0 m0 c0)∧TP w S (a i) (.agg #[.int .i64 k0,.int .i64 k1,.string k2,.slice A0 m0 c0]):=by
 obtain ⟨A',c',e,hmc,hA,hx⟩:=h
 injection e with e
 simp only [Array.mk.injEq,List.cons.injEq,and_true] at e
 obtain ⟨rfl,rfl,rfl,e⟩:=e
 injection e with e1 e2 e3
 subst e1;subst e2;subst e3
 refine ⟨rfl,rfl,rfl,rfl,hmc,hA,fun i hi => ?_⟩
 obtain ⟨b,cs,f,rfl,hS,hb,hc⟩:=hx (by omega)
 obtain ⟨v0,v1,v2,v3,c0,c1,c2,c3,ht⟩:=hc i hi
 obtain ⟨k0,k1,k2,A0,m0,c0',he⟩:=ht.agg
 injection he with he
 simp only [Array.mk.injEq,List.cons.injEq,and_true] at he
 obtain ⟨rfl,rfl,rfl,rfl⟩:=he
 have hr:=fun (j:Nat) => cell_of_row w b j _ _ _ hb
 rw [Nat.mul_comm 4 i] at c0 c1 c2 c3
 exact ⟨b,k0,k1,k2,A0,m0,c0',rfl,hS,heap_lt hb,(hr _).trans c0,(hr _).trans c1,(hr _).trans c2,(hr _).trans c3,ht⟩
end Go.Proofs.YtdgpmpccfjmmcaaGreatDoor
namespace Go.Proofs.YtdgpmpccfjmmcaaGreatDoor
open Go.RowKit
theorem intKeyed:Go.Maps.Keyed Tryz.prog 3 :=Go.Maps.int_keyed Tryz.underlying3
theorem keyInt {i:Int} (h:I64 i):keyOf Tryz.prog 3 (.int .i64 i)=some (.int .i64 i):=by
 have h1:(IntKind.i64.min≤i):=h.1
 have h2:(i≤IntKind.i64.max):=h.2
 exact Go.Maps.keyOf_int_mk Tryz.underlying3 (by simp only [Lit.wf,decide_eq_true h1,decide_eq_true h2,Bool.and_self])
def heldV (v:Value):Option (DataW Value × List MemPlace):=some (.held v,[])
def IM (w:World) (b n:Nat) (M:Int→Option Value):Prop:=
 ∃ D:DataW Value,w.ownsMap Tryz.prog 3 heldV b n D∧∀ i:Int,I64 i→Maps.has D (.int .i64 i)=(M i).isSome∧∀ v,M i=some v→∀ z,D.atKey (.int .i64 i) z=.held v
theorem IM.made (w:World):IM (w.alloc (.map #[] 0)) w.heap.size 0 (fun _ => none):=
 ⟨.map [],World.ownsMap_made w _ _ _,fun i _ => ⟨rfl,fun v h => by cases h⟩⟩
theorem IM.keep {w w':World} {b n:Nat} {M:Int→Option Value} (h:IM w b n M) (hb:w'.heap[b]? =w.heap[b]?):IM w' b n M:=by
 obtain ⟨D,⟨es,clock,hh,r⟩,hM⟩:=h
 exact ⟨D,⟨es,clock,hb.trans hh,r⟩,hM⟩
theorem IM.lt {w:World} {b n:Nat} {M:Int→Option Value} (h:IM w b n M):b < w.heap.size:=by
 obtain ⟨D,h,_⟩:=h
 exact h.lt
theorem IM.look {w:World} {b n:Nat} {M:Int→Option Value} (h:IM w b n M) {t e:TypeId} (ht:Tryz.prog.underlying t=some (.map 3 e)) {z:Value} (hz:(zeroValue e).run Tryz.prog w=.ok z w) {i:Int} (hi:I64 i) :
 (Instr.lookup t (.map (some b)) (.int .i64 i) true).run Tryz.prog w=.ok (.tuple #[(M i).getD z,.bool (M i).isSome]) w:=by
 obtain ⟨D,h,hM⟩:=h
 obtain ⟨v,ps,hrun,hv⟩:=h.look_ok intKeyed ht hz (zd:=.held z) (zp:=[]) rfl (keyInt hi)
 obtain ⟨h1,h2⟩:=hM i hi
 rw [hrun,h1]
 have:v=(M i).getD z:=by
  have hv:DataW.held v=D.atKey (.int .i64 i) (.held z):=congrArg Prod.fst (Option.some.inj hv)
  cases hm:M i with
  | none =>
   rw [hm] at h1
   rw [Maps.atKey_of_not_has h1] at hv
   injection hv with hv
  | some u =>
   rw [h2 u hm] at hv
   injection hv with hv
 rw [this]
theorem IM.look1 {w:World} {b n:Nat} {M:Int→Option Value} (h:IM w b n M) {t e:TypeId} (ht:Tryz.prog.underlying t=some (.map 3 e)) {z:Value} (hz:(zeroValue e).run Tryz.prog w=.ok z w) {i:Int} (hi:I64 i) :
 (Instr.lookup t (.map (some b)) (.int .i64 i) false).run Tryz.prog w=.ok ((M i).getD z) w:=by
 obtain ⟨D,h,hM⟩:=h
 obtain ⟨v,ps,hrun,hv⟩:=h.lookup intKeyed ht hz (zd:=.held z) (zp:=[]) rfl (keyInt hi)
 obtain ⟨h1,h2⟩:=hM i hi
 rw [hrun]
 have:v=(M i).getD z:=by
  have hv:DataW.held v=D.atKey (.int .i64 i) (.held z):=congrArg Prod.fst (Option.some.inj hv)
  cases hm:M i with
  | none =>
   rw [hm] at h1
   rw [Maps.atKey_of_not_has h1] at hv
   injection hv with hv
  | some u =>
   rw [h2 u hm] at hv
   injection hv with hv
 rw [this]
def putI (M:Int→Option Value) (i:Int) (v:Value):Int→Option Value:=fun j => if j=i then some v else M j
def delI (M:Int→Option Value) (i:Int):Int→Option Value:=fun j => if j=i then none else M j
theorem IM.store {w:World} {b n:Nat} {M:Int→Option Value} (h:IM w b n M) {t e:TypeId} (ht:Tryz.prog.underlying t=some (.map 3 e)) (hn:n < maxLen) {i:Int} (hi:I64 i) (v:Value) :
 ∃ w',(Instr.mapUpdate t (.map (some b)) (.int .i64 i) v).run Tryz.prog w=.ok () w'∧IM w' b (n+1) (putI M i v)∧w.mapTurned w' b:=by
 obtain ⟨D,h,hM⟩:=h
 have hm:=h.isMap
 obtain ⟨w',hrun,h',ht'⟩:=h.store intKeyed ht hn (val:=v) (d:=.held v) (ps:=[]) (keyInt hi) rfl
 refine ⟨w',hrun,⟨_,h',fun j hj => ?_⟩,ht'⟩
 have hk:WideAt.IsKeyLit (.int .i64 i):=intKeyed.key (keyInt hi)
 by_cases hji:j=i
 ·subst hji
  refine ⟨by rw [Maps.has_put_same hm hk];simp [putI],fun u hu z => ?_⟩
  rw [Maps.atKey_put_same hm hk]
  simp [putI] at hu
  rw [hu]
 ·have hne:(Lit.int .i64 j)≠Lit.int .i64 i:=fun e => by injection e with _ e;exact hji e
  refine ⟨by rw [Maps.has_put_other hne];simp only [putI,if_neg hji];exact (hM j hj).1,fun u hu z => ?_⟩
  rw [Maps.atKey_put_other hne]
  simp only [putI,if_neg hji] at hu
  exact (hM j hj).2 u hu z
theorem IM.drop {w:World} {b n:Nat} {M:Int→Option Value} (h:IM w b n M) {t e:TypeId} (ht:Tryz.prog.underlying t=some (.map 3 e)) {i:Int} (hi:I64 i) (ty:TypeId) :
 ∃ w',(Builtin.delete_ #[t,3] ty #[.map (some b),.int .i64 i]).run Tryz.prog w=.ok (.tuple #[]) w'∧IM w' b n (delI M i)∧w.mapTurned w' b:=by
 obtain ⟨D,h,hM⟩:=h
 obtain ⟨w',hrun,h',ht'⟩:=h.drop intKeyed ht (keyInt hi) ty
 refine ⟨w',hrun,⟨_,h',fun j hj => ?_⟩,ht'⟩
 by_cases hji:j=i
 ·subst hji
  exact ⟨by rw [Maps.has_del_same];simp [delI],fun u hu => by simp [delI] at hu⟩
 ·have hne:(Lit.int .i64 j)≠Lit.int .i64 i:=fun e => by injection e with _ e;exact hji e
  refine ⟨by rw [Maps.has_del_other hne];simp only [delI,if_neg hji];exact (hM j hj).1,fun u hu z => ?_⟩
  rw [Maps.atKey_del_other hne]
  simp only [delI,if_neg hji] at hu
  exact (hM j hj).2 u hu z
theorem turned_block {w w':World} {b:Nat} (h:w.mapTurned w' b) (c:Nat) (hc:c≠b):w'.heap[c]? =w.heap[c]?:=by
 obtain ⟨es,clock,es',clock',hb,rfl⟩:=h
 exact Go.ChangeMaps.heap_setBlock_other hb _ hc
theorem turned_size {w w':World} {b:Nat} (h:w.mapTurned w' b):w'.heap.size=w.heap.size:=by
 obtain ⟨es,clock,es',clock',hb,rfl⟩:=h
 simp [Go.ChangeMaps.setBlock]
theorem Below.turned {B:Nat} {W w w':World} {b:Nat} (h:Below B W w) (ht:w.mapTurned w' b) (hb:B≤b):Below B W w':=
 h.grown ht.grown (by obtain ⟨es,clock,_,_,hh,_⟩:=ht;have:=heap_lt hh;omega) fun k hk => by cases hk;exact hb
end Go.Proofs.YtdgpmpccfjmmcaaGreatDoor
namespace Go.Proofs.YtdgpmpccfjmmcaaGreatDoor
open Go.RowKit
def msrW (L:Bs) (r:Int→Nat) (g:Nat) (w:World):Nat:=match w.cell? ⟨g,0,none⟩,w.cell? ⟨g,1,none⟩ with
 | some (.int _ k),some (.int _ n) => if k=1 then cntR L r (r n+1) else 0
 | _,_ => 0
theorem msrW_of {L:Bs} {r:Int→Nat} {g:Nat} {w:World} {k n:Int} {s x:Value} {ty:TypeId} {m:Nat × Nat} (h:w.heap[g]? =some (.cells #[.int .i64 k,.int .i64 n,s,x] ty m)):msrW L r g w=if k=1 then cntR L r (r n+1) else 0:=by
 obtain ⟨h0,h1,_⟩:=box4t h
 simp only [msrW,h0,h1]
structure But (b:Nat) (w w':World):Prop where
 os:w'.os=w.os
 tape:w'.tape=w.tape
 output:w'.output=w.output
 size:w.heap.size≤w'.heap.size
 block:∀ k,k < w.heap.size→k≠b→w'.heap[k]? =w.heap[k]?
theorem But.refl (b:Nat) (w:World):But b w w:=⟨rfl,rfl,rfl,Nat.le_refl _,fun _ _ _ => rfl⟩
theorem But.trans {b:Nat} {w w1 w2:World} (h:But b w w1) (k:But b w1 w2):But b w w2:=
 ⟨k.os.trans h.os,k.tape.trans h.tape,k.output.trans h.output,Nat.le_trans h.size k.size,fun i hi hb => (k.block i (Nat.lt_of_lt_of_le hi h.size) hb).trans (h.block i hi hb)⟩
theorem But.of {b:Nat} {w w':World} (h:Below w.heap.size w w'):But b w w':=⟨h.os,h.tape,h.output,h.size,fun k hk _ => h.block k hk⟩
theorem But.turned {b:Nat} {w w':World} (h:w.mapTurned w' b):But b w w':=
 ⟨h.grown.os,h.grown.tape,h.grown.output,h.grown.size,fun k _ hk => turned_block h k hk⟩
theorem But.below {b:Nat} {w w':World} (h:But b w w') {B:Nat} (hB:B≤b) (hs:B≤w.heap.size):Below B w w':=⟨h.os,h.tape,h.output,h.size,fun k hk => h.block k (by omega) (by omega)⟩
theorem But.low {b B:Nat} {w w1 w2:World} (h:But b w w1) (k:Below B w1 w2) (hB:w.heap.size≤B):But b w w2:=
 ⟨k.os.trans h.os,k.tape.trans h.tape,k.output.trans h.output,Nat.le_trans h.size k.size,fun i hi hb => (k.block i (by omega)).trans (h.block i hi hb)⟩
def IsMapAt (w:World) (b:Nat):Prop:=∃ es clock,w.heap[b]? =some (.map es clock)
theorem IM.is {w:World} {b n:Nat} {M:Int→Option Value} (h:IM w b n M):IsMapAt w b:=by
 obtain ⟨D,⟨es,clock,hh,_⟩,_⟩:=h
 exact ⟨es,clock,hh⟩
theorem But.cells {b:Nat} {w w':World} (h:But b w w') (hb:IsMapAt w b) {g:Nat} {cs:Array Value} {ty:TypeId} {m:Nat × Nat} (hg:w.heap[g]? =some (.cells cs ty m)):w'.heap[g]? =some (.cells cs ty m):=by
 refine (h.block g (heap_lt hg) ?_).trans hg
 rintro rfl
 obtain ⟨es,clock,hh⟩:=hb
 rw [hh] at hg
 cases hg
theorem TP.but {b:Nat} {w w':World} {S:Nat→Prop} {t:T} {v:Value} (ht:TP w S t v) (h:But b w w') (hb:IsMapAt w b):TP w' S t v:=ht.keep fun _ _ _ hS hh => ⟨h.cells hb hh,hS⟩
def seenM (S:List Int):Int→Option Value:=fun i => if i ∈ S then some (.bool true) else none
theorem seenM_put (S:List Int) (i:Int):putI (seenM S) i (.bool true)=seenM (i ::S):=by
 funext j
 by_cases h:j=i <;> simp [putI,seenM,h]
theorem zeroB (w:World):(zeroValue 4).run Tryz.prog w=.ok (.bool false) w:=by kernel_rfl
end Go.Proofs.YtdgpmpccfjmmcaaGreatDoor
namespace Go.Proofs.YtdgpmpccfjmmcaaGreatDoor
open Go.RowKit
def add1 (acc:List Int) (x:Int):List Int:=if x ∈ acc then acc else acc++[x]
def addAll (acc l:List Int):List Int:=l.foldl add1 acc
def foldVs (n:Nat) (f:Nat→List Int) (acc:List Int):List Int:=match n with
 | 0 => acc
 | n+1 => addAll (foldVs n f acc) (f n)
def varsT:T→List Int
 | .nil => []
 | .mk k n _ m a => if k=1 then [n] else if k=4 then foldVs m (fun i => varsT (a i)) [] else []
theorem varsT_cmp (n:Int) (s:ByteArray) (m:Nat) (a:Nat→T):varsT (.mk 4 n s m a)=foldVs m (fun i => varsT (a i)) []:=by
 rw [varsT];rfl
theorem mem_add1 {acc:List Int} {x y:Int}:y ∈ add1 acc x↔y ∈ acc∨y=x:=by
 unfold add1
 split
 ·exact ⟨.inl,fun h => h.elim id fun e => e ▸ by assumption⟩
 ·simp
theorem mem_addAll:∀ {l acc:List Int} {y:Int},y ∈ addAll acc l↔y ∈ acc∨y ∈ l
 | [],acc,y => by simp [addAll]
 | x ::l,acc,y => by
  show y ∈ addAll (add1 acc x) l↔_
  rw [mem_addAll,mem_add1]
  simp [or_assoc]
theorem add1_nodup {acc:List Int} {x:Int} (h:acc.Nodup):(add1 acc x).Nodup:=by
 unfold add1
 split
 ·exact h
 ·rename_i hx
  rw [List.nodup_append]
  exact ⟨h,by simp,fun a ha b hb => by simp at hb;subst hb;exact fun e => hx (e ▸ ha)⟩
theorem addAll_nodup:∀ {l acc:List Int},acc.Nodup→(addAll acc l).Nodup
 | [],_,h => h
 | _ ::l,_,h => addAll_nodup (l:=l) (add1_nodup h)
theorem addAll_append (acc l k:List Int):addAll acc (l++k)=addAll (addAll acc l) k:=by simp [addAll]
theorem addAll_assoc (acc b l:List Int):addAll acc (addAll b l)=addAll (addAll acc b) l:=by
 induction l generalizing b with
 | nil => rfl
 | cons x l ih =>
  show addAll acc (addAll (add1 b x) l)=addAll (add1 (addAll acc b) x) l
  rw [ih]
  congr 1
  unfold add1
  by_cases hx:x ∈ b
  ·rw [if_pos hx,if_pos (mem_addAll.mpr (.inr hx))]
  ·rw [if_neg hx,addAll_append];rfl
theorem addAll_fresh:∀ {l acc:List Int},l.Nodup→(∀ x ∈ l,x ∉ acc)→addAll acc l=acc++l
 | [],acc,_,_ => by simp [addAll]
 | x ::l,acc,h,hx => by
  show addAll (add1 acc x) l=_
  have h1:add1 acc x=acc++[x]:=if_neg (hx x List.mem_cons_self)
  rw [h1,addAll_fresh (List.nodup_cons.mp h).2 fun y hy => by
   simp only [List.mem_append,List.mem_singleton]
   rintro (h2 | rfl)
   ·exact hx y (List.mem_cons_of_mem _ hy) h2
   ·exact (List.nodup_cons.mp h).1 hy]
  simp
theorem addAll_nil {l:List Int} (h:l.Nodup):addAll [] l=l:=by simpa using addAll_fresh (acc:=[]) h fun _ _ h => by cases h
theorem foldVs_nodup {n:Nat} {f:Nat→List Int}:∀ {acc:List Int},acc.Nodup→(foldVs n f acc).Nodup:=by
 induction n with
 | zero => exact fun h => h
 | succ n ih => exact fun h => addAll_nodup (ih h)
theorem foldVs_acc {n:Nat} {f:Nat→List Int} (acc:List Int):addAll acc (foldVs n f [])=foldVs n f acc:=by
 induction n with
 | zero => rfl
 | succ n ih => simp only [foldVs];rw [addAll_assoc,ih]
theorem varsT_nodup:∀ {t:T},(varsT t).Nodup
 | .nil => List.Pairwise.nil
 | .mk k n _ m a => by
  unfold varsT
  split
  ·simp
  ·split
   ·exact foldVs_nodup List.Pairwise.nil
   ·exact List.Pairwise.nil
end Go.Proofs.YtdgpmpccfjmmcaaGreatDoor
namespace Go.Proofs.YtdgpmpccfjmmcaaGreatDoor
open Go.RowKit
structure Ins where
 o:Int
 a:Int
 s:ByteArray
def Ins.cells (x:Ins):List Value:=[.int .i64 x.o,.int .i64 x.a,.string x.s]
def insCells (l:List Ins):List Value:=l.flatMap Ins.cells
theorem insCells_length (l:List Ins):(insCells l).length=3*l.length:=by
 induction l with
 | nil => rfl
 | cons x l ih => simp only [insCells,List.flatMap_cons,List.length_append,List.length_cons] at ih ⊢;rw [ih];simp [Ins.cells];omega
theorem insCells_at:∀ (l:List Ins) (i:Nat) (h:i < l.length) (j:Nat),j < 3→(insCells l)[3*i+j]? =(l[i]'h).cells[j]?
 | x ::l,0,_,j,hj => by
  simp only [insCells,List.flatMap_cons,Nat.mul_zero,Nat.zero_add,List.getElem_cons_zero]
  exact List.getElem?_append_left (by simpa [Ins.cells] using hj)
 | x ::l,i+1,h,j,hj => by
  have ih:=insCells_at l i (by simpa using h) j hj
  simp only [insCells,List.flatMap_cons,List.getElem_cons_succ] at ih ⊢
  rw [List.getElem?_append_right (by simp [Ins.cells];omega),← ih]
  congr 1
  simp [Ins.cells];omega
theorem insCells_app (l r:List Ins):insCells l++insCells r=insCells (l++r):=by simp [insCells]
def plN:List Int→Int→Nat→Option Nat
 | [],_,_ => none
 | x ::l,n,i => if x=n then some i else plN l n (i+1)
theorem plN_none:∀ {l:List Int} {n:Int} {i:Nat},plN l n i=none↔n ∉ l
 | [],_,_ => by simp [plN]
 | x ::l,n,i => by
  unfold plN
  by_cases h:x=n
  ·rw [if_pos h]
   simp [h]
  ·rw [if_neg h,plN_none]
   simp only [List.mem_cons,not_or]
   exact ⟨fun h1 => ⟨fun e => h e.symm,h1⟩,fun h1 => h1.2⟩
theorem plN_snoc:∀ (l:List Int) (n m:Int) (i:Nat),n ∉ l→plN (l++[n]) m i=if m=n then some (i+l.length) else plN l m i
 | [],n,m,i,_ => by
  simp only [List.nil_append,plN,List.length_nil,Nat.add_zero]
  by_cases h:n=m
  ·rw [if_pos h,if_pos h.symm]
  ·rw [if_neg h,if_neg fun e => h e.symm]
 | x ::l,n,m,i,h => by
  simp only [List.cons_append,plN,List.length_cons]
  simp only [List.mem_cons,not_or] at h
  by_cases hx:x=m
  ·rw [if_pos hx,if_neg fun e => h.1 (by rw [hx,e]),if_pos hx]
  ·rw [if_neg hx,plN_snoc l n m (i+1) h.2,if_neg hx]
   by_cases hm:m=n
   ·rw [if_pos hm,if_pos hm]
    congr 1
    omega
   ·rw [if_neg hm,if_neg hm]
def foldC (m:Nat) (f:Nat→List Int→List Ins × List Int) (r:List Ins × List Int):List Ins × List Int:=match m with
 | 0 => r
 | m+1 => ((foldC m f r).1++(f m (foldC m f r).2).1,(f m (foldC m f r).2).2)
def codeT:T→List Int→List Ins × List Int
 | .nil,vs => ([],vs)
 | .mk k n s m a,vs =>
  if k=1 then (match plN vs n 0 with
   | some i => ([⟨3,(i:Int),⟨#[]⟩⟩],vs)
   | none => ([⟨2,(vs.length:Int),⟨#[]⟩⟩],vs++[n]))
  else if k=2 then ([⟨4,n,⟨#[]⟩⟩],vs)
  else if k=3 then ([⟨5,0,s⟩],vs)
  else foldC m (fun i => codeT (a i)) ([⟨6,(m:Int),s⟩],vs)
def codeG:List T→List Ins × List Int→List Ins × List Int
 | [],r => r
 | g ::l,r => codeG l (r.1++[⟨7,0,⟨#[]⟩⟩]++(codeT g r.2).1,(codeT g r.2).2)
theorem codeG_snoc:∀ (l:List T) (g:T) (r:List Ins × List Int),codeG (l++[g]) r=((codeG l r).1++[⟨7,0,⟨#[]⟩⟩]++(codeT g (codeG l r).2).1,(codeT g (codeG l r).2).2)
 | [],_,_ => rfl
 | _ ::l,g,_ => codeG_snoc l g _
def encN (h:T) (gs:List T):List Ins:=[⟨1,((codeG gs (codeT h [])).2.length:Int),⟨#[]⟩⟩]++(codeG gs (codeT h [])).1++[⟨8,0,⟨#[]⟩⟩]
def T.kinds:T→Prop
 | .nil => False
 | .mk k _ _ m a => (k=1∨k=2∨k=3∨k=4)∧(k≠4→m=0)∧∀ i,i < m→(a i).kinds
theorem T.good.kinds:∀ {t:T},t.good→t.kinds
 | .nil,h => h.elim
 | .mk k n s m a,h => by
  refine ⟨?_,?_,fun i hi => T.good.kinds (h.2 i hi)⟩
  ·rcases h.1 with h | h | h | h
   ·exact .inl h.1
   ·exact .inr (.inl h.1)
   ·exact .inr (.inr (.inl h.1))
   ·exact .inr (.inr (.inr h.1))
  ·intro hk
   rcases h.1 with h | h | h | h
   ·exact h.2.2.2.2
   ·exact h.2.2.2
   ·exact h.2.2.2
   ·exact absurd h.1 hk
end Go.Proofs.YtdgpmpccfjmmcaaGreatDoor
namespace Go.Proofs.YtdgpmpccfjmmcaaGreatDoor
open Go.RowKit
end Go.Proofs.YtdgpmpccfjmmcaaGreatDoor
namespace Go.Proofs.YtdgpmpccfjmmcaaGreatDoor
open Go.RowKit
theorem grownFar {w1 w2:World} {B k:Nat} {e:TypeId} {n:Nat} {v:Value} {xs:List Value} (hx:w1.ownsRow B e k v n xs) (hg:w1.grownBy w2 v.ownBlock) {b:Nat} {o:Obj} (hb:w1.heap[b]? =some o) (hne:∀ cs f,o≠.cells cs e f):w2.heap[b]? =some o:=by
 refine (hg.block b (heap_lt hb) fun h => ?_).trans hb
 obtain ⟨c,fz,h2⟩:=Go.Lib.ownsRow_kind hx b h.symm
 rw [hb] at h2
 injection h2 with h2
 exact hne _ _ h2
theorem cellsNe {cs cs':Array Value} {t t':TypeId} {m m':Nat × Nat} (h:t≠t'):Obj.cells cs t m≠Obj.cells cs' t' m':=fun e => by injection e with _ e;exact h e
def ORow (w:World) (B:Nat) (v:Value) (ns:List Int):Prop:=w.ownsRow B 3 1 v ns.length (ns.map (Value.int .i64))
theorem ORow.below {w w':World} {B:Nat} {v:Value} {ns:List Int} (h:ORow w B v ns) (hb:Below w.heap.size w w'):ORow w' B v ns:=own_below h hb
def VarsP (t:T) (w:World) (e:Ending) (w':World):Prop:=(∃ A c,e=.returned (.slice A (varsT t).length c)∧ORow w' w.heap.size (.slice A (varsT t).length c) (varsT t))∧Below w.heap.size w w'
theorem ORow.push {w1:World} {B:Nat} {v':Value} {ns:List Int} {x:Int} (hown:w1.ownsRow B 3 1 v' (ns.length+1) (ns.map (Value.int .i64)++[.int .i64 x])):ORow w1 B v' (ns++[x]):=by
 unfold ORow
 rw [List.length_append,List.map_append]
 exact hown
end Go.Proofs.YtdgpmpccfjmmcaaGreatDoor
namespace Go.Proofs.YtdgpmpccfjmmcaaGreatDoor
open Go.RowKit
structure Q6 where
 k:Int
 n:Int
 s:ByteArray
 A:Option Addr
 m:Nat
 c:Nat
def Q6.cells (q:Q6):List Value:=[.int .i64 q.k,.int .i64 q.n,.string q.s,.slice q.A q.m q.c]
def Q6.val (q:Q6):Value:=.agg #[.int .i64 q.k,.int .i64 q.n,.string q.s,.slice q.A q.m q.c]
def qCells (l:List Q6):List Value:=l.flatMap Q6.cells
theorem qCells_length (l:List Q6):(qCells l).length=l.length*4:=by
 induction l with
 | nil => rfl
 | cons x l ih => simp only [qCells,List.flatMap_cons,List.length_append,List.length_cons] at ih ⊢;rw [ih];simp [Q6.cells];omega
theorem qCells_at:∀ (l:List Q6) (i:Nat) (h:i < l.length) (j:Nat),j < 4→(qCells l)[i*4+j]? =(l[i]'h).cells[j]?
 | x ::l,0,_,j,hj => by
  simp only [qCells,List.flatMap_cons,Nat.zero_mul,Nat.zero_add,List.getElem_cons_zero]
  exact List.getElem?_append_left (by simpa [Q6.cells] using hj)
 | x ::l,i+1,h,j,hj => by
  have ih:=qCells_at l i (by simpa using h) j hj
  simp only [qCells,List.flatMap_cons,List.getElem_cons_succ] at ih ⊢
  rw [List.getElem?_append_right (by simp [Q6.cells];omega),← ih]
  congr 1
  simp [Q6.cells];omega
theorem qCells_one (q:Q6):q.cells=qCells [q]:=by simp [qCells]
theorem TP.q6 {w:World} {S:Nat→Prop} {t:T} {v:Value} (h:TP w S t v):∃ q:Q6,v=q.val:=by
 obtain ⟨k,n,s,A,m,c,rfl⟩:=h.agg
 exact ⟨⟨k,n,s,A,m,c⟩,rfl⟩
structure TL (w:World) (B:Nat) (S P:Nat→Prop) (v:Value) (l:List T) (qs:List Q6):Prop where
 len:qs.length=l.length
 own:w.ownsRow B 51 4 v l.length (qCells qs)
 tp:∀ i (h:i < l.length) (h':i < qs.length),TP w (fun b => S b∨P b) (l[i]) (qs[i]).val
 lo:∀ b,P b→B≤b∧b < w.heap.size
 off:∀ g,v.ownBlock=some g→¬ P g
 NB:∀ b,S b→b < B
theorem TL.below {w w':World} {B:Nat} {S P:Nat→Prop} {v:Value} {l:List T} {qs:List Q6} (h:TL w B S P v l qs) (hb:Below w.heap.size w w'):TL w' B S P v l qs:=
 ⟨h.len,own_below h.own hb,fun i h1 h2 => (h.tp i h1 h2).below hb,fun b hP => ⟨(h.lo b hP).1,Nat.lt_of_lt_of_le (h.lo b hP).2 hb.size⟩,h.off,h.NB⟩
theorem TL.empty {w:World} {B:Nat} {S:Nat→Prop} {v:Value} (h:w.ownsRow B 51 4 v 0 []) (hN:∀ b,S b→b < B):TL w B S (fun _ => False) v [] []:=
 ⟨rfl,h,fun i h1 => absurd h1 (by simp),fun _ h => h.elim,fun _ _ h => h,hN⟩
theorem TL.app {w w':World} {B:Nat} {S P P2:Nat→Prop} {v v':Value} {l l2:List T} {qs q2:List Q6} (h:TL w B S P v l qs) (hlen:q2.length=l2.length) (hown:w'.ownsRow B 51 4 v' (l.length+l2.length) (qCells qs++qCells q2))
 (hg:w.grownBy w' v.ownBlock) (hat:v'.ownBlock=v.ownBlock∨v'.ownBlock=some w.heap.size) (ht:∀ i (h:i < l2.length) (h':i < q2.length),TP w (fun b => S b∨P2 b) (l2[i]) (q2[i]).val)
 (hlo:∀ b,P2 b→B≤b∧b < w.heap.size) (hoff:∀ g,v.ownBlock=some g→¬ P2 g):TL w' B S (fun b => P b∨P2 b) v' (l++l2) (qs++q2):=by
 have hne:∀ b,(S b∨P b∨P2 b)→some b≠v.ownBlock:=by
  intro b hb he
  rcases hb with hb | hb | hb
  ·have h1:=(h.own.lt b he.symm).1
   have:=h.NB b hb
   omega
  ·exact h.off b he.symm hb
  ·exact hoff b he.symm hb
 have keep:∀ {t:T} {x:Value} {S0:Nat→Prop},(∀ b,S0 b→S b∨P b∨P2 b)→TP w S0 t x→TP w' (fun b => S b∨P b∨P2 b) t x:=fun hS hx => hx.keep fun b cs f hb hh => by
  refine ⟨(hg.block b (heap_lt hh) fun e => hne b (hS b hb) e).trans hh,hS b hb⟩
 refine ⟨by simp [h.len,hlen],by simpa [qCells] using hown,?_,?_,?_,h.NB⟩
 ·intro i h1 h2
  by_cases hi:i < l.length
  ·rw [List.getElem_append_left hi,List.getElem_append_left (by rw [h.len];exact hi)]
   exact keep (fun b hb => by rcases hb with hb | hb;exact .inl hb;exact .inr (.inl hb)) (h.tp i hi _)
  ·rw [List.getElem_append_right (by omega),List.getElem_append_right (by rw [h.len];omega)]
   have:=ht (i - l.length) (by simp at h1;omega) (by simp at h1;omega)
   simp only [h.len] at this ⊢
   exact keep (fun b hb => by rcases hb with hb | hb;exact .inl hb;exact .inr (.inr hb)) this
 ·intro b hb
  rcases hb with hb | hb
  ·exact ⟨(h.lo b hb).1,Nat.lt_of_lt_of_le (h.lo b hb).2 hg.size⟩
  ·exact ⟨(hlo b hb).1,Nat.lt_of_lt_of_le (hlo b hb).2 hg.size⟩
 ·intro g hv hP
  rcases hat with hat | hat
  ·rw [hat] at hv
   rcases hP with hP | hP
   ·exact h.off g hv hP
   ·exact hoff g hv hP
  ·rw [hat] at hv
   injection hv with hv
   subst hv
   rcases hP with hP | hP
   ·have:=(h.lo _ hP).2;omega
   ·have:=(hlo _ hP).2;omega
theorem TL.at_ {w:World} {B:Nat} {S P:Nat→Prop} {A:Option Addr} {n c:Nat} {l:List T} {qs:List Q6} (h:TL w B S P (.slice A n c) l qs) (hn:n=l.length) {i:Nat} (hi:i < l.length) :
 ∃ (g:Nat) (q:Q6),A=some ⟨g,0,none⟩∧B≤g∧g < w.heap.size∧¬ P g∧w.cell? ⟨g,i*4,none⟩=some (.int .i64 q.k)∧w.cell? ⟨g,i*4+1,none⟩=some (.int .i64 q.n)∧w.cell? ⟨g,i*4+2,none⟩=some (.string q.s)∧w.cell? ⟨g,i*4+3,none⟩=some (.slice q.A q.m q.c)∧
  TP w (fun b => S b∨P b) (l[i]) q.val:=by
 subst hn
 have hq:i < qs.length:=by rw [h.len];exact hi
 obtain ⟨A',c',he,_,_,_,hx⟩:=own_open h.own
 injection he with e1 _ e3
 subst e1;subst e3
 obtain ⟨g,cur,rfl,hB,hh,hc⟩:=hx (by omega)
 have hc':∀ j,j < 4→w.cell? ⟨g,i*4+j,none⟩=(qs[i]).cells[j]?:=fun j hj => by
  rw [cell_of_row w g (i*4+j) _ _ _ hh,hc _ (by omega)]
  exact qCells_at qs i hq j hj
 exact ⟨g,qs[i],rfl,hB,heap_lt hh,h.off g rfl,hc' 0 (by omega),hc' 1 (by omega),hc' 2 (by omega),hc' 3 (by omega),h.tp i hi hq⟩
theorem TL.all {w:World} {B:Nat} {S P:Nat→Prop} {v:Value} {l:List T} {qs:List Q6} (h:TL w B S P v l qs):∃ A c,v=.slice A l.length c∧l.length≤c∧(A=none→c=0)∧(0 < l.length→∃ b off,A=some ⟨b,off,none⟩∧∀ j u,(qCells qs)[j]? =some u→w.cell? ⟨b,off+j,none⟩=some u):=by
 obtain ⟨A,c,rfl,hc,hA,_,hx⟩:=own_open h.own
 refine ⟨A,c,rfl,hc,hA,fun h0 => ?_⟩
 obtain ⟨g,cur,rfl,_,hh,hcur⟩:=hx h0
 refine ⟨g,0,rfl,fun j u hu => ?_⟩
 have hj:j < l.length*4:=by
  rcases Nat.lt_or_ge j (qCells qs).length with h1 | h1
  ·rw [qCells_length,h.len] at h1;exact h1
  ·rw [List.getElem?_eq_none h1] at hu;cases hu
 rw [Nat.zero_add,cell_of_row w g j _ _ _ hh,hcur j hj,hu]
theorem wpList_append_at {P:Program} (w:World) {ops:Array Oper} {rest:List Oper} {o:Oper} {a:Act} {Q:Exit→Act→World→Prop} (hgd:o.guard=none) (s x:Operand) (t:TypeId)
 (ho:o.op=.call {callee:=.builtin .append,args:=#[s,x],argTypes:=#[t,t]})
 {e:TypeId} {z:Value} {size bytes:Nat} (E:El P t e z size bytes) (base:Nat)
 (v:Value) (n:Nat) (xs:List Value) (hs:a.eval s=v) (hown:w.ownsRow base e size v n xs)
 (A:Option Addr) (m c:Nat) (us:List Value) (hx:a.eval x=.slice A m c) (hA:A=none→c=0) (hmc:m≤c) (hl:us.length=m*size)
 (hu:0 < m→∃ b off,A=some ⟨b,off,none⟩∧∀ j u,us[j]? =some u→w.cell? ⟨b,off+j,none⟩=some u) (h1:∀ u ∈ us,u.oneCell'=true)
 (hn:(n+m)*bytes≤140737488355328) (hm:n+m≤maxLen) (hbase:base≤w.heap.size)
 (h:∀ v' w',w'.ownsRow base e size v' (n+m) (xs++us)→w.grownBy w' v.ownBlock→(v'.ownBlock=v.ownBlock∨v'.ownBlock=some w.heap.size)→wpList P ops Q rest (a.put o.dst v') w'):wpList P ops Q (o ::rest) a w:=by
 obtain ⟨i,hi,hz,hsz,hby⟩:=E.hi
 rcases A with _ | ad
 ·have hc:=hA rfl
  subst hc
  obtain rfl:m=0:=by omega
  have hus:us=[]:=List.eq_nil_of_length_eq_zero (by omega)
  subst hus
  exact wpList_append_own_none hgd s x t ho base e i size E.ht hi v n xs hs hown hx (h v w (by simpa using hown) (World.grownBy.refl w _) (.inl rfl))
 ·refine wpList_append_own_at w hgd s x t ho base e i z size bytes E.ht hi hz hsz hby E.hzs E.pos v n xs hs hown ad m c us hx hl ?_ h1 hm hn hbase fun v' w' h2 h3 _ h4 => h v' w' h2 h3 h4
  intro j u hj
  rcases Nat.eq_zero_or_pos m with h0 | h0
  ·subst h0
   have hus:us=[]:=List.eq_nil_of_length_eq_zero (by omega)
   subst hus
   simp at hj
  ·obtain ⟨b,off,he,hc⟩:=hu h0
   injection he with he
   subst he
   have:=hc j u hj
   unfold Addr.add
   split
   ·rename_i h0;subst h0;exact this
   ·simpa using this
end Go.Proofs.YtdgpmpccfjmmcaaGreatDoor
namespace Go.Proofs.YtdgpmpccfjmmcaaGreatDoor
open Go.RowKit
end Go.Proofs.YtdgpmpccfjmmcaaGreatDoor
namespace Go.Proofs.YtdgpmpccfjmmcaaGreatDoor
open Go.RowKit
def nodesL (l:List T):Nat:=(l.map T.nodes).sum
theorem nodesL_app (a b:List T):nodesL (a++b)=nodesL a+nodesL b:=by simp [nodesL]
theorem call_good {t:T} (h:t.good):(T.mk 4 0 ⟨#[99,97,108,108]⟩ 1 fun _ => t).good:=⟨.inr (.inr (.inr ⟨rfl,rfl,by decide,by decide⟩)),fun _ _ => h⟩
theorem own_more {w:World} {B B':Nat} {e:TypeId} {size:Nat} {v:Value} {n:Nat} {xs:List Value} (h:w.ownsRow B e size v n xs) (hB:B'≤B):w.ownsRow B' e size v n xs:=ownsRow_more h hB
theorem tp_one {w:World} {S P:Nat→Prop} {t:T} {q:Q6} {g:Nat} {f:Nat × Nat} {nm:ByteArray} (hg:w.heap[g]? =some (.cells q.cells.toArray 51 f)) (hP:P g) (ht:TP w S t q.val) :
 TP w (fun b => S b∨P b) (.mk 4 0 nm 1 fun _ => t) (.agg #[.int .i64 4,.int .i64 0,.string nm,.slice (some ⟨g,0,none⟩) 1 1]):=by
 refine ⟨_,1,rfl,Nat.le_refl _,(fun h => by cases h),fun _ => ⟨g,_,f,rfl,.inr hP,hg,fun i hi => ?_⟩⟩
 obtain rfl:i=0:=by omega
 exact ⟨_,_,_,_,rfl,rfl,rfl,rfl,ht.more fun b hb => .inl hb⟩
end Go.Proofs.YtdgpmpccfjmmcaaGreatDoor
namespace Go.Proofs.YtdgpmpccfjmmcaaGreatDoor
open Go.RowKit
def erW (b:Bool):Int:=if b then 101 else 0
def resI (nm:ByteArray) (n:Int):Bool:=decide (0≤n) && resT nm.data.toList n.toNat
end Go.Proofs.YtdgpmpccfjmmcaaGreatDoor
