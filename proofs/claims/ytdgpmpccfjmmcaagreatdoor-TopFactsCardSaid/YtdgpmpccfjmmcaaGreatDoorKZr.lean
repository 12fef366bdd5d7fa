/- What the row's list and its parameters give the walk of TopFacts:the table of operators,the reserved names,a row of small integers. -/
import Derived.Test.YtdgpmpccfjmmcaaGreatDoorKJBi
import Derived.ProofKit
import Derived.OpenShut
import Derived.ShutString
import Derived.LaidLaws
import Derived.ChangeArms
set_option linter.unusedVariables false
set_option linter.unusedSimpArgs false
namespace Go.Proofs.YtdgpmpccfjmmcaaGreatDoor
open Go Go.ChangeShapes Go.WideShapes Go.RowKit
def rowD (r:OpRow):DataW Unit:=.agg [.lit (.string r.1),.lit (.string r.2.1),.lit (.int .i64 r.2.2)]
theorem agg_inj {a b:List (DataW Unit)} {p q:List MemPlace} (h:(DataW.agg a,p)=(DataW.agg b,q)):a=b:=by
 injection h with h _
 injection h
set_option maxRecDepth 100000 in
theorem ops_of {W:World} {rest:List (String × DataW Unit)} (h:laidMet Tryz.prog (("coney/ops.table",(.agg (opRows.map rowD):DataW Unit)) ::rest) W):TableX W:=by
 obtain ⟨ps,⟨g',t',cs,fuel,p,q,hg',ht',hvar,hd,_,_⟩,_⟩:=h
 obtain rfl:=Option.some.inj ((show Tryz.prog.globalNamed "coney/ops.table" =some 1 by kernel_rfl).symm.trans hg')
 obtain rfl:=Option.some.inj ((show (Tryz.prog.globals[1]?).map (·.type)=some 246 by kernel_rfl).symm.trans ht')
 have ce:Tryz.prog.cellsOf 245 =3:=by kernel_rfl
 have c1:Tryz.prog.cellsOf 9 =1:=by kernel_rfl
 have c2:Tryz.prog.cellsOf 3 =1:=by kernel_rfl
 obtain ⟨xs,m,_,hx,_,hxl,hat⟩:=DataW.trod_array Tryz.underlying246 hd
 have hx:=agg_inj hx
 intro i n k v hi
 have hil:i < 42:=by rw [← rows_len];exact (List.getElem?_eq_some_iff.1 hi).1
 have h1:=hat i hil
 have h2:xs[i]?.map (·.1)=some (rowD (n,k,v)):=by rw [← List.getElem?_map,← hx,List.getElem?_map,hi];rfl
 obtain ⟨y,hy,hy2⟩:=Option.map_eq_some_iff.1 h2
 rw [hy,ce] at h1
 obtain ⟨ys,m',_,hz,hzl,hyl,hf⟩:=DataW.trod_struct Tryz.underlying245 h1
 rw [ce] at hzl
 obtain ⟨c,hc⟩:∃ c,(cs.toList.drop (i*3)).take 3=c:=⟨_,rfl⟩
 rw [hc] at hzl hf
 match c,hzl,hc with
 | [v0,v1,v2],_,hc =>
  have g0:=hf 0 _ rfl
  have g1:=hf 1 _ rfl
  have g2:=hf 2 _ rfl
  simp [c1,c2] at g0 g1 g2
  have hy4:ys.length=3:=hyl
  rw [List.getElem?_eq_getElem (by omega)] at g0 g1 g2
  obtain ⟨s0,e0,z0,_⟩:=DataW.trod_string Tryz.underlying9 g0
  obtain ⟨s1,e1,z1,_⟩:=DataW.trod_string Tryz.underlying9 g1
  obtain ⟨n2,e2,z2,_⟩:=DataW.trod_int Tryz.underlying3 g2
  simp at e0 e1 e2
  subst e0 e1 e2
  have hl:ys.map (·.1)=[.lit (.string n),.lit (.string k),.lit (.int .i64 v)]:=by
   have e:=congrArg Prod.fst hz
   rw [hy2] at e
   injection e with e
   exact e.symm
  have y3:ys=[ys[0],ys[1],ys[2]]:=by
   apply List.ext_getElem (by simp;omega)
   intro q h1 h2
   rcases q with _ | _ | _ | q
   ·rfl
   ·rfl
   ·rfl
   ·simp only [List.length_cons,List.length_nil] at h2;omega
  rw [y3] at hl
  simp only [List.map_cons,List.map_nil,z0,z1,z2,List.cons.injEq,DataW.lit.injEq,Lit.string.injEq,Lit.int.injEq,and_true,true_and] at hl
  obtain ⟨rfl,rfl,rfl⟩:=hl
  have at_:∀ j,j < 3→cs[i*3+j]? =[Value.string s0,.string s1,.int .i64 n2][j]?:=fun j hj => by
   rw [← hc,List.getElem?_take_of_lt hj,List.getElem?_drop,Array.getElem?_toList]
  have b:∀ s:ByteArray,ba s.data.toList=s:=fun s => by apply ByteArray.ext;simp [ba]
  rw [b,b]
  exact ⟨(World.var?_cell hg' hvar (i*3)).trans (at_ 0 (by omega)),(World.var?_cell hg' hvar (i*3+1)).trans (at_ 1 (by omega)),(World.var?_cell hg' hvar (i*3+2)).trans (at_ 2 (by omega))⟩
def goalD (n:Nat):DataW Unit:=.lit (.string (resL n))
set_option maxRecDepth 100000 in
theorem goals_of {W:World} {rest:List (String × DataW Unit)} (h:laidMet Tryz.prog (("coney/machine.goals",(.agg ((List.range 5).map goalD):DataW Unit)) ::rest) W):GoalsX W:=by
 obtain ⟨ps,⟨g',t',cs,fuel,p,q,hg',ht',hvar,hd,_,_⟩,_⟩:=h
 obtain rfl:=Option.some.inj ((show Tryz.prog.globalNamed "coney/machine.goals" =some 0 by kernel_rfl).symm.trans hg')
 obtain rfl:=Option.some.inj ((show (Tryz.prog.globals[0]?).map (·.type)=some 108 by kernel_rfl).symm.trans ht')
 have ce:Tryz.prog.cellsOf 9 =1:=by kernel_rfl
 obtain ⟨xs,m,_,hx,_,hxl,hat⟩:=DataW.trod_array Tryz.underlying108 hd
 have hx:=agg_inj hx
 intro n hn
 have h1:=hat n hn
 have h2:xs[n]?.map (·.1)=some (goalD n):=by rw [← List.getElem?_map,← hx,List.getElem?_map,List.getElem?_range hn];rfl
 obtain ⟨y,hy,hy2⟩:=Option.map_eq_some_iff.1 h2
 rw [hy,ce,Nat.mul_one] at h1
 obtain ⟨s0,e0,z0,_⟩:=DataW.trod_string Tryz.underlying9 h1
 have e1:goalD n=.lit (.string s0.data.toList):=by rw [← hy2,z0]
 have e2:resL n=s0.data.toList:=by
  unfold goalD at e1
  injection e1 with e1
  injection e1
 have hc:cs[n]? =some (.string s0):=by
  have h3:((cs.toList.drop n).take 1)[0]? =some (.string s0):=by rw [e0];rfl
  rw [List.getElem?_take_of_lt (by omega),List.getElem?_drop,Nat.add_zero,Array.getElem?_toList] at h3
  exact h3
 rw [e2,show ba s0.data.toList=s0 by apply ByteArray.ext;simp [ba]]
 exact (World.var?_cell hg' hvar n).trans hc
set_option maxRecDepth 100000 in
theorem open_sin {H:Type} {enc:TypeId × Value→H} {w:World} {base:Nat} {spare:Nat→Bool} {held:Bool} {fuel:Nat} {A:Option Addr} {len cap:Nat} {x:DataW H × List MemPlace}
 (h:DataW.trod enc Tryz.prog w base spare held fuel 22 [.slice A len cap]=some x) :
 ∃ l:List Int,SIn w w.heap.size l (.slice A len cap)∧(∀ x ∈ l,Small x)∧(l.length:Int)≤9223372036854775807:=by
 rcases Go.ChangeShapes.open_ints Tryz.underlying22 Tryz.underlying23 (by kernel_rfl) h with ⟨hcs,_⟩ | ⟨a,ln,c,zs,hcs,_,hl,hm,hz,_,hcell,hwf⟩
 ·simp at hcs
  obtain ⟨rfl,rfl,rfl⟩:=hcs
  exact ⟨[],⟨none,0,rfl,fun h => absurd h (by simp)⟩,fun _ h => (by cases h),by simp⟩
 ·simp at hcs
  obtain ⟨rfl,rfl,rfl⟩:=hcs
  have hle:len≤zs.length:=by rw [hz];split <;> omega
  have hlen:(zs.take len).length=len:=by simp [hle]
  have hmx:(maxLen:Int)≤9223372036854775807:=by decide
  refine ⟨zs.take len,⟨some a,cap,by rw [hlen],fun h0 => ?_⟩,fun x hx => ?_,by rw [hlen];omega⟩
  ·rw [hlen] at h0
   obtain ⟨b,off,spot⟩:=a
   have z0:=hcell 0 (by omega)
   have hspot:spot=none:=by simpa [Addr.add] using World.cell?_spot z0
   subst hspot
   have hlt:b < w.heap.size:=by
    rw [Go.WideShapes.add_plain] at z0
    rcases Nat.lt_or_ge b w.heap.size with hlt | hge
    ·exact hlt
    ·simp [World.cell?,Array.getElem?_eq_none hge] at z0
   refine ⟨b,off,rfl,hlt,fun i x hi => ?_⟩
   have hi':i < len:=by rw [← hlen];exact (List.getElem?_eq_some_iff.1 hi).1
   have z:=hcell i (by omega)
   rw [Go.WideShapes.add_plain] at z
   rw [List.getElem?_take_of_lt hi'] at hi
   rw [z,List.getD_eq_getElem?_getD,hi]
   rfl
  ·have b:=bounds_i8 (hwf x (List.mem_of_mem_take hx))
   exact ⟨by omega,by omega⟩
theorem topfacts_all {l:List Int} {v:Value} {a:Int} (w:World) (h:SIn w w.heap.size l v) (hx:∀ x ∈ l,Small x) (hlen:(l.length:Int)≤9223372036854775807) (ha:Small a) {mx:Int} (hmx:w.cell? ⟨2,0,none⟩=some (.int .i64 mx)) (htab:TabX w) (herr:ErrX w) (hops:TableX w) (hgo:GoalsX w) :
 Calls Tryz.prog 3 #[v,.int .i8 a] w fun e w' => e=.returned (.bool true)∧Below w.heap.size w w':=
 topfacts_any w h hx hlen ha hmx htab herr hops hgo (by
  obtain ⟨⟨t,p,h1⟩,_⟩:=herr
  have:=World.block_lt_of_cell? w _ h1
  dsimp only at this
  exact ⟨by omega,by omega,by omega⟩)
end Go.Proofs.YtdgpmpccfjmmcaaGreatDoor
