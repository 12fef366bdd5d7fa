/- Laws for a slice that the call itself has made:one element is pushed onto it. An own row,opened;bytes as a string;a block that stands in a later world. Tokens,as plain data and as they lie in memory. A plain lexer over the bytes of a text:what both lexers compute. The reference's lexer:its tests of one byte. Plain lemmas:the library's searches in the words of the plain lexer. The reference's lexer:what lies between tokens. The reference's lexer:a quoted atom. The reference's lexer:the tokens of a text. -/
import Derived.WalkKit
import Derived.Laws.OwnMore
import Derived.Deep.AppendLies
import Derived.Laws.Rows
import Derived.Laws.AppendOwnNone
import Derived.Test.YtdgpmpccfjmmcaaGreatDoorProg
import Derived.Lib.Hide
import Derived.Below
import Derived.Laws.BytesArg
import Derived.OwnWalk
import Derived.Deep.DeepMust
import Derived.Lib.IndexMore
import Derived.Lib.IndexLaws
import Derived.Lib.Strings
import Derived.Deep.DeepCutAuto
import Derived.Deep.CutRange
import Derived.Deep.CutBlock
set_option linter.unusedVariables false
set_option linter.unusedSimpArgs false
namespace Go.Proofs.YtdgpmpccfjmmcaaGreatDoor
open Go.RowKit
structure El (P:Program) (t e:TypeId) (z:Value) (size bytes:Nat):Prop where
 ht:P.underlying t=some (.slice e)
 hi:∃ i,P.info? e=some i∧i.zero=some z∧i.size=size∧i.bytes=bytes
 hzs:z.cells.size=size
 pos:0 < size
theorem ownBlock_ge {w:World} {base:Nat} {e:TypeId} {size:Nat} {v:Value} {n:Nat} {xs:List Value} (h:w.ownsRow base e size v n xs):∀ k,v.ownBlock=some k→base≤k:=by
 intro k hk
 rcases h.2 with ⟨rfl,_⟩ | ⟨g,cap,cur,rfl,hb,_⟩
 ·simp [Value.ownBlock] at hk
 ·simp [Value.ownBlock] at hk;omega
theorem below_own {w w':World} {base:Nat} {e:TypeId} {size:Nat} {v:Value} {n:Nat} {xs:List Value} (h:w.ownsRow base e size v n xs) (hg:w.grownBy w' v.ownBlock) (hb:base≤w.heap.size):Below base w w':=
 (Below.refl _ _).grown hg hb (ownBlock_ge h)
theorem wpList_push_any {P:Program} (w:World) {ops:Array Oper} {rest:List Oper} {o:Oper} {a:Act} {Q:Exit→Act→World→Prop} (hgd:o.guard=none) (s x:Operand) (t:TypeId)
 (ho:o.op=.call {callee:=.builtin .append,args:=#[s,x],argTypes:=#[t,t]})
 {e:TypeId} {z:Value} {size bytes:Nat} (E:El P t e z size bytes) (base:Nat)
 (v:Value) (n:Nat) (xs:List Value) (hs:a.eval s=v) (hown:w.ownsRow base e size v n xs)
 (g c:Nat) (us:List Value) (hx:a.eval x=.slice (some ⟨g,0,none⟩) 1 c) (hl:us.length=size) (hu:∀ j u,us[j]? =some u→w.cell? ⟨g,j,none⟩=some u) (h1:∀ u ∈ us,u.oneCell'=true)
 (hn:(n+1)*bytes≤140737488355328) (hm:n+1≤maxLen) (hbase:base≤w.heap.size)
 (h:∀ v' w',w'.ownsRow base e size v' (n+1) (xs++us)→Below base w w'→wpList P ops Q rest (a.put o.dst v') w'):wpList P ops Q (o ::rest) a w:=by
 obtain ⟨i,hi,hz,hsz,hby⟩:=E.hi
 refine wpList_append_own w hgd s x t ho base e i z size bytes E.ht hi hz hsz hby E.hzs E.pos v n xs hs hown ⟨g,0,none⟩ 1 c us hx (by omega) ?_ h1 hm hn hbase fun v' w' h2 h3 _ => h v' w' h2 (below_own hown h3 hbase)
 intro j u hj
 have:=hu j u hj
 unfold Addr.add
 split
 ·rename_i h0;subst h0;exact this
 ·simpa using this
theorem heap_at (w:World) (o:Obj) {g:Nat} (h:g=w.heap.size):(w.alloc o).heap[g]? =some o:=by subst h;exact heap_alloc_new w o
theorem wpList_append_cells {P:Program} (w:World) {ops:Array Oper} {rest:List Oper} {o:Oper} {a:Act} {Q:Exit→Act→World→Prop} (hgd:o.guard=none) (s x:Operand) (t:TypeId)
 (ho:o.op=.call {callee:=.builtin .append,args:=#[s,x],argTypes:=#[t,t]})
 {e:TypeId} {z:Value} {size bytes:Nat} (E:El P t e z size bytes) (base:Nat)
 (v:Value) (n:Nat) (xs:List Value) (hs:a.eval s=v) (hown:w.ownsRow base e size v n xs)
 (A:Option Addr) (m c:Nat) (us:List Value) (hx:a.eval x=.slice A m c) (hA:A=none→c=0) (hmc:m≤c) (hl:us.length=m*size)
 (hu:0 < m→∃ b off,A=some ⟨b,off,none⟩∧∀ j u,us[j]? =some u→w.cell? ⟨b,off+j,none⟩=some u) (h1:∀ u ∈ us,u.oneCell'=true)
 (hn:(n+m)*bytes≤140737488355328) (hm:n+m≤maxLen) (hbase:base≤w.heap.size)
 (h:∀ v' w',w'.ownsRow base e size v' (n+m) (xs++us)→w.grownBy w' v.ownBlock→wpList P ops Q rest (a.put o.dst v') w'):wpList P ops Q (o ::rest) a w:=by
 obtain ⟨i,hi,hz,hsz,hby⟩:=E.hi
 rcases A with _ | ad
 ·have hc:=hA rfl
  subst hc
  obtain rfl:m=0:=by omega
  have hus:us=[]:=List.eq_nil_of_length_eq_zero (by omega)
  subst hus
  exact wpList_append_own_none hgd s x t ho base e i size E.ht hi v n xs hs hown hx (h v w (by simpa using hown) (World.grownBy.refl w _))
 ·refine wpList_append_own w hgd s x t ho base e i z size bytes E.ht hi hz hsz hby E.hzs E.pos v n xs hs hown ad m c us hx hl ?_ h1 hm hn hbase fun v' w' h2 h3 _ => h v' w' h2 h3
  intro j u hj
  rcases Nat.eq_zero_or_pos m with h0 | h0
  ·subst h0
   have hus:us=[]:=List.eq_nil_of_length_eq_zero (by omega)
   subst hus
   simp at hj
  ·obtain ⟨b,off,he,hc⟩:=hu h0
   injection he with he
   subst he
   have:=hc j u hj
   unfold Addr.add
   split
   ·rename_i hj0;subst hj0;simpa using this
   ·exact this
theorem ownsRow_more {w:World} {base base':Nat} {e:TypeId} {size:Nat} {v:Value} {n:Nat} {xs:List Value} (h:w.ownsRow base e size v n xs) (hb:base'≤base):w.ownsRow base' e size v n xs:=by
 obtain ⟨h1,h2⟩:=h
 refine ⟨h1,?_⟩
 rcases h2 with h2 | ⟨g,cap,cur,hv,hg,hr⟩
 ·exact .inl h2
 ·exact .inr ⟨g,cap,cur,hv,by omega,hr⟩
end Go.Proofs.YtdgpmpccfjmmcaaGreatDoor
namespace Go.Proofs.YtdgpmpccfjmmcaaGreatDoor
open Go.RowKit
theorem heap_lt {w:World} {g:Nat} {o:Obj} (h:w.heap[g]? =some o):g < w.heap.size:=by
 rcases Nat.lt_or_ge g w.heap.size with hlt | hge
 ·exact hlt
 ·rw [Array.getElem?_eq_none hge] at h;cases h
theorem own_keep {w w':World} {base:Nat} {e:TypeId} {size:Nat} {v:Value} {n:Nat} {xs:List Value} (h:w.ownsRow base e size v n xs)
 (hk:∀ g,v.ownBlock=some g→w'.heap[g]? =w.heap[g]?):w'.ownsRow base e size v n xs:=by
 obtain ⟨h1,h2⟩:=h
 refine ⟨h1,?_⟩
 rcases h2 with h2 | ⟨g,cap,cur,hv,hg,hh,hr⟩
 ·exact .inl h2
 ·subst hv
  exact .inr ⟨g,cap,cur,rfl,hg,(hk g rfl).trans hh,hr⟩
theorem own_below {w w':World} {base:Nat} {e:TypeId} {size:Nat} {v:Value} {n:Nat} {xs:List Value} (h:w.ownsRow base e size v n xs) (hb:Below w.heap.size w w'):w'.ownsRow base e size v n xs:=
 own_keep h fun g hg => hb.block g (h.lt g hg).2
theorem own_open {w:World} {base:Nat} {e:TypeId} {size:Nat} {v:Value} {n:Nat} {xs:List Value} (h:w.ownsRow base e size v n xs) :
 ∃ A c,v=.slice A n c∧n≤c∧(A=none→c=0)∧c≤maxLen∧
  (0 < n→∃ g cur,A=some ⟨g,0,none⟩∧base≤g∧w.heap[g]? =some (.cells cur e (0,0))∧∀ j,j < n*size→cur[j]? =xs[j]?):=by
 rcases h.2 with ⟨rfl,h0⟩ | ⟨g,cap,cur,rfl,hg,hh,hnc,hmx,hsz,htk⟩
 ·subst h0
  exact ⟨none,0,rfl,Nat.le_refl _,fun _ => rfl,Nat.zero_le _,fun h => absurd h (by omega)⟩
 ·refine ⟨_,cap,rfl,hnc,fun h => by (cases h),hmx,fun _ => ⟨g,cur,rfl,hg,hh,fun j hj => ?_⟩⟩
  have h1:(cur.toList.take (n*size))[j]? =xs[j]?:=by rw [htk]
  rw [List.getElem?_take,if_pos hj] at h1
  rw [← Array.getElem?_toList,h1]
theorem own_len {w:World} {base:Nat} {e:TypeId} {size:Nat} {v:Value} {n:Nat} {xs:List Value} (h:w.ownsRow base e size v n xs):xs.length=n*size:=h.1
end Go.Proofs.YtdgpmpccfjmmcaaGreatDoor
namespace Go.Proofs.YtdgpmpccfjmmcaaGreatDoor
open Go.RowKit
structure Tk where
 k:Int
 t:ByteArray
 a:Nat
 b:Nat
def Tk.cells (x:Tk):List Value:=[.int .i64 x.k,.string x.t,.int .i64 (x.a:Int),.int .i64 (x.b:Int)]
def tkCells (l:List Tk):List Value:=l.flatMap Tk.cells
def Tk.ok (n:Nat) (x:Tk):Prop:=1≤x.k∧x.k≤6∧x.t.size≤n∧x.a < x.b∧x.b≤n
theorem tkCells_at:∀ (l:List Tk) (i:Nat) (h:i < l.length) (j:Nat),j < 4→(tkCells l)[4*i+j]? =(l[i]'h).cells[j]?
 | x ::l,0,_,j,hj => by
  simp only [tkCells,List.flatMap_cons,Nat.mul_zero,Nat.zero_add,List.getElem_cons_zero]
  exact List.getElem?_append_left (by simpa [Tk.cells] using hj)
 | x ::l,i+1,h,j,hj => by
  have ih:=tkCells_at l i (by simpa using h) j hj
  simp only [tkCells,List.flatMap_cons,List.getElem_cons_succ] at ih ⊢
  rw [List.getElem?_append_right (by simp [Tk.cells];omega),← ih]
  congr 1
  simp [Tk.cells];omega
theorem tkCells_snoc (l:List Tk) (x:Tk):tkCells l++x.cells=tkCells (l++[x]):=by simp [tkCells]
theorem blk_set {w:World} {g:Nat} {t:TypeId} {cs:Array Value} {m:Nat × Nat} (h:w.heap[g]? =some (.cells cs t m)) (i:Nat) (u:Value):(w.setCell ⟨g,i,none⟩ u).heap[g]? =some (.cells (cs.setIfInBounds i u) t m):=by
 simp [World.setCell,Array.getElem?_modify,h]
theorem box4t {w:World} {g:Nat} {t:TypeId} {f:Nat × Nat} {a b c d:Value} (h:w.heap[g]? =some (.cells #[a,b,c,d] t f)) :
 w.cell? ⟨g,0,none⟩=some a∧w.cell? ⟨g,1,none⟩=some b∧w.cell? ⟨g,2,none⟩=some c∧w.cell? ⟨g,3,none⟩=some d:=
 ⟨cell_of_row w g 0 _ _ _ h,cell_of_row w g 1 _ _ _ h,cell_of_row w g 2 _ _ _ h,cell_of_row w g 3 _ _ _ h⟩
theorem one4 (x:Tk):∀ u ∈ x.cells,u.oneCell'=true:=by
 intro u hu
 simp only [Tk.cells,List.mem_cons,List.not_mem_nil,or_false] at hu
 rcases hu with rfl | rfl | rfl | rfl <;> rfl
end Go.Proofs.YtdgpmpccfjmmcaaGreatDoor
namespace Go.Proofs.YtdgpmpccfjmmcaaGreatDoor
def bu (s:ByteArray) (i:Nat):UInt8:=s.data.toList.getD i 0
def bn (s:ByteArray) (i:Nat):Nat:=(s.data.toList.getD i 0).toNat
theorem bn_bu (s:ByteArray) (i:Nat):bn s i=(bu s i).toNat:=rfl
theorem bn_eq (s:ByteArray) (i:Nat) (h:i < s.size):(s[i]'h).toNat=bn s i:=by
 obtain ⟨⟨l⟩⟩:=s
 have hl:i < l.length:=h
 have e:(ByteArray.mk ⟨l⟩)[i]'h=l.getD i 0:=by
  simp only [List.getD,List.getElem?_eq_getElem hl,Option.getD_some]
  rfl
 simp [bn,e]
theorem bn_lt (s:ByteArray) (i:Nat):bn s i < 256:=by
 unfold bn
 exact UInt8.toNat_lt _
def smallB (c:Int):Bool:=decide (97≤c) && decide (c≤122)
def greatB (c:Int):Bool:=(decide (65≤c) && decide (c≤90)) || decide (c=95)
def digitB (c:Int):Bool:=decide (48≤c) && decide (c≤57)
def namedB (c:Int):Bool:=smallB c || greatB c || digitB c
def slit:ByteArray:={data:=#[43,45,42,47,92,94,60,62,61,58,46,63,64,35,36,38,126]}
def signB (c:Int):Bool:=(List.range 17).any fun j => decide ((bn slit j:Int)=c)
def kindB (k c:Int):Bool:=(decide (k=1) && namedB c) || (decide (k=2) && digitB c) || (decide (k=3) && signB c)
def blankB (c:Int):Bool:=c == 32 || c == 9 || c == 10 || c == 13
def markB (c:Int):Bool:=c == 40 || c == 41 || c == 91 || c == 93 || c == 123 || c == 125 || c == 44 || c == 124
def twoB (s:ByteArray) (i:Nat) (a b:Int):Bool:=decide (i+1 < s.size) && ((bn s i:Int) == a) && ((bn s (i+1):Int) == b)
def runF:Nat→Int→ByteArray→Nat→Nat
 | 0,_,_,j => j
 | f+1,k,s,j => if kindB k (bn s j) then runF f k s (j+1) else j
def runN (k:Int) (s:ByteArray) (j:Nat):Nat:=runF (s.size - j) k s j
theorem runN_step {k:Int} {s:ByteArray} {j:Nat} (h:j < s.size) (hk:kindB k (bn s j)=true):runN k s j=runN k s (j+1):=by
 obtain ⟨f,hf⟩:∃ f,s.size - j=f+1:=⟨s.size - j - 1,by omega⟩
 have:s.size - (j+1)=f:=by omega
 simp [runN,hf,runF,hk,this]
theorem runN_stop {k:Int} {s:ByteArray} {j:Nat} (hk:kindB k (bn s j)=false):runN k s j=j:=by
 unfold runN
 cases s.size - j with
 | zero => rfl
 | succ f => simp [runF,hk]
theorem runN_end {k:Int} {s:ByteArray} {j:Nat} (h:s.size≤j):runN k s j=j:=by
 have:s.size - j=0:=by omega
 simp [runN,this,runF]
theorem runF_ge:∀ (f:Nat) (k:Int) (s:ByteArray) (j:Nat),j≤runF f k s j∧runF f k s j≤j+f
 | 0,_,_,j => ⟨Nat.le_refl _,Nat.le_refl _⟩
 | f+1,k,s,j => by
  unfold runF
  split
  ·have:=runF_ge f k s (j+1);omega
  ·omega
theorem runN_ge (k:Int) (s:ByteArray) (j:Nat):j≤runN k s j:=(runF_ge _ k s j).1
theorem runN_le {k:Int} {s:ByteArray} {j:Nat} (h:j≤s.size):runN k s j≤s.size:=by
 have:=(runF_ge (s.size - j) k s j).2
 unfold runN
 omega
theorem runN_gt {k:Int} {s:ByteArray} {j:Nat} (h:j < s.size) (hk:kindB k (bn s j)=true):j < runN k s j:=by
 rw [runN_step h hk]
 exact runN_ge k s (j+1)
def lineF:Nat→ByteArray→Nat→Nat
 | 0,_,j => j
 | f+1,s,j => if (bn s j:Int) != 10 then lineF f s (j+1) else j
def lineN (s:ByteArray) (j:Nat):Nat:=lineF (s.size - j) s j
theorem lineN_step {s:ByteArray} {j:Nat} (h:j < s.size) (hk:((bn s j:Int) != 10)=true):lineN s j=lineN s (j+1):=by
 obtain ⟨f,hf⟩:∃ f,s.size - j=f+1:=⟨s.size - j - 1,by omega⟩
 have:s.size - (j+1)=f:=by omega
 simp only [lineN,hf,lineF,hk,this,if_true]
theorem lineN_stop {s:ByteArray} {j:Nat} (hk:((bn s j:Int) != 10)=false):lineN s j=j:=by
 unfold lineN
 cases s.size - j with
 | zero => rfl
 | succ f => simp only [lineF,hk];rfl
theorem lineN_end {s:ByteArray} {j:Nat} (h:s.size≤j):lineN s j=j:=by
 have:s.size - j=0:=by omega
 simp [lineN,this,lineF]
theorem lineF_ge:∀ (f:Nat) (s:ByteArray) (j:Nat),j≤lineF f s j∧lineF f s j≤j+f
 | 0,_,j => ⟨Nat.le_refl _,Nat.le_refl _⟩
 | f+1,s,j => by
  unfold lineF
  split
  ·have:=lineF_ge f s (j+1);omega
  ·omega
theorem lineN_ge (s:ByteArray) (j:Nat):j≤lineN s j:=(lineF_ge _ s j).1
theorem lineN_le {s:ByteArray} {j:Nat} (h:j≤s.size):lineN s j≤s.size:=by
 have:=(lineF_ge (s.size - j) s j).2
 unfold lineN
 omega
def endF:Nat→ByteArray→Nat→Nat
 | 0,_,j => j
 | f+1,s,j => if twoB s j 42 47 then j else endF f s (j+1)
def endN (s:ByteArray) (j:Nat):Nat:=endF (s.size - j) s j
theorem endN_step {s:ByteArray} {j:Nat} (h:j < s.size) (hk:twoB s j 42 47=false):endN s j=endN s (j+1):=by
 obtain ⟨f,hf⟩:∃ f,s.size - j=f+1:=⟨s.size - j - 1,by omega⟩
 have:s.size - (j+1)=f:=by omega
 simp [endN,hf,endF,hk,this]
theorem endN_stop {s:ByteArray} {j:Nat} (hk:twoB s j 42 47=true):endN s j=j:=by
 unfold endN
 cases s.size - j with
 | zero => rfl
 | succ f => simp [endF,hk]
theorem endN_end {s:ByteArray} {j:Nat} (h:s.size≤j):endN s j=j:=by
 have:s.size - j=0:=by omega
 simp [endN,this,endF]
theorem endF_ge:∀ (f:Nat) (s:ByteArray) (j:Nat),j≤endF f s j
 | 0,_,j => Nat.le_refl _
 | f+1,s,j => by
  unfold endF
  split
  ·exact Nat.le_refl _
  ·have:=endF_ge f s (j+1);omega
theorem endN_ge (s:ByteArray) (j:Nat):j≤endN s j:=endF_ge _ s j
theorem twoB_lt {s:ByteArray} {j:Nat} {a b:Int} (h:twoB s j a b=true):j+1 < s.size:=by
 unfold twoB at h
 simp at h
 exact h.1.1
theorem endF_two:∀ (f:Nat) (s:ByteArray) (j:Nat),s.size≤j+f→endF f s j < s.size→twoB s (endF f s j) 42 47=true
 | 0,s,j,h,h2 => by unfold endF at h2;omega
 | f+1,s,j,h,h2 => by
  unfold endF at h2 ⊢
  split at h2
  ·rename_i h3;rw [if_pos h3];exact h3
  ·rename_i h3;rw [if_neg h3];exact endF_two f s (j+1) (by omega) h2
theorem endN_two {s:ByteArray} {j:Nat} (h:endN s j < s.size):twoB s (endN s j) 42 47=true:=endF_two _ s j (by omega) h
def betF:Nat→ByteArray→Nat→Nat × Bool
 | 0,_,j => (j,true)
 | f+1,s,j =>
  if j < s.size then
   if blankB (bn s j) then betF f s (j+1)
   else if (bn s j:Int) == 37 then betF f s (lineN s j)
   else if twoB s j 47 42 then (if endN s (j+2) < s.size then betF f s (endN s (j+2)+2) else (j,false))
   else (j,true)
  else (j,true)
def betN (s:ByteArray) (j:Nat):Nat × Bool:=betF (s.size - j) s j
theorem line_gt {s:ByteArray} {j:Nat} (h:j < s.size) (hc:((bn s j:Int) == 37)=true):j < lineN s j:=by
 have hc':(bn s j:Int)=37:=by simpa using hc
 rw [lineN_step h (by rw [hc'];decide)]
 exact lineN_ge s (j+1)
theorem betF_same:∀ (f f':Nat) (s:ByteArray) (j:Nat),s.size≤j+f→s.size≤j+f'→betF f s j=betF f' s j
 | 0,0,_,_,_,_ => rfl
 | 0,f'+1,s,j,h,_ => by unfold betF;rw [if_neg (by omega)]
 | f+1,0,s,j,_,h => by unfold betF;rw [if_neg (by omega)]
 | f+1,f'+1,s,j,h,h' => by
  unfold betF
  by_cases hj:j < s.size
  ·rw [if_pos hj,if_pos hj]
   split
   ·exact betF_same f f' s _ (by omega) (by omega)
   ·split
    ·rename_i h37
     have:=line_gt hj h37
     exact betF_same f f' s _ (by omega) (by omega)
    ·split
     ·have:=endN_ge s (j+2)
      split
      ·exact betF_same f f' s _ (by omega) (by omega)
      ·rfl
     ·rfl
  ·rw [if_neg hj,if_neg hj]
theorem betN_eq {s:ByteArray} {j:Nat} (h:j < s.size):betN s j =
 if blankB (bn s j) then betN s (j+1)
  else if (bn s j:Int) == 37 then betN s (lineN s j)
  else if twoB s j 47 42 then (if endN s (j+2) < s.size then betN s (endN s (j+2)+2) else (j,false))
  else (j,true):=by
 obtain ⟨f,hf⟩:∃ f,s.size - j=f+1:=⟨s.size - j - 1,by omega⟩
 unfold betN
 rw [hf]
 conv => lhs;unfold betF
 rw [if_pos h]
 split
 ·exact betF_same _ _ s _ (by omega) (by omega)
 ·split
  ·rename_i h37
   have:=line_gt h h37
   exact betF_same _ _ s _ (by omega) (by omega)
  ·split
   ·have:=endN_ge s (j+2)
    split
    ·exact betF_same _ _ s _ (by omega) (by omega)
    ·rfl
   ·rfl
theorem betN_end {s:ByteArray} {j:Nat} (h:s.size≤j):betN s j=(j,true):=by
 have:s.size - j=0:=by omega
 simp [betN,this,betF]
theorem betF_ge:∀ (f:Nat) (s:ByteArray) (j:Nat),j≤s.size→j≤(betF f s j).1∧(betF f s j).1≤s.size
 | 0,_,j,h => ⟨Nat.le_refl _,h⟩
 | f+1,s,j,h => by
  unfold betF
  by_cases hj:j < s.size
  ·rw [if_pos hj]
   split
   ·have:=betF_ge f s (j+1) (by omega);omega
   ·split
    ·have:=betF_ge f s (lineN s j) (lineN_le h);have:=lineN_ge s j;omega
    ·split
     ·have h1:=endN_ge s (j+2)
      split
      ·rename_i h2
       have h3:=twoB_lt (endN_two h2)
       have:=betF_ge f s (endN s (j+2)+2) (by omega);omega
      ·exact ⟨Nat.le_refl _,h⟩
     ·exact ⟨Nat.le_refl _,h⟩
  ·rw [if_neg hj];exact ⟨Nat.le_refl _,h⟩
theorem betN_ge {s:ByteArray} {j:Nat} (h:j≤s.size):j≤(betN s j).1∧(betN s j).1≤s.size:=betF_ge _ s j h
inductive QuoR where
 | ok (t:List UInt8) (p:Nat)
 | bad (p:Nat) (e:Int)
def quoF:Nat→ByteArray→Nat→Nat→List UInt8→QuoR
 | 0,_,i,_,_ => .bad i 31
 | f+1,s,i,k,b =>
  if k < s.size then
   if twoB s k 39 39 then quoF f s i (k+2) (b++[39])
   else if (bn s k:Int) == 39 then .ok b (k+1)
   else if (bn s k:Int) == 92 then
    if k+1=s.size then .bad i 31
    else if (bn s (k+1):Int) == 110 then quoF f s i (k+2) (b++[10])
    else if (bn s (k+1):Int) == 116 then quoF f s i (k+2) (b++[9])
    else if (bn s (k+1):Int) == 92 || (bn s (k+1):Int) == 39 then quoF f s i (k+2) (b++[bu s (k+1)])
    else .bad k 32
   else if decide ((bn s k:Int) < 32) || decide ((126:Int) < (bn s k:Int)) then .bad k 30
   else quoF f s i (k+1) (b++[bu s k])
  else .bad i 31
def quoN (s:ByteArray) (i k:Nat) (b:List UInt8):QuoR:=quoF (s.size - k) s i k b
theorem quoF_same:∀ (f f':Nat) (s:ByteArray) (i k:Nat) (b:List UInt8),s.size≤k+f→s.size≤k+f'→quoF f s i k b=quoF f' s i k b
 | 0,0,_,_,_,_,_,_ => rfl
 | 0,f'+1,s,i,k,b,h,_ => by unfold quoF;rw [if_neg (by omega)]
 | f+1,0,s,i,k,b,_,h => by unfold quoF;rw [if_neg (by omega)]
 | f+1,f'+1,s,i,k,b,h,h' => by
  unfold quoF
  have e1:∀ b',quoF f s i (k+1) b'=quoF f' s i (k+1) b':=fun b' => quoF_same f f' s i _ b' (by omega) (by omega)
  have e2:∀ b',quoF f s i (k+2) b'=quoF f' s i (k+2) b':=fun b' => quoF_same f f' s i _ b' (by omega) (by omega)
  simp only [e1,e2]
theorem quoN_eq {s:ByteArray} {i k:Nat} {b:List UInt8} (h:k < s.size):quoN s i k b =
 if twoB s k 39 39 then quoN s i (k+2) (b++[39])
 else if (bn s k:Int) == 39 then .ok b (k+1)
 else if (bn s k:Int) == 92 then
  if k+1=s.size then .bad i 31
  else if (bn s (k+1):Int) == 110 then quoN s i (k+2) (b++[10])
  else if (bn s (k+1):Int) == 116 then quoN s i (k+2) (b++[9])
  else if (bn s (k+1):Int) == 92 || (bn s (k+1):Int) == 39 then quoN s i (k+2) (b++[bu s (k+1)])
  else .bad k 32
 else if decide ((bn s k:Int) < 32) || decide ((126:Int) < (bn s k:Int)) then .bad k 30
 else quoN s i (k+1) (b++[bu s k]):=by
 obtain ⟨f,hf⟩:∃ f,s.size - k=f+1:=⟨s.size - k - 1,by omega⟩
 unfold quoN
 rw [hf]
 conv => lhs;unfold quoF
 rw [if_pos h]
 have e1:∀ b',quoF f s i (k+1) b'=quoF (s.size - (k+1)) s i (k+1) b':=fun b' => quoF_same _ _ s i _ b' (by omega) (by omega)
 have e2:∀ b',quoF f s i (k+2) b'=quoF (s.size - (k+2)) s i (k+2) b':=fun b' => quoF_same _ _ s i _ b' (by omega) (by omega)
 simp only [e1,e2]
theorem quoN_end {s:ByteArray} {i k:Nat} {b:List UInt8} (h:s.size≤k):quoN s i k b=.bad i 31:=by
 have:s.size - k=0:=by omega
 simp [quoN,this,quoF]
def byteB (c:UInt8):Bool:=c == 10 || c == 9 || (decide (32≤c.toNat) && decide (c.toNat≤126))
theorem quoF_ok:∀ (f:Nat) (s:ByteArray) (i k:Nat) (b t:List UInt8) (p:Nat),(∀ c ∈ b,byteB c=true)→b.length≤k→quoF f s i k b=.ok t p→k < p∧p≤s.size∧t.length≤p∧∀ c ∈ t,byteB c=true
 | 0,_,_,_,_,_,_,_,_,h => by unfold quoF at h;cases h
 | f+1,s,i,k,b,t,p,hb,hl,h => by
  unfold quoF at h
  have add:∀ c,byteB c=true→∀ x ∈ b++[c],byteB x=true:=fun c hc x hx => by
   rcases List.mem_append.1 hx with h1 | h1
   ·exact hb x h1
   ·simp at h1;subst h1;exact hc
  by_cases hk:k < s.size
  ·rw [if_pos hk] at h
   split at h
   ·have:=quoF_ok f s i _ _ t p (add 39 (by decide)) (by simp;omega) h;exact ⟨by omega,this.2.1,this.2.2.1,this.2.2.2⟩
   ·split at h
    ·injection h with h1 h2;subst h1;subst h2;exact ⟨by omega,by omega,by omega,hb⟩
    ·split at h
     ·split at h
      ·cases h
      ·split at h
       ·have:=quoF_ok f s i _ _ t p (add 10 (by decide)) (by simp;omega) h;exact ⟨by omega,this.2.1,this.2.2.1,this.2.2.2⟩
       ·split at h
        ·have:=quoF_ok f s i _ _ t p (add 9 (by decide)) (by simp;omega) h;exact ⟨by omega,this.2.1,this.2.2.1,this.2.2.2⟩
        ·split at h
         ·rename_i h9
          have hc:byteB (bu s (k+1))=true:=by
           simp only [bn_bu,Bool.or_eq_true,beq_iff_eq] at h9
           unfold byteB
           simp
           omega
          have:=quoF_ok f s i _ _ t p (add _ hc) (by simp;omega) h;exact ⟨by omega,this.2.1,this.2.2.1,this.2.2.2⟩
         ·cases h
     ·split at h
      ·cases h
      ·rename_i h9
       have hc:byteB (bu s k)=true:=by
        have h1:32≤(bu s k).toNat∧(bu s k).toNat≤126:=by
         have h2:¬ ((bn s k:Int) < 32):=fun h => h9 (by rw [decide_eq_true h];rfl)
         have h3:¬ ((126:Int) < (bn s k:Int)):=fun h => h9 (by rw [decide_eq_true h,Bool.or_true])
         rw [bn_bu] at h2 h3
         omega
        unfold byteB
        rw [decide_eq_true h1.1,decide_eq_true h1.2]
        simp
       have:=quoF_ok f s i _ _ t p (add _ hc) (by simp;omega) h;exact ⟨by omega,this.2.1,this.2.2.1,this.2.2.2⟩
  ·rw [if_neg hk] at h;cases h
def opens (o:Option Tk) (f:Nat):Bool:=match o with
 | some x => x.k == 1 && x.b == f
 | none => false
def headN (s:ByteArray) (f:Nat) (o:Option Tk):Option (Int × Nat):=
 if (bn s f:Int) == 46 && (decide (f+1=s.size) || blankB (bn s (f+1)) || (bn s (f+1):Int) == 37) then some (6,f+1)
 else if smallB (bn s f) then some (1,runN 1 s f)
 else if greatB (bn s f) then some (2,runN 1 s f)
 else if digitB (bn s f) then some (3,runN 2 s f)
 else if signB (bn s f) then some (1,runN 3 s f)
 else if (bn s f:Int) == 33 || (bn s f:Int) == 59 then some (1,f+1)
 else if (bn s f:Int) == 39 then some (1,0)
 else if markB (bn s f) then some (if (bn s f:Int) == 40 && opens o f then 4 else 5,f+1)
 else none
inductive LexR where
 | ok (l:List Tk)
 | bad (p:Nat) (e:Int)
def toksF:Nat→ByteArray→Nat→List Tk→LexR
 | 0,_,_,l => .ok l
 | fu+1,s,k,l =>
  if k < s.size then
   match betN s k with
   | (f,false) => .bad f 31
   | (f,true) =>
    if f=s.size then .ok l
    else match headN s f l.getLast? with
     | none => .bad f 30
     | some (K,j) =>
      if l.length=1000 then .bad f 34
      else if (bn s f:Int) == 39 then
       match quoN s f (f+1) [] with
       | .ok t p => toksF fu s p (l++[⟨K,⟨t.toArray⟩,f,p⟩])
       | .bad p e => .bad p e
      else toksF fu s j (l++[⟨K,s.extract f j,f,j⟩])
  else .ok l
def toksN (s:ByteArray) (k:Nat) (l:List Tk):LexR:=toksF (s.size - k) s k l
def lexN (s:ByteArray):LexR:=if 4096 < s.size then .bad 0 33 else toksN s 0 []
theorem signB_iff {c:Int}:signB c=true↔c ∈ ([43,45,42,47,92,94,60,62,61,58,46,63,64,35,36,38,126]:List Int):=by
 simp only [signB,List.any_eq_true,List.mem_range,decide_eq_true_eq]
 constructor
 ·rintro ⟨j,hj,rfl⟩
  revert j
  decide
 ·intro h
  simp only [List.mem_cons,List.not_mem_nil,or_false] at h
  rcases h with rfl | rfl | rfl | rfl | rfl | rfl | rfl | rfl | rfl | rfl | rfl | rfl | rfl | rfl | rfl | rfl | rfl
  all_goals first | exact ⟨0,by decide,by decide⟩ | exact ⟨1,by decide,by decide⟩ | exact ⟨2,by decide,by decide⟩ | exact ⟨3,by decide,by decide⟩ | exact ⟨4,by decide,by decide⟩ | exact ⟨5,by decide,by decide⟩ | exact ⟨6,by decide,by decide⟩ | exact ⟨7,by decide,by decide⟩ | exact ⟨8,by decide,by decide⟩ | exact ⟨9,by decide,by decide⟩ | exact ⟨10,by decide,by decide⟩ | exact ⟨11,by decide,by decide⟩ | exact ⟨12,by decide,by decide⟩ | exact ⟨13,by decide,by decide⟩ | exact ⟨14,by decide,by decide⟩ | exact ⟨15,by decide,by decide⟩ | exact ⟨16,by decide,by decide⟩
theorem headN_ok {s:ByteArray} {f:Nat} {o:Option Tk} {K:Int} {j:Nat} (h:headN s f o=some (K,j)) (hf:f < s.size) (hq:((bn s f:Int) == 39)=false):1≤K∧K≤6∧f < j∧j≤s.size:=by
 unfold headN at h
 have r1:∀ k,kindB k (bn s f)=true→f < runN k s f∧runN k s f≤s.size:=fun k hk => ⟨runN_gt hf hk,runN_le (by omega)⟩
 split at h
 ·injection h with h;injection h with h1 h2;subst h1;subst h2;omega
 ·split at h
  ·rename_i hs
   have:=r1 1 (by simp [kindB,namedB,hs])
   injection h with h;injection h with h1 h2;subst h1;subst h2;omega
  ·split at h
   ·rename_i hs
    have:=r1 1 (by simp [kindB,namedB,hs])
    injection h with h;injection h with h1 h2;subst h1;subst h2;omega
   ·split at h
    ·rename_i hs
     have:=r1 2 (by simp [kindB,hs])
     injection h with h;injection h with h1 h2;subst h1;subst h2;omega
    ·split at h
     ·rename_i hs
      have:=r1 3 (by simp [kindB,hs])
      injection h with h;injection h with h1 h2;subst h1;subst h2;omega
     ·split at h
      ·injection h with h;injection h with h1 h2;subst h1;subst h2;omega
      ·rw [hq] at h
       simp only [Bool.false_eq_true,if_false] at h
       split at h
       ·injection h with h;injection h with h1 h2
        split at h1 <;> subst h1 <;> subst h2 <;> omega
       ·cases h
theorem headN_kind {s:ByteArray} {f:Nat} {o:Option Tk} {K:Int} {j:Nat} (h:headN s f o=some (K,j)):1≤K∧K≤6:=by
 unfold headN at h
 repeat' split at h
 all_goals first | (injection h with h;injection h with h1 h2;first | (subst h1;decide) | (split at h1 <;> subst h1 <;> decide)) | cases h
theorem toksF_same:∀ (fu fu':Nat) (s:ByteArray) (k:Nat) (l:List Tk),s.size≤k+fu→s.size≤k+fu'→toksF fu s k l=toksF fu' s k l
 | 0,0,_,_,_,_,_ => rfl
 | 0,fu'+1,s,k,l,h,_ => by unfold toksF;rw [if_neg (by omega)]
 | fu+1,0,s,k,l,_,h => by unfold toksF;rw [if_neg (by omega)]
 | fu+1,fu'+1,s,k,l,h,h' => by
  unfold toksF
  by_cases hk:k < s.size
  ·rw [if_pos hk,if_pos hk]
   have hb:=betN_ge (s:=s) (j:=k) (by omega)
   cases hbe:betN s k with
   | mk f ok =>
    rw [hbe] at hb
    dsimp only at hb
    cases ok with
    | false => rfl
    | true =>
     dsimp only
     by_cases hf:f=s.size
     ·rw [if_pos hf,if_pos hf]
     rw [if_neg hf,if_neg hf]
     cases hh:headN s f l.getLast? with
     | none => rfl
     | some q =>
      obtain ⟨K,j⟩:=q
      dsimp only
      split
      ·rfl
      ·split
       ·cases hq:quoN s f (f+1) [] with
        | ok t p =>
         dsimp only
         have:=quoF_ok _ _ _ _ _ _ _ (by simp) (Nat.zero_le _) hq
         exact toksF_same fu fu' s p _ (by omega) (by omega)
        | bad p e => rfl
       ·rename_i h39
        have:=headN_ok hh (by omega) (by simpa using h39)
        exact toksF_same fu fu' s j _ (by omega) (by omega)
  ·rw [if_neg hk,if_neg hk]
theorem toksN_eq {s:ByteArray} {k:Nat} {l:List Tk} (h:k < s.size):toksN s k l =
 match betN s k with
 | (f,false) => .bad f 31
 | (f,true) =>
  if f=s.size then .ok l
  else match headN s f l.getLast? with
   | none => .bad f 30
   | some (K,j) =>
    if l.length=1000 then .bad f 34
    else if (bn s f:Int) == 39 then
     match quoN s f (f+1) [] with
     | .ok t p => toksN s p (l++[⟨K,⟨t.toArray⟩,f,p⟩])
     | .bad p e => .bad p e
    else toksN s j (l++[⟨K,s.extract f j,f,j⟩]):=by
 obtain ⟨fu,hfu⟩:∃ fu,s.size - k=fu+1:=⟨s.size - k - 1,by omega⟩
 unfold toksN
 rw [hfu]
 conv => lhs;unfold toksF
 rw [if_pos h]
 have hb:=betN_ge (s:=s) (j:=k) (by omega)
 cases hbe:betN s k with
 | mk f ok =>
  rw [hbe] at hb
  dsimp only at hb
  cases ok with
  | false => rfl
  | true =>
   dsimp only
   by_cases hf:f=s.size
   ·rw [if_pos hf,if_pos hf]
   rw [if_neg hf,if_neg hf]
   cases hh:headN s f l.getLast? with
   | none => rfl
   | some q =>
    obtain ⟨K,j⟩:=q
    dsimp only
    split
    ·rfl
    ·split
     ·cases hq:quoN s f (f+1) [] with
      | ok t p =>
       dsimp only
       have:=quoF_ok _ _ _ _ _ _ _ (by simp) (Nat.zero_le _) hq
       exact toksF_same _ _ s p _ (by omega) (by omega)
      | bad p e => rfl
     ·rename_i h39
      have:=headN_ok hh (by omega) (by simpa using h39)
      exact toksF_same _ _ s j _ (by omega) (by omega)
theorem toksN_end {s:ByteArray} {k:Nat} {l:List Tk} (h:s.size≤k):toksN s k l=.ok l:=by
 have:s.size - k=0:=by omega
 simp [toksN,this,toksF]
end Go.Proofs.YtdgpmpccfjmmcaaGreatDoor
namespace Go.Proofs.YtdgpmpccfjmmcaaGreatDoor
open Go.RowKit
end Go.Proofs.YtdgpmpccfjmmcaaGreatDoor
namespace Go.Proofs.YtdgpmpccfjmmcaaGreatDoor
theorem list_len (s:ByteArray):s.data.toList.length=s.size:=by rw [Array.length_toList];rfl
theorem list_extract (s:ByteArray) (a b:Nat):(s.extract a b).data.toList=(s.data.toList.drop a).take (b - a):=by
 rw [ByteArray.data_extract,Array.toList_extract]
theorem list_rest (s:ByteArray) (a:Nat):(s.extract a s.size).data.toList=s.data.toList.drop a:=by
 rw [list_extract]
 apply List.take_of_length_le
 rw [List.length_drop,list_len]
 omega
theorem list_at (s:ByteArray) {i:Nat} (h:i < s.size):s.data.toList[i]? =some (bu s i):=by
 unfold bu
 rw [List.getD_eq_getElem?_getD,List.getElem?_eq_getElem (by rw [list_len];exact h)]
 rfl
theorem list_no (s:ByteArray) {i:Nat} (h:s.size≤i):s.data.toList[i]? =none:=List.getElem?_eq_none (by rw [list_len];exact h)
theorem bn_extract (s:ByteArray) (a b:Nat) {i:Nat} (h:a+i < b):bn (s.extract a b) i=bn s (a+i):=by
 unfold bn
 rw [list_extract,List.getD_eq_getElem?_getD,List.getD_eq_getElem?_getD,List.getElem?_take,if_pos (by omega),List.getElem?_drop]
theorem pre_two (s:ByteArray) (p:Nat) (a b:UInt8):List.isPrefixOf [a,b] (s.data.toList.drop p)=twoB s p a.toNat b.toNat:=by
 have h0:=List.getElem?_drop (xs:=s.data.toList) (i:=p) (j:=0)
 have h1:=List.getElem?_drop (xs:=s.data.toList) (i:=p) (j:=1)
 unfold twoB
 by_cases hp:p+1 < s.size
 ·rw [list_at s (by omega)] at h0
  rw [list_at s hp] at h1
  match hd:s.data.toList.drop p,h0,h1 with
  | x ::y ::l,h0,h1 =>
   simp at h0 h1
   subst h0;subst h1
   have e:∀ (u v:UInt8),(u == v)=(((v.toNat:Nat):Int) == ((u.toNat:Nat):Int)):=fun u v => by
    rw [Bool.eq_iff_iff,beq_iff_eq,beq_iff_eq]
    exact ⟨fun h => by rw [h],fun h => UInt8.toNat_inj.1 (by omega)⟩
   simp only [List.isPrefixOf,decide_eq_true hp,Bool.true_and,Bool.and_true,bn_bu]
   rw [e,e]
 ·rw [decide_eq_false hp]
  rw [list_no s (by omega)] at h1
  match hd:s.data.toList.drop p,h1 with
  | [],_ => rfl
  | [x],_ => simp [List.isPrefixOf]
theorem has_two (s:ByteArray) (p:Nat) (a b:UInt8):Lib.hasPrefix (s.extract p s.size).data.toList [a,b]=twoB s p a.toNat b.toNat:=by
 unfold Lib.hasPrefix
 rw [list_rest,pre_two]
theorem line_at (s:ByteArray):∀ (n j:Nat),j+n≤s.size→(∀ x,x < n→((bn s (j+x):Int) != 10)=true)→(j+n=s.size∨((bn s (j+n):Int) != 10)=false)→lineN s j=j+n
 | 0,j,_,_,h => by
  rcases h with h | h
  ·exact lineN_end (by omega)
  ·exact lineN_stop h
 | n+1,j,hl,hx,h => by
  rw [lineN_step (by omega) (by have:=hx 0 (by omega);simpa using this),line_at s n (j+1) (by omega) (fun x hx' => by have:=hx (x+1) (by omega);rwa [show j+(x+1)=j+1+x by omega] at this) (by rcases h with h | h;exact .inl (by omega);exact .inr (by rwa [show j+(n+1)=j+1+n by omega] at h))]
  omega
theorem end_at (s:ByteArray):∀ (n j:Nat),j+n≤s.size→(∀ x,x < n→twoB s (j+x) 42 47=false)→(j+n=s.size∨twoB s (j+n) 42 47=true)→endN s j=j+n
 | 0,j,_,_,h => by
  rcases h with h | h
  ·exact endN_end (by omega)
  ·exact endN_stop h
 | n+1,j,hl,hx,h => by
  rw [endN_step (by omega) (by have:=hx 0 (by omega);simpa using this),end_at s n (j+1) (by omega) (fun x hx' => by have:=hx (x+1) (by omega);rwa [show j+(x+1)=j+1+x by omega] at this) (by rcases h with h | h;exact .inl (by omega);exact .inr (by rwa [show j+(n+1)=j+1+n by omega] at h))]
  omega
theorem ne10 (c:UInt8):(((c.toNat:Nat):Int) != 10)=true↔c≠10:=by
 rw [bne_iff_ne]
 constructor
 ·rintro h rfl;exact h rfl
 ·intro h e
  exact h (UInt8.toNat_inj.1 (by have:(10:UInt8).toNat=10:=rfl;omega))
theorem idx_line (s:ByteArray) (j:Nat) (hj:j≤s.size):(Lib.indexByte (s.extract j s.size).data.toList 10 < 0∧lineN s j=s.size)∨∃ n:Nat,Lib.indexByte (s.extract j s.size).data.toList 10=(n:Int)∧lineN s j=j+n∧j+n < s.size:=by
 rw [list_rest]
 have hge:=Lib.indexByte_ge (s.data.toList.drop j) 10
 rcases Int.lt_or_le (Lib.indexByte (s.data.toList.drop j) 10) 0 with h | h
 ·refine .inl ⟨h,?_⟩
  have hn:=Lib.indexByte_none (l:=s.data.toList.drop j) (c:=10) (by omega)
  have:=line_at s (s.size - j) j (by omega) (fun x hx => by
   have h1:=hn x
   rw [List.getElem?_drop,list_at s (by omega)] at h1
   rw [bn_bu,ne10]
   exact fun e => h1 (by rw [e])) (.inl (by omega))
  omega
 ·obtain ⟨n,hn⟩:∃ n:Nat,Lib.indexByte (s.data.toList.drop j) 10=(n:Int):=⟨_,(Int.toNat_of_nonneg h).symm⟩
  obtain ⟨h1,h2⟩:=Lib.indexByte_some hn
  rw [List.getElem?_drop] at h1
  have hlt:j+n < s.size:=by
   rcases Nat.lt_or_ge (j+n) s.size with h3 | h3
   ·exact h3
   ·rw [list_no s h3] at h1;cases h1
  refine .inr ⟨n,hn,line_at s n j (by omega) (fun x hx => ?_) (.inr ?_),hlt⟩
  ·have h3:=h2 x hx
   rw [List.getElem?_drop,list_at s (by omega)] at h3
   rw [bn_bu,ne10]
   exact fun e => h3 (by rw [e])
  ·rw [list_at s hlt] at h1
   injection h1 with h1
   rw [bn_bu,h1]
   rfl
theorem idx_end (s:ByteArray) (j:Nat) (hj:j≤s.size):(Lib.index (s.extract j s.size).data.toList [42,47] < 0∧endN s j=s.size)∨∃ n:Nat,Lib.index (s.extract j s.size).data.toList [42,47]=(n:Int)∧endN s j=j+n∧j+n < s.size:=by
 rw [list_rest]
 have ho:∀ x,Lib.occAt (s.data.toList.drop j) [42,47] x=twoB s (j+x) 42 47:=fun x => by
  unfold Lib.occAt
  rw [List.drop_drop]
  exact pre_two s (j+x) 42 47
 rcases Lib.index_spec (s.data.toList.drop j) [42,47] with ⟨h1,h2⟩ | ⟨n,h1,h2,h3,h4⟩
 ·refine .inl ⟨by omega,?_⟩
  have:=end_at s (s.size - j) j (by omega) (fun x hx => by rw [← ho];exact h2 x (by rw [List.length_drop,list_len];omega)) (.inl (by omega))
  omega
 ·rw [ho] at h3
  have hlt:=twoB_lt h3
  exact .inr ⟨n,h1,end_at s n j (by omega) (fun x hx => by rw [← ho];exact h4 x hx) (.inr h3),by omega⟩
end Go.Proofs.YtdgpmpccfjmmcaaGreatDoor
namespace Go.Proofs.YtdgpmpccfjmmcaaGreatDoor
open Go.RowKit
end Go.Proofs.YtdgpmpccfjmmcaaGreatDoor
namespace Go.Proofs.YtdgpmpccfjmmcaaGreatDoor
open Go.RowKit
end Go.Proofs.YtdgpmpccfjmmcaaGreatDoor
namespace Go.Proofs.YtdgpmpccfjmmcaaGreatDoor
open Go.RowKit
theorem Tryz.info_tok:(Tryz.prog.info? 116).map (fun i => (i.zero,i.size,i.bytes))=some (some (.agg #[.int .i64 0,.string ⟨#[]⟩,.int .i64 0,.int .i64 0]),4,40):=by kernel_rfl
theorem elTok:El Tryz.prog 97 116 (.agg #[.int .i64 0,.string ⟨#[]⟩,.int .i64 0,.int .i64 0]) 4 40:=by
 obtain ⟨i0,hi,hz0,hz1,hz2⟩:=info_parts Tryz.info_tok
 exact ⟨Tryz.underlying97,⟨i0,hi,hz0,hz1,hz2⟩,rfl,by omega⟩
def TokQ (s:ByteArray) (B:Nat) (w':World) (v:Value) (p er:Int):Prop:=match lexN s with
 | .ok l => p=0∧er=0∧w'.ownsRow B 116 4 v l.length (tkCells l)∧l.length≤1000∧s.size≤4096∧∀ x ∈ l,x.ok s.size
 | .bad q e => v=.slice none 0 0∧p=(q:Int)∧er=e∧er≠0
theorem tokQ_bad {s:ByteArray} {B:Nat} {w':World} {q:Nat} {e:Int} (h:lexN s=.bad q e) (he:e≠0):TokQ s B w' (.slice none 0 0) (q:Int) e:=by
 unfold TokQ;rw [h];exact ⟨rfl,rfl,rfl,he⟩
theorem tokQ_ok {s:ByteArray} {B:Nat} {w':World} {v:Value} {l:List Tk} {n:Nat} (h:lexN s=.ok l) (hn:l.length=n) (ho:w'.ownsRow B 116 4 v n (tkCells l)) (hf:n≤1000) (hs:s.size≤4096) (hx:∀ x ∈ l,x.ok s.size):TokQ s B w' v 0 0:=by
 subst hn;unfold TokQ;rw [h];exact ⟨rfl,rfl,ho,hf,hs,hx⟩
theorem quo_bad:∀ (f:Nat) (s:ByteArray) (i k:Nat) (b:List UInt8) (p:Nat) (e:Int),quoF f s i k b=.bad p e→e≠0
 | 0,_,_,_,_,_,_,h => by unfold quoF at h;injection h with _ h;omega
 | f+1,s,i,k,b,p,e,h => by
  unfold quoF at h
  repeat' split at h
  all_goals first | exact quo_bad f s i _ _ p e h | (injection h with _ h;omega) | cases h
end Go.Proofs.YtdgpmpccfjmmcaaGreatDoor
