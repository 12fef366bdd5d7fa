/- The reference's parser:atom,cmp,two,one. The reference's operators:that its functions return. The reference's Print and Parse of integers:that they return. The reference's parser:integer and variable. The program's parser:peek,take,fail,mark,must. The program's parser:mark,must,cell,constant. -/
import Derived.Test.YtdgpmpccfjmmcaaGreatDoorKJAb
import Derived.Test.YtdgpmpccfjmmcaaGreatDoorKJAa
import Derived.WalkSpells
import Derived.Lib.Bytes
import Derived.BigQuiet
import Derived.Deep.QuietTactic
import Derived.Deep.DeepMust
import Derived.WalkLawsBesides
set_option linter.unusedVariables false
set_option linter.unusedSimpArgs false
namespace Go.Proofs.YtdgpmpccfjmmcaaGreatDoor
open Go.RowKit
theorem Tryz.info_term:(Tryz.prog.info? 51).map (fun i => (i.zero,i.size,i.bytes))=some (some (.agg #[.int .i64 0,.int .i64 0,.string ⟨#[]⟩,.slice none 0 0]),4,56):=by kernel_rfl
theorem elTerm:El Tryz.prog 47 51 (.agg #[.int .i64 0,.int .i64 0,.string ⟨#[]⟩,.slice none 0 0]) 4 56:=by
 obtain ⟨i0,hi,hz0,hz1,hz2⟩:=info_parts Tryz.info_term
 exact ⟨Tryz.underlying47,⟨i0,hi,hz0,hz1,hz2⟩,rfl,by omega⟩
def Cells4 (w:World) (S:Nat→Prop) (cs:Array Value) (n:Nat) (ts:Nat→T):Prop:=
 ∀ i,i < n→∃ v0 v1 v2 v3,cs[4*i]? =some v0∧cs[4*i+1]? =some v1∧cs[4*i+2]? =some v2∧cs[4*i+3]? =some v3∧TP w S (ts i) (.agg #[v0,v1,v2,v3])
theorem one_cells {w:World} {S:Nat→Prop} {t:T} {v0 v1 v2 v3:Value} (h:TP w S t (.agg #[v0,v1,v2,v3])):v0.oneCell'=true∧v1.oneCell'=true∧v2.oneCell'=true∧v3.oneCell'=true:=by
 obtain ⟨k,n,s,A,m,c,he⟩:=h.agg
 injection he with he
 simp only [Array.mk.injEq,List.cons.injEq,and_true] at he
 obtain ⟨rfl,rfl,rfl,rfl⟩:=he
 exact ⟨rfl,rfl,rfl,rfl⟩
theorem Cells4.get {w:World} {S:Nat→Prop} {cs:Array Value} {n:Nat} {ts:Nat→T} (h:Cells4 w S cs n ts) (j:Nat) (hj:j < n*4):∃ u,cs[j]? =some u∧u.oneCell'=true:=by
 obtain ⟨v0,v1,v2,v3,h0,h1,h2,h3,ht⟩:=h (j / 4) (by omega)
 obtain ⟨o0,o1,o2,o3⟩:=one_cells ht
 rcases (by omega:j=4*(j / 4)∨j=4*(j / 4)+1∨j=4*(j / 4)+2∨j=4*(j / 4)+3) with e | e | e | e
 ·exact ⟨v0,by rw [e];exact h0,o0⟩
 ·exact ⟨v1,by rw [e];exact h1,o1⟩
 ·exact ⟨v2,by rw [e];exact h2,o2⟩
 ·exact ⟨v3,by rw [e];exact h3,o3⟩
theorem Cells4.size {w:World} {S:Nat→Prop} {cs:Array Value} {n:Nat} {ts:Nat→T} (h:Cells4 w S cs n ts):n*4≤cs.size:=by
 rcases Nat.eq_zero_or_pos n with h0 | h0
 ·omega
 ·obtain ⟨u,hu,_⟩:=h.get (n*4 - 1) (by omega)
  have:=(Array.getElem?_eq_some_iff.1 hu).1
  omega
theorem box_put4 {w:World} {g:Nat} {t:TypeId} {m:Nat × Nat} {u0 u1 u2 u3:Value} (h:w.heap[g]? =some (.cells #[u0,u1,u2,u3] t m)) (a b c d:Value) {W:World}
 (hW:(((w.setCell ⟨g,0,none⟩ a).setCell ⟨g,1,none⟩ b).setCell ⟨g,2,none⟩ c).setCell ⟨g,3,none⟩ d=W) :
 W.heap[g]? =some (.cells #[a,b,c,d] t m)∧W.heap.size=w.heap.size∧(∀ k,k≠g→W.heap[k]? =w.heap[k]?)∧∀ B w0,B≤g→Below B w0 w→Below B w0 W:=by
 subst hW
 refine ⟨by simpa using blk_set (blk_set (blk_set (blk_set h 0 a) 1 b) 2 c) 3 d,by simp,fun k hk => ?_,fun B w0 hB hw => (((hw.setCell hB a).setCell hB b).setCell hB c).setCell hB d⟩
 rw [Below.heap_setCell _ _ _ k hk,Below.heap_setCell _ _ _ k hk,Below.heap_setCell _ _ _ k hk,Below.heap_setCell _ _ _ k hk]
theorem tp_put {w:World} {g:Nat} {ty:TypeId} {m:Nat × Nat} {u0 u1 u2 u3:Value} (h:w.heap[g]? =some (.cells #[u0,u1,u2,u3] ty m)) (a b c d:Value) {S:Nat→Prop} {t:T} {v:Value} (ht:TP w S t v) (hne:∀ b,S b→b≠g) :
 TP ((((w.setCell ⟨g,0,none⟩ a).setCell ⟨g,1,none⟩ b).setCell ⟨g,2,none⟩ c).setCell ⟨g,3,none⟩ d) S t v:=
 ht.keep fun b' _ _ hS hb => ⟨((box_put4 h a b c d rfl).2.2.1 b' (hne b' hS)).trans hb,hS⟩
theorem TP.old {w:World} {S:Nat→Prop} {t:T} {v:Value} (h:TP w S t v):TP w (fun b => S b∧b < w.heap.size) t v:=h.keep fun _ _ _ hS hb => ⟨hb,hS,heap_lt hb⟩
theorem TP.below {w w':World} {S:Nat→Prop} {t:T} {v:Value} (h:TP w S t v) (hb:Below w.heap.size w w'):TP w' S t v:=h.keep fun b _ _ hS hh => ⟨(hb.block b (heap_lt hh)).trans hh,hS⟩
end Go.Proofs.YtdgpmpccfjmmcaaGreatDoor
namespace Go.Proofs.YtdgpmpccfjmmcaaGreatDoor
open Go.RowKit
theorem Tryz.info_str:(Tryz.prog.info? 9).map (fun i => (i.zero,i.size,i.bytes))=some (some (.string ⟨#[]⟩),1,16):=by kernel_rfl
theorem elStr:El Tryz.prog 52 9 (.string ⟨#[]⟩) 1 16:=by
 obtain ⟨i0,hi,hz0,hz1,hz2⟩:=info_parts Tryz.info_str
 exact ⟨Tryz.underlying52,⟨i0,hi,hz0,hz1,hz2⟩,rfl,by omega⟩
theorem drop_bu {s:ByteArray} {i:Nat} (hi:i < s.size):s.data.toList.drop i=bu s i ::s.data.toList.drop (i+1):=by
 have hl:i < s.data.toList.length:=by rw [Array.length_toList];exact hi
 rw [List.drop_eq_getElem_cons hl]
 congr 1
 unfold bu;rw [List.getD_eq_getElem?_getD,List.getElem?_eq_getElem hl];rfl
end Go.Proofs.YtdgpmpccfjmmcaaGreatDoor
namespace Go.Proofs.YtdgpmpccfjmmcaaGreatDoor
open Go.RowKit
theorem p10_small {N k:Nat} (h:N*10 ^ k≤9223372036854775808) (hN:9 < N):k≤18:=by
 rcases Nat.lt_or_ge k 19 with h1 | h1
 ·omega
 ·exfalso
  have h2:10 ^ 19≤10 ^ k:=Nat.pow_le_pow_right (by omega) h1
  have h3:10*10 ^ k≤N*10 ^ k:=Nat.mul_le_mul_right _ (by omega)
  have h4:(10:Nat) ^ 19=10000000000000000000:=by decide
  omega
theorem pow_step {N k:Nat} (h:N*10 ^ k≤9223372036854775808):N / 10*10 ^ (k+1)≤9223372036854775808:=by
 refine Nat.le_trans ?_ h
 rw [Nat.pow_succ,Nat.mul_comm (10 ^ k) 10,← Nat.mul_assoc]
 exact Nat.mul_le_mul_right _ (Nat.div_mul_le_self N 10)
theorem dig_one:∀ d,d < 10→(⟨#[48,49,50,51,52,53,54,55,56,57]⟩:ByteArray).extract d (d+1)=⟨#[UInt8.ofNat (48+d)]⟩:=by decide
structure PrRel (nv sv:Value) (N0 N k:Nat) (t:ByteArray):Prop where
 hn:nv=.int .u64 (N:Int)
 hs:sv=.string t
 hk:t.size=k
 up:k≤19
 pow:N*10 ^ k≤9223372036854775808
 dec:Hid (Lib.decDigits N0=Lib.decDigits N++t.data.toList)
theorem PrRel.step {N0 N:Nat} {t:ByteArray} (h:Lib.decDigits N0=Lib.decDigits N++t.data.toList) (h9:9 < N) {u:ByteArray} (hu:u=(⟨#[48,49,50,51,52,53,54,55,56,57]⟩:ByteArray).extract (N % 10) (N % 10+1)):Lib.decDigits N0=Lib.decDigits (N / 10)++(u++t).data.toList:=by
 rw [h,Lib.decDigits,dif_neg (by omega),hu,dig_one _ (by omega)]
 simp
theorem print_end {a:Int} {N:Nat} {t:ByteArray} (h:Lib.decDigits a.natAbs=Lib.decDigits N++t.data.toList) (h9:¬ 9 < N) {u sg:ByteArray} (hu:u=(⟨#[48,49,50,51,52,53,54,55,56,57]⟩:ByteArray).extract N (N+1)) (hs:sg=if a < 0 then ⟨#[45]⟩ else ⟨#[]⟩):(sg++u++t).data.toList=Lib.itoa a:=by
 have e:Lib.decDigits N=[UInt8.ofNat (48+N)]:=Lib.decDigits_one (by omega)
 rw [hs,hu,dig_one _ (by omega)]
 unfold Lib.itoa
 by_cases ha:a < 0
 ·rw [if_pos ha,if_pos ha,h,e];simp
 ·rw [if_neg ha,if_neg ha,show a.toNat=a.natAbs by omega,h,e];simp
set_option maxRecDepth 100000 in
set_option maxHeartbeats 1000000 in
theorem rprint_any (a:Int) (w:World) (ha: -9223372036854775808≤a) (ha':a≤9223372036854775807):Calls Tryz.prog 7 #[.int .i64 a] w fun e w' => (∃ t,e=.returned (.string t)∧t.data.toList=Lib.itoa a)∧w=w':=by
 by_cases hs:a < 0
 all_goals
  have HS:=Lib.hid hs
  go_enter Tryz.func7,Tryz.ntmps7
  go_wp2
  go_loopw [3,5] (fun nv sv wr => (∃ N k t,PrRel nv sv a.natAbs N k t)∧w=wr) (fun nv _ _ => (intOf nv).toNat)
  case atStart => exact ⟨⟨a.natAbs,0,⟨#[]⟩,⟨by first | (congr 1;omega) | rfl,rfl,rfl,by omega,by omega,Lib.hid (by simp)⟩⟩,rfl⟩
  case round =>
   obtain ⟨⟨N,k,t,hr⟩,rfl⟩:=hrel
   obtain rfl:=hr.hn
   obtain rfl:=hr.hs
   have R:=Lib.hid hr
   have hk:=hr.hk
   have hup:=hr.up
   have htop:N≤9223372036854775808:=Nat.le_trans (Nat.le_mul_of_pos_right N (Nat.pow_pos (by omega))) hr.pow
   clear hr ha ha' hs
   by_cases h9:9 < N
   ·have h9':(9:Int) < (N:Int):=by omega
    have hk18:=p10_small R.out.pow h9
    have hL:({data:=#[48,49,50,51,52,53,54,55,56,57]}:ByteArray).size=10:=rfl
    go_wp2
    go_roundw
    case rel => exact ⟨⟨N / 10,k+1,_,⟨by go_num,rfl,by rw [ByteArray.size_append,ByteArray.size_extract,hL];omega,by omega,pow_step R.out.pow,Lib.hid (PrRel.step R.out.dec.out h9 (by first | rfl | (congr 1 <;> omega)))⟩⟩,by trivial⟩
    case measure => simp [intOf];omega
   ·have h9':¬ (9:Int) < (N:Int):=by omega
    go_wp2
    go_ret
    exact ⟨⟨_,rfl,print_end R.out.dec.out h9 (by first | rfl | (congr 1 <;> omega)) (by simp [HS.out])⟩,rfl⟩
def I64 (n:Int):Prop:=-9223372036854775808≤n∧n≤9223372036854775807
end Go.Proofs.YtdgpmpccfjmmcaaGreatDoor
namespace Go.Proofs.YtdgpmpccfjmmcaaGreatDoor
open Go.RowKit
def sumTo:Nat→(Nat→Nat)→Nat
 | 0,_ => 0
 | n+1,f => sumTo n f+f n
def T.nodes:T→Nat
 | .nil => 0
 | .mk _ _ _ m a => 1+sumTo m fun i => (a i).nodes
def T.good:T→Prop
 | .nil => False
 | .mk k n s m a => ((k=1∧0≤n∧n < 1000∧s=⟨#[]⟩∧m=0)∨(k=2∧I64 n∧s=⟨#[]⟩∧m=0)∨(k=3∧n=0∧nameOk s∧m=0)∨(k=4∧n=0∧nameOk s∧0 < m))∧∀ i,i < m→(a i).good
theorem leaf_nodes (k n:Int) (s:ByteArray) (a:Nat→T):(T.mk k n s 0 a).nodes=1:=rfl
theorem ba_eq (s:ByteArray):ba s.data.toList=s:=by apply ByteArray.ext;simp [ba]
theorem ba_data (l:List UInt8):(ba l).data.toList=l:=by simp [ba]
theorem data_bu {s:ByteArray} (h:0 < s.size):s.data.toList=bu s 0 ::s.data.toList.drop 1:=by
 have:=drop_bu (s:=s) (i:=0) h
 simpa using this
theorem int_sp {x:Tk} {below:Bool} {s s':ByteArray} {n er2:Int} {j:Nat} {ns:List ByteArray} (hz:zerosL x.t.data.toList=s.data.toList) (hs:s'=if below=true∧s.data.toList≠[48] then ⟨#[45]⟩++s else s) (hp:(er2=0∧parseN s'=some n)∨(er2=12∧n=0∧parseN s'=none)) :
 intP x below j ns=if er2=0 then .ok (inT n,j,ns) else .error ((x.a:Int),51):=by
 have e:ba (if below=true∧zerosL x.t.data.toList≠[48] then 45 ::zerosL x.t.data.toList else zerosL x.t.data.toList)=s':=by
  rw [hs,hz]
  split
  ·apply ByteArray.ext;simp [ba]
  ·exact ba_eq s
 unfold intP intN
 rw [e]
 rcases hp with ⟨h1,h2⟩ | ⟨h1,_,h2⟩
 ·rw [h2,if_pos h1]
 ·rw [h2,if_neg (by omega)]
end Go.Proofs.YtdgpmpccfjmmcaaGreatDoor
namespace Go.Proofs.YtdgpmpccfjmmcaaGreatDoor
open Go.RowKit
set_option maxRecDepth 100000 in
set_option maxHeartbeats 1000000 in
theorem ppeek_any {c:Rdc} {i:Nat} {ns:List ByteArray} (w:World) (h:Pd w c i ns):Calls Tryz.prog 71 #[.pointer (some ⟨c.R,0,none⟩)] w fun e w' => e=.returned (.agg #[.int .i64 (nx c i).k,.string (nx c i).t,.int .i64 ((nx c i).a:Int),.int .i64 ((nx c i).b:Int)])∧Below w.heap.size w w':=by
 have hlt:=h.lt
 obtain ⟨ht,hfi,lv,nv,nn,hr⟩:=h
 obtain ⟨A,cc,rfl,hcc,hA⟩:=hr.lok
 obtain ⟨r0,r1,r2⟩:=hr.cells
 have hup:=hr.up
 have HT:=Lib.hid ht
 clear hr ht
 by_cases hi:i < c.tn
 ·have hi':¬ (((c.tn - i:Nat):Int)=0):=by omega
  have hi2:(0:Int) < ((c.tn - i:Nat):Int):=by omega
  obtain ⟨g,hTA,t0,t1,t2,t3⟩:=tok_cells HT.out hi
  obtain rfl:=hA hi g hTA
  have hg:=World.block_lt_of_cell? w _ t0
  dsimp only at hg
  go_enter Tryz.func71,Tryz.ntmps71
  go_wp2_with fail
  refine bodyPost_ret (v:=(.agg #[.int .i64 (nx c i).k,.string (nx c i).t,.int .i64 ((nx c i).a:Int),.int .i64 ((nx c i).b:Int)])) (by simp [results,go_sem]) rfl ?_
  exact ⟨rfl,(Below.refl _ _).alloc (Nat.le_refl _) _⟩
 ·have hi':(c.tn - i:Nat)=0:=by omega
  have hx:nx c i=⟨0,⟨#[]⟩,c.s.size,0⟩:=by
   have hl:=HT.out.len
   simp [nx,nxT,show ¬ i < c.tk.length by omega]
  go_enter Tryz.func71,Tryz.ntmps71
  go_wp2_with fail
  refine bodyPost_ret (v:=(.agg #[.int .i64 (nx c i).k,.string (nx c i).t,.int .i64 ((nx c i).a:Int),.int .i64 ((nx c i).b:Int)])) (by simp [results,go_sem,hx]) rfl ?_
  exact ⟨rfl,(Below.refl _ _).alloc (Nat.le_refl _) _⟩
theorem Pd.set_at {w:World} {c:Rdc} {j:Nat} {ns:List ByteArray} (h:Pd w c j ns) {b:Nat} {cs:Array Value} {t:TypeId} {m:Nat × Nat} (hb:w.heap[b]? =some (.cells cs t m)) (i:Nat) (u:Value)
 (h1:t≠9) (h2:b≠c.R) (h3:∀ g,c.TA=some ⟨g,0,none⟩→b≠g):Pd (w.setCell ⟨b,i,none⟩ u) c j ns:=by
 obtain ⟨ht,hf,lv,nv,nn,hr⟩:=h
 refine ⟨⟨ht.len,ht.few,ht.long,ht.ok,ht.cap,ht.nil,ht.BR,ht.nm,fun h0 => ?_⟩,hf,lv,nv,nn,(Below.heap_setCell _ _ _ _ fun e => h2 e.symm).trans hr.blk,hr.lok,own_keep hr.own fun g hg => ?_,hr.up,hr.few⟩
 ·obtain ⟨g,cur,hA,hg,hc⟩:=ht.blk h0
  exact ⟨g,cur,hA,(Below.heap_setCell _ _ _ _ fun e => h3 g hA e.symm).trans hg,hc⟩
 ·refine Below.heap_setCell _ _ _ _ ?_
  rintro rfl
  rcases hr.own.2 with ⟨hv,_⟩ | ⟨g',cap,cur,hv,_,hh,_⟩
  ·rw [hv] at hg;simp [Value.ownBlock] at hg
  ·rw [hv] at hg
   simp [Value.ownBlock] at hg
   subst hg
   rw [show w.heap[_]? =_ from hb] at hh
   injection hh with hh
   injection hh with _ hh
   exact h1 hh
theorem Pd.tok_lt {w:World} {c:Rdc} {j:Nat} {ns:List ByteArray} (h:Pd w c j ns) (h0:0 < c.tn) {g:Nat} (hg:c.TA=some ⟨g,0,none⟩):g < w.heap.size:=by
 obtain ⟨g',cur,hA,hb,_⟩:=h.1.blk h0
 rw [hg] at hA
 injection hA with hA
 injection hA with hA
 rw [hA]
 exact heap_lt hb
theorem Frp.newset {c:Rdc} {w W:World} (h:Frp c w W) {b:Nat} (hb:w.heap.size≤b) (hB:c.B≤b) (i:Nat) (u:Value):Frp c w (W.setCell ⟨b,i,none⟩ u):=
 ⟨h.low.setCell (p:=⟨b,i,none⟩) hB u,fun k cs t m hk hR ht => (Below.heap_setCell _ _ _ _ (by have:=heap_lt hk;show k≠b;omega)).trans (h.keep k cs t m hk hR ht)⟩
theorem Frp.newalloc {c:Rdc} {w W:World} (h:Frp c w W) (hB:c.B≤w.heap.size) (o:Obj):Frp c w (W.alloc o):=h.trans (Frp.of_below ((Below.refl _ _).alloc (Nat.le_refl _) o) (Nat.le_trans hB h.size))
theorem Pd.put4 {w:World} {c:Rdc} {j:Nat} {ns:List ByteArray} (h:Pd w c j ns) {b:Nat} {u0 u1 u2 u3:Value} {t:TypeId} {m:Nat × Nat} (hb:w.heap[b]? =some (.cells #[u0,u1,u2,u3] t m)) (v0 v1 v2 v3:Value)
 (h1:t≠9) (h2:b≠c.R) (h3:∀ g,c.TA=some ⟨g,0,none⟩→b≠g):Pd ((((w.setCell ⟨b,0,none⟩ v0).setCell ⟨b,1,none⟩ v1).setCell ⟨b,2,none⟩ v2).setCell ⟨b,3,none⟩ v3) c j ns:=by
 have k0:=h.set_at hb 0 v0 h1 h2 h3
 have b0:=blk_set hb 0 v0
 have k1:=k0.set_at b0 1 v1 h1 h2 h3
 have b1:=blk_set b0 1 v1
 have k2:=k1.set_at b1 2 v2 h1 h2 h3
 have b2:=blk_set b1 2 v2
 exact k2.set_at b2 3 v3 h1 h2 h3
theorem Frp.newput4 {c:Rdc} {w W:World} (h:Frp c w W) {b:Nat} (hb:w.heap.size≤b) (hB:c.B≤b) (v0 v1 v2 v3:Value):Frp c w ((((W.setCell ⟨b,0,none⟩ v0).setCell ⟨b,1,none⟩ v1).setCell ⟨b,2,none⟩ v2).setCell ⟨b,3,none⟩ v3):=
 (((h.newset hb hB 0 v0).newset hb hB 1 v1).newset hb hB 2 v2).newset hb hB 3 v3
theorem TokAt.next {c:Rdc} {i:Nat} {A:Option Addr} {cc:Nat} (h:TokAt c i (.slice A (c.tn - i) cc)) (hi:i < c.tn):TokAt c (i+1) (.slice (if cc=1 then A else A.map fun a => a.add 4) (c.tn - i - 1) (cc - 1)):=by
 obtain ⟨A',cc',e,hcc,hA⟩:=h
 injection e with e1 e2 e3
 subst e1 e3
 refine ⟨_,_,by rw [show c.tn - (i+1)=c.tn - i - 1 by omega],by omega,fun hlt g hg => ?_⟩
 rw [if_neg (by omega),hA hi g hg]
 simp [Addr.add,Nat.add_mul]
set_option maxRecDepth 100000 in
set_option maxHeartbeats 1000000 in
theorem ptake_any {c:Rdc} {i:Nat} {ns:List ByteArray} (w:World) (h:Pd w c i ns) (hk:(nx c i).k≠0):Calls Tryz.prog 73 #[.pointer (some ⟨c.R,0,none⟩)] w fun e w' => e=.returned (.agg #[.int .i64 (nx c i).k,.string (nx c i).t,.int .i64 ((nx c i).a:Int),.int .i64 ((nx c i).b:Int)])∧Pd w' c (i+1) ns∧Frp c w w':=by
 have hi:=nx_ltp h hk
 have H:=Lib.hid h
 have hB:=h.base
 have hBR:=h.1.BR
 clear h hk
 go_enter Tryz.func73,Tryz.ntmps73
 have H1:=Lib.hid (H.out.alloc (Obj.cells #[.int .i64 0,.string ⟨#[]⟩,.int .i64 0,.int .i64 0] 116))
 have F1:=Lib.hid (Frp.of_below ((Below.refl w.heap.size w).alloc (Nat.le_refl _) (Obj.cells #[.int .i64 0,.string ⟨#[]⟩,.int .i64 0,.int .i64 0] 116)) hB)
 have X1:=Lib.hid (heap_alloc_new w (Obj.cells #[.int .i64 0,.string ⟨#[]⟩,.int .i64 0,.int .i64 0] 116))
 go_wp2_with fail
 refine (ppeek_any _ H1.out).mono ?_
 rintro e w2 ⟨rfl,h2⟩
 have H2:=Lib.hid (H1.out.below h2)
 have F2:=Lib.hid (F1.out.trans (Frp.of_below h2 H1.out.base))
 have H3:=Lib.hid (H2.out.alloc (Obj.cells #[.int .i64 (nx c i).k,.string (nx c i).t,.int .i64 ((nx c i).a:Int),.int .i64 ((nx c i).b:Int)] 116))
 have F3:=Lib.hid (F2.out.trans (Frp.of_below ((Below.refl w2.heap.size w2).alloc (Nat.le_refl _) (Obj.cells #[.int .i64 (nx c i).k,.string (nx c i).t,.int .i64 ((nx c i).a:Int),.int .i64 ((nx c i).b:Int)] 116)) H2.out.base))
 have X2:=Lib.hid ((h2.block _ (heap_lt X1.out)).trans X1.out)
 obtain ⟨ht,hfi,lv,nv,nn,hr⟩:=H2.out
 obtain ⟨A,cc,rfl,hcc,hA⟩:=hr.lok
 obtain ⟨r0,r1,r2⟩:=hr.cells
 have rf:=hr.thaw
 have hlt:=H2.out.lt
 have hne:w.heap.size≠c.R:=by have:=H.out.lt;omega
 have hi2:(0:Int) < ((c.tn - i:Nat):Int):=by omega
 have hi3:1≤c.tn - i:=by omega
 obtain ⟨g,hTA,_⟩:=tok_cells ht hi
 obtain rfl:=hA hi g hTA
 have HN:=Lib.hid (fun (W:World) (hb:Below w2.heap.size w2 W) => Pd.next (w:=W) (ht.keep fun b cs h => hb.block b (heap_lt h)) hfi (show PdW W c i (.slice (some ⟨g,i*4,none⟩) (c.tn - i) cc) nv nn ns from ⟨(hb.block _ (heap_lt hr.blk)).trans hr.blk,hr.lok,own_below hr.own hb,hr.up,hr.few⟩) hi (TokAt.next hr.lok hi))
 obtain ⟨x0,x1,x2,x3⟩:=box4t X2.out
 have hx2:=heap_lt X2.out
 have hne':c.R≠w.heap.size:=fun e => hne e.symm
 have xf:∀ j,w2.frozen? ⟨w.heap.size,j,none⟩=false:=fun j => by simp [World.frozen?,X2.out]
 have HG:∀ g,c.TA=some ⟨g,0,none⟩→w.heap.size≠g:=fun g hg => by have:=H.out.tok_lt (by omega) hg;omega
 clear h2 hr ht
 by_cases hc1:cc=1
 ·have hc1':(cc == 1)=true:=by simpa using hc1
  subst hc1
  have Q1:=Lib.hid (show Pd (w2.setCell ⟨c.R,1,none⟩ (.slice (some ⟨g,i*4,none⟩) 0 0)) c (i+1) ns from by
   have h:=HN.out w2 (Below.refl _ _)
   rw [if_pos rfl,show c.tn - i - 1=0 by omega] at h
   exact h)
  have XB:=Lib.hid ((Below.heap_setCell w2 ⟨c.R,1,none⟩ (.slice (some ⟨g,i*4,none⟩) 0 0) w.heap.size hne).trans X2.out)
  have Q2:=Lib.hid (Q1.out.put4 XB.out (.int .i64 (nx c i).k) (.string (nx c i).t) (.int .i64 ((nx c i).a:Int)) (.int .i64 ((nx c i).b:Int)) (by decide) hne HG)
  have G2:=Lib.hid ((F2.out.trans (Frp.setR hBR 1 (.slice (some ⟨g,i*4,none⟩) 0 0))).newput4 (Nat.le_refl _) hB (.int .i64 (nx c i).k) (.string (nx c i).t) (.int .i64 ((nx c i).a:Int)) (.int .i64 ((nx c i).b:Int)))
  have P:=box4t (box_put4 XB.out (.int .i64 (nx c i).k) (.string (nx c i).t) (.int .i64 ((nx c i).a:Int)) (.int .i64 ((nx c i).b:Int)) rfl).1
  go_wp2_with fail
  refine bodyPost_ret (v:=(.agg #[.int .i64 (nx c i).k,.string (nx c i).t,.int .i64 ((nx c i).a:Int),.int .i64 ((nx c i).b:Int)])) (by simp [results,go_sem,P,hx2]) rfl ?_
  exact ⟨rfl,Q2.out.alloc _,G2.out.newalloc hB _⟩
 ·have hc1':(cc == 1)=false:=by simpa using hc1
  have Q1:=Lib.hid (show Pd (w2.setCell ⟨c.R,1,none⟩ (.slice (some ⟨g,i*4+4,none⟩) (c.tn - i - 1) (cc - 1))) c (i+1) ns from by
   have h:=HN.out w2 (Below.refl _ _)
   rw [if_neg hc1] at h
   exact h)
  have XB:=Lib.hid ((Below.heap_setCell w2 ⟨c.R,1,none⟩ (.slice (some ⟨g,i*4+4,none⟩) (c.tn - i - 1) (cc - 1)) w.heap.size hne).trans X2.out)
  have Q2:=Lib.hid (Q1.out.put4 XB.out (.int .i64 (nx c i).k) (.string (nx c i).t) (.int .i64 ((nx c i).a:Int)) (.int .i64 ((nx c i).b:Int)) (by decide) hne HG)
  have G2:=Lib.hid ((F2.out.trans (Frp.setR hBR 1 (.slice (some ⟨g,i*4+4,none⟩) (c.tn - i - 1) (cc - 1)))).newput4 (Nat.le_refl _) hB (.int .i64 (nx c i).k) (.string (nx c i).t) (.int .i64 ((nx c i).a:Int)) (.int .i64 ((nx c i).b:Int)))
  have P:=box4t (box_put4 XB.out (.int .i64 (nx c i).k) (.string (nx c i).t) (.int .i64 ((nx c i).a:Int)) (.int .i64 ((nx c i).b:Int)) rfl).1
  go_wp2_with fail
  refine bodyPost_ret (v:=(.agg #[.int .i64 (nx c i).k,.string (nx c i).t,.int .i64 ((nx c i).a:Int),.int .i64 ((nx c i).b:Int)])) (by simp [results,go_sem,P,hx2]) rfl ?_
  exact ⟨rfl,Q2.out.alloc _,G2.out.newalloc hB _⟩
set_option maxRecDepth 100000 in
set_option maxHeartbeats 1000000 in
theorem pfail_any {c:Rdc} {i:Nat} {ns:List ByteArray} (w:World) (h:Pd w c i ns):Calls Tryz.prog 72 #[.pointer (some ⟨c.R,0,none⟩)] w fun e w' => e=.panicked [wrongP ((nx c i).a:Int) 50]∧Frp c w w':=by
 have fl:=fld_tok2
 have hB:=h.base
 go_enter Tryz.func72,Tryz.ntmps72
 go_wp2_with fail
 refine (ppeek_any _ h).mono ?_
 rintro e w2 ⟨rfl,h2⟩
 go_wp2_with fail
 exact ⟨rfl,rfl,Frp.of_below h2 hB⟩
end Go.Proofs.YtdgpmpccfjmmcaaGreatDoor
namespace Go.Proofs.YtdgpmpccfjmmcaaGreatDoor
open Go.RowKit
set_option maxRecDepth 100000 in
set_option maxHeartbeats 1000000 in
theorem pmark_any {c:Rdc} {i:Nat} {ns:List ByteArray} (tx:ByteArray) (w:World) (h:Pd w c i ns):Calls Tryz.prog 162 #[.pointer (some ⟨c.R,0,none⟩),.string tx] w fun e w' =>
 ∃ b,e=.returned (.bool b)∧isM c.tk c.s.size i tx=b∧Pd w' c (if b then i+1 else i) ns∧Frp c w w'∧(b=true→i < c.tn):=by
 have hB:=h.base
 have H:=Lib.hid h
 clear h
 go_enter Tryz.func162,Tryz.ntmps162
 go_wp2_with fail
 refine (ppeek_any _ H.out).mono ?_
 rintro e w1 ⟨rfl,h1⟩
 have H1:=Lib.hid ((H.out.below h1).alloc (Obj.cells #[.int .i64 (nx c i).k,.string (nx c i).t,.int .i64 ((nx c i).a:Int),.int .i64 ((nx c i).b:Int)] 116))
 have F1:=Lib.hid ((Frp.of_below h1 hB).newalloc hB (Obj.cells #[.int .i64 (nx c i).k,.string (nx c i).t,.int .i64 ((nx c i).a:Int),.int .i64 ((nx c i).b:Int)] 116))
 clear h1
 by_cases h5:(nx c i).k=5
 ·have h5':((nx c i).k != 5)=false:=by simpa using h5
  cases htx:((nx c i).t.toList == tx.toList) with
  | true =>
   have htx':((nx c i).t.toList != tx.toList)=false:=by rw [bne,htx];rfl
   have HM:=Lib.hid (show isM c.tk c.s.size i tx=true by
    unfold isM
    rw [show nxT c.tk c.s.size i=nx c i from rfl,h5,htx];rfl)
   have CT:=Lib.hid (ptake_any _ H1.out (by rw [h5];decide))
   have HL:=Lib.hid (nx_ltp H1.out (by rw [h5];decide))
   clear h5
   go_wp2_with fail
   refine CT.out.mono ?_
   rintro e w2 ⟨rfl,h2,f2⟩
   go_wp2_with fail
   go_ret
   exact ⟨true,rfl,HM.out,h2,F1.out.trans f2,fun _ => HL.out⟩
  | false =>
   have htx':((nx c i).t.toList != tx.toList)=true:=by rw [bne,htx];rfl
   have HM:=Lib.hid (show isM c.tk c.s.size i tx=false by
    unfold isM
    rw [show nxT c.tk c.s.size i=nx c i from rfl,htx,Bool.and_false])
   clear h5
   go_wp2_with fail
   go_ret
   exact ⟨false,rfl,HM.out,H1.out,F1.out,fun h => by cases h⟩
 ·have h5':((nx c i).k != 5)=true:=by simpa using h5
  have h5'':((nx c i).k == 5)=false:=by simpa using h5
  have HM:=Lib.hid (show isM c.tk c.s.size i tx=false by
   unfold isM
   rw [show nxT c.tk c.s.size i=nx c i from rfl,h5''];rfl)
  go_wp2_with fail
  go_ret
  exact ⟨false,rfl,HM.out,H1.out,F1.out,fun h => by cases h⟩
set_option maxRecDepth 100000 in
set_option maxHeartbeats 1000000 in
theorem pmust_any {c:Rdc} {i:Nat} {ns:List ByteArray} (tx:ByteArray) (w:World) (h:Pd w c i ns):Calls Tryz.prog 233 #[.pointer (some ⟨c.R,0,none⟩),.string tx] w fun e w' =>
 PQ c w i (mustN c.tk c.s.size tx () i ns) (fun _ j v _ => v=.tuple #[]∧j=i+1) e w':=by
 have hB:=h.base
 have H:=Lib.hid h
 clear h
 go_enter Tryz.func233,Tryz.ntmps233
 go_wp2_with fail
 refine (pmark_any _ _ H.out).mono ?_
 rintro e w1 ⟨b,rfl,hm,h1,f1,hlt⟩
 have HM:=Lib.hid hm
 clear hm
 cases b with
 | true =>
  have H1:=Lib.hid h1
  clear h1 hlt
  go_wp2_with fail
  refine bodyPost_ret (results_none rfl _ _ _) rfl ?_
  have e1:mustN c.tk c.s.size tx () i ns=.ok ((),i+1,ns):=by unfold mustN;rw [if_pos HM.out]
  rw [e1]
  exact ⟨f1,_,rfl,H1.out,Nat.le_succ _,rfl,rfl⟩
 | false =>
  have H1:=Lib.hid h1
  clear h1 hlt
  go_wp2_with fail
  refine (pfail_any _ H1.out).mono ?_
  rintro e w2 ⟨rfl,f2⟩
  have e1:mustN c.tk c.s.size tx () i ns=.error (errA c.tk c.s.size i 50):=by unfold mustN;rw [HM.out];rfl
  go_wp2_with fail
  refine ⟨rfl,?_⟩
  rw [e1]
  exact ⟨f1.trans f2,rfl⟩
theorem pcell_any (nm:ByteArray) (A:Option Addr) (m cc:Nat) (w:World):Calls Tryz.prog 114 #[.string nm,.slice A m cc] w fun e w' => e=.returned (.agg #[.int .i64 4,.int .i64 0,.string nm,.slice A m cc])∧Below w.heap.size w w':=by
 go_enter Tryz.func114,Tryz.ntmps114
 go_wp2_with fail
 refine bodyPost_ret (v:=.agg #[.int .i64 4,.int .i64 0,.string nm,.slice A m cc]) (by simp [results,go_sem]) rfl ?_
 exact ⟨rfl,(Below.refl _ _).alloc (Nat.le_refl _) _⟩
theorem pconst_any (nm:ByteArray) (w:World):Calls Tryz.prog 164 #[.string nm] w fun e w' => e=.returned (.agg #[.int .i64 3,.int .i64 0,.string nm,.slice none 0 0])∧Below w.heap.size w w':=by
 go_enter Tryz.func164,Tryz.ntmps164
 go_wp2_with fail
 refine bodyPost_ret (v:=.agg #[.int .i64 3,.int .i64 0,.string nm,.slice none 0 0]) (by simp [results,go_sem]) rfl ?_
 exact ⟨rfl,(Below.refl _ _).alloc (Nat.le_refl _) _⟩
end Go.Proofs.YtdgpmpccfjmmcaaGreatDoor
