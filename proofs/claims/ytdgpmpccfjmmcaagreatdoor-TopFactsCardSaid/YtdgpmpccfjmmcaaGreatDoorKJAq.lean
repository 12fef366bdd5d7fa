/- The machine in memory:frames,choices,where a run stands. The machine's small functions:terms,failing. A region of a round (the body of a range over a function),walked in the plain way. The machine's frames:their number;put ahead of others. The program's store:Size and its closure. The walk through the program's code.Encode:a clause's instructions. -/
import Derived.Test.YtdgpmpccfjmmcaaGreatDoorKJAo
import Derived.Test.YtdgpmpccfjmmcaaGreatDoorKJAb
import Derived.Test.YtdgpmpccfjmmcaaGreatDoorKOrd
import Derived.OrdersIn
import Derived.RangeFuncCalls
import Derived.ControlIn
import Derived.Deep.DeepCutAuto
import Derived.Test.YtdgpmpccfjmmcaaGreatDoorKCo8
import Derived.Test.YtdgpmpccfjmmcaaGreatDoorKJAd
import Derived.Deep.Onto
set_option linter.unusedVariables false
set_option linter.unusedSimpArgs false
namespace Go.Proofs.YtdgpmpccfjmmcaaGreatDoor
open Go.RowKit
def TC (w:World) (p:P) (cs:List Value):Prop:=∃ v0 v1 v2 v3,cs=[v0,v1,v2,v3]∧TP w (fun _ => True) p.t (.agg #[v0,v1,v2,v3])
def zeroC:List Value:=[.int .i64 0,.int .i64 0,.string ⟨#[]⟩,.slice none 0 0]
def FrC (w:World):Fr0→List Value→Prop
 | .goal bar g,cs => ∃ ts,cs=[.int .i64 0,.int .i64 (bar:Int),.int .i64 0]++ts∧TC w g ts
 | .cut n,cs => cs=[.int .i64 1,.int .i64 0,.int .i64 (n:Int)]++zeroC
def FL (w:World):List Fr0→Value→Prop
 | [],v => v=.pointer none
 | f ::r,v => ∃ (b:Nat) (cs:List Value) (nx:Value),v=.pointer (some ⟨b,0,none⟩)∧FrC w f cs∧FL w r nx∧w.heap[b]? =some (.cells (cs++[nx,.int .i64 ((r.length:Int)+1)]).toArray 128 (0,0))
def intsV (l:List Nat):List Value:=l.map fun (k:Nat) => Value.int .i64 (k:Int)
def NR (w:World) (l:List Nat) (v:Value):Prop:=∃ A c,v=.slice A l.length c∧l.length≤c∧(A=none→c=0)∧(l≠[]→∃ g off cs f,A=some ⟨g,off,none⟩∧w.heap[g]? =some (.cells cs 3 f)∧∀ i,i < l.length→cs[off+i]? =some (.int .i64 ((l.getD i 0:Nat):Int)))
end Go.Proofs.YtdgpmpccfjmmcaaGreatDoor
namespace Go.Proofs.YtdgpmpccfjmmcaaGreatDoor
open Go.RowKit
theorem matom_any (nm:ByteArray) (w:World):Calls Tryz.prog 117 #[.string nm] w fun e w' => e=.returned (.agg #[.int .i64 3,.int .i64 0,.string nm,.slice none 0 0])∧Below w.heap.size w w':=by
 go_enter Tryz.func117,Tryz.ntmps117
 go_wp2_with fail
 refine bodyPost_ret (v:=.agg #[.int .i64 3,.int .i64 0,.string nm,.slice none 0 0]) (by simp [results,go_sem]) rfl ?_
 exact ⟨rfl,(Below.refl _ _).alloc (Nat.le_refl _) _⟩
theorem minteger_any (n:Int) (w:World):Calls Tryz.prog 140 #[.int .i64 n] w fun e w' => e=.returned (.agg #[.int .i64 2,.int .i64 n,.string ⟨#[]⟩,.slice none 0 0])∧Below w.heap.size w w':=by
 go_enter Tryz.func140,Tryz.ntmps140
 go_wp2_with fail
 refine bodyPost_ret (v:=.agg #[.int .i64 2,.int .i64 n,.string ⟨#[]⟩,.slice none 0 0]) (by simp [results,go_sem]) rfl ?_
 exact ⟨rfl,(Below.refl _ _).alloc (Nat.le_refl _) _⟩
theorem mvariable_any (n:Int) (w:World):Calls Tryz.prog 52 #[.int .i64 n] w fun e w' => e=.returned (.agg #[.int .i64 1,.int .i64 n,.string ⟨#[]⟩,.slice none 0 0])∧Below w.heap.size w w':=by
 go_enter Tryz.func52,Tryz.ntmps52
 go_wp2_with fail
 refine bodyPost_ret (v:=.agg #[.int .i64 1,.int .i64 n,.string ⟨#[]⟩,.slice none 0 0]) (by simp [results,go_sem]) rfl ?_
 exact ⟨rfl,(Below.refl _ _).alloc (Nat.le_refl _) _⟩
theorem mcell_any (nm:ByteArray) (A:Option Addr) (m cc:Nat) (w:World):Calls Tryz.prog 23 #[.string nm,.slice A m cc] w fun e w' => e=.returned (.agg #[.int .i64 4,.int .i64 0,.string nm,.slice A m cc])∧Below w.heap.size w w':=by
 go_enter Tryz.func23,Tryz.ntmps23
 go_wp2_with fail
 refine bodyPost_ret (v:=.agg #[.int .i64 4,.int .i64 0,.string nm,.slice A m cc]) (by simp [results,go_sem]) rfl ?_
 exact ⟨rfl,(Below.refl _ _).alloc (Nat.le_refl _) _⟩
def failP:PanicEntry:={v:=.iface 130 (.agg #[]),recovered:=false}
theorem mfail_any (w:World):Calls Tryz.prog 46 #[] w fun e w' => e=.panicked [failP]∧w'=w:=by
 go_enter Tryz.func46,Tryz.ntmps46
 go_wp2_with fail
 refine ⟨rfl,?_⟩
 exact ⟨rfl,rfl⟩
end Go.Proofs.YtdgpmpccfjmmcaaGreatDoor
namespace Go.Proofs.YtdgpmpccfjmmcaaGreatDoor
section
variable {P:Program} {ops:Array Oper} {Q:Exit→Act→World→Prop} {md:Region.Mode}
def noDefer (ops:Array Oper):Bool:=ops.toList.all fun o => match o.op with
 | .defer _ => false
 | _ => true
theorem noDefer_spec (h:noDefer ops=true) {i:Nat} {o:Oper} (ho:ops[i]? =some o) (c:Call):o.op≠.defer c:=fun e => by
 have:=List.all_eq_true.1 h o (Array.mem_toList_iff.2 (Array.mem_of_getElem? ho))
 rw [e] at this
 cases this
theorem rows_round {l n:Nat} {row:String} {args:Array Value} {w:World} {R:Value→World→Prop} (h:Rows P row args w R):RowsIn (Fence.wide.inRound l) n P row args w R:=fun c cs _ =>
 let ⟨v,w',r,s⟩:=h c cs
 ⟨v,w',r,stepsIn_wide.2 s⟩
theorem upon_round {o:Oper} {a:Act} {next:Act→World→Prop} (l n:Nat):∀ {r:Result Next},o.upon P a next Q r→o.uponIn (Fence.wide.inRound l) n P a next Q r
 | .ok (.value _) _,h => h
 | .ok .skip _,h => h
 | .ok (.defer _) _,h => h
 | .ok (.enter _ _) _,h => ⟨fun h => (by cases h),CallsIn.inRound l (callsIn_wide.2 h)⟩
 | .ok (.row _ _) _,h => ⟨fun h => (by cases h),rows_round h⟩
 | .ok (.round _ _ _ _ _) _,h => h.elim
 | .ok .recover _,h => h
 | .ok (.spawn _) _,h => h
 | .halt x _,h => by cases x <;> exact h
theorem wpOp_round (hd:noDefer ops=true) (hl:¬ LetsOut Q) (l n:Nat) {i:Nat} {K:Act→World→Prop} {a:Act} {w:World} (h:wpOp P ops Q i K a w):wpOpIn (Fence.wide.inRound l) n P ops Q i K a w:=by
 unfold wpOp at h
 unfold wpOpIn
 cases ho:ops[i]? with
 | none => simpa [ho] using h
 | some o =>
  simp only [ho] at h ⊢
  split
  ·rename_i hw
   simp only [hw,if_true] at h
   refine ⟨fun _ _ => trivial,?_⟩
   rw [Oper.semAt_eq _ _ _ (noDefer_spec hd ho)]
   rcases h with h | h
   ·exact upon_round l n h
   ·exact absurd h.2 hl
  ·rename_i hw
   simp only [hw] at h
   exact ⟨fun _ _ => trivial,h⟩
theorem wpAny_round (hd:noDefer ops=true) (hl:¬ LetsOut Q) (l n:Nat):∀ (fuel:Nat) (listed:Array Bool) (a:Act) (w:World),wpAny P md ops Q fuel listed a w→wpAnyIn (Fence.wide.inRound l) n P md ops Q fuel listed a w
 | 0,_,_,_,h => h
 | fuel+1,_,_,_,h => ⟨h.1,fun i hi => wpOpIn_mono (fun a w h => wpAny_round hd hl l n fuel _ a w h) (wpOp_round hd hl l n (h.2 i hi))⟩
theorem region_round (hd:noDefer ops=true) (hl:¬ LetsOut Q) {l n:Nat} {id:Nat} {a:Act} {w:World} (hm:P.follows .mixedOrders=true) (h:wpAny P .any ops Q ops.size (Array.replicate ops.size false) a w.drew) :
 (Code.region id ops true).wpIn (Fence.wide.inRound l) n P Q a w:=wpIn_region_any hm (wpAny_round hd hl l n _ _ a _ h)
end
end Go.Proofs.YtdgpmpccfjmmcaaGreatDoor
namespace Go.Proofs.YtdgpmpccfjmmcaaGreatDoor
open Go.RowKit
theorem TC.below {w w':World} {p:P} {cs:List Value} (h:TC w p cs) (hb:Below w.heap.size w w'):TC w' p cs:=by
 obtain ⟨v0,v1,v2,v3,rfl,ht⟩:=h
 exact ⟨v0,v1,v2,v3,rfl,ht.below hb⟩
theorem TC.keep {w w':World} {p:P} {cs:List Value} (h:TC w p cs) (hk:∀ (b:Nat) (cs:Array Value) (f:Nat × Nat),w.heap[b]? =some (.cells cs 51 f)→w'.heap[b]? =some (.cells cs 51 f)):TC w' p cs:=by
 obtain ⟨v0,v1,v2,v3,rfl,ht⟩:=h
 exact ⟨v0,v1,v2,v3,rfl,ht.keep fun b cs f _ hb => ⟨hk b cs f hb,trivial⟩⟩
theorem FrC.keep {w w':World} {fr:Fr0} {cs:List Value} (h:FrC w fr cs) (hk:∀ (b:Nat) (cs:Array Value) (f:Nat × Nat),w.heap[b]? =some (.cells cs 51 f)→w'.heap[b]? =some (.cells cs 51 f)):FrC w' fr cs:=by
 cases fr with
 | goal bar g =>
  obtain ⟨ts,e,ht⟩:=h
  exact ⟨ts,e,ht.keep hk⟩
 | cut n => exact h
theorem FrC.seven {w:World} {fr:Fr0} {cs:List Value} (h:FrC w fr cs):∃ (k b n k0 k1:Int) (s:ByteArray) (A:Option Addr) (m c:Nat),cs=[.int .i64 k,.int .i64 b,.int .i64 n,.int .i64 k0,.int .i64 k1,.string s,.slice A m c]:=by
 cases fr with
 | goal bar g =>
  obtain ⟨ts,rfl,v0,v1,v2,v3,rfl,ht⟩:=h
  obtain ⟨k,n,s,A,m,c,e⟩:=ht.agg
  injection e with e
  simp only [Array.mk.injEq,List.cons.injEq,and_true] at e
  obtain ⟨rfl,rfl,rfl,rfl⟩:=e
  exact ⟨_,_,_,_,_,_,_,_,_,rfl⟩
 | cut n => exact ⟨_,_,_,_,_,_,_,_,_,h⟩
theorem FL.keep {w w':World} (hk:∀ (b:Nat) (cs:Array Value) (ty:TypeId) (f:Nat × Nat),w.heap[b]? =some (.cells cs ty f)→(ty=128∨ty=51)→w'.heap[b]? =some (.cells cs ty f)):∀ {l:List Fr0} {v:Value},FL w l v→FL w' l v
 | [],_,h => h
 | f ::r,_,h => by
  obtain ⟨b,cs,nx,rfl,h1,h2,h3⟩:=h
  exact ⟨b,cs,nx,rfl,h1.keep fun b cs f hb => hk b cs _ f hb (.inr rfl),FL.keep hk h2,hk _ _ _ _ h3 (.inl rfl)⟩
theorem FL.below {w w':World} {l:List Fr0} {v:Value} (h:FL w l v) (hb:Below w.heap.size w w'):FL w' l v:=h.keep fun b _ _ _ hh _ => (hb.block b (heap_lt hh)).trans hh
theorem FL.ptr {w:World} {l:List Fr0} {v:Value} (h:FL w l v):∃ a,v=.pointer a:=by
 cases l with
 | nil => exact ⟨_,h⟩
 | cons f r => obtain ⟨b,cs,nx,rfl,_⟩:=h;exact ⟨_,rfl⟩
theorem mlen_any {w:World} {l:List Fr0} {v:Value} (h:FL w l v):Calls Tryz.prog 43 #[v] w fun e w' => e=.returned (.int .i64 (l.length:Int))∧w'=w:=by
 cases l with
 | nil =>
  have h:v=.pointer none:=h
  subst h
  go_enter Tryz.func43,Tryz.ntmps43
  go_wp2_with fail
  go_ret
  exact ⟨rfl,rfl⟩
 | cons f r =>
  obtain ⟨b,cs,nx,rfl,h1,h2,h3⟩:=h
  obtain ⟨k,bb,n,k0,k1,s,A,m,c,rfl⟩:=h1.seven
  have hl:=heap_lt h3
  have c8:=cell_of_row w b 8 _ _ _ h3
  simp at c8
  clear h1 h2 h3
  go_enter Tryz.func43,Tryz.ntmps43
  go_wp2_with fail
  go_ret
  exact ⟨by simp,rfl⟩
def FrR (w:World) (l:List Fr0) (v:Value):Prop:=∃ A c,v=.slice A l.length c∧l.length≤c∧(A=none→c=0)∧
 (0 < l.length→∃ g cs f,A=some ⟨g,0,none⟩∧w.heap[g]? =some (.cells cs 87 f)∧∀ (k:Nat) (fr:Fr0),l[k]? =some fr→∃ us:List Value,FrC w fr us∧∀ j,j < 7→cs[7*k+j]? =us[j]?)
end Go.Proofs.YtdgpmpccfjmmcaaGreatDoor
namespace Go.Proofs.YtdgpmpccfjmmcaaGreatDoor
open Go.RowKit
def argsP:P→List P
 | .c _ l => l
 | _ => []
theorem t_form (q:P):∃ k n s,q.t=.mk k n s (argsP q).length (tsP (argsP q)):=by
 cases q with
 | c s l => exact ⟨4,0,ba s,rfl⟩
 | v n => exact ⟨1,n,⟨#[]⟩,by simp only [P.t,argsP,List.length_nil,tsP]⟩
 | i n => exact ⟨2,n,⟨#[]⟩,by simp only [P.t,argsP,List.length_nil,tsP]⟩
 | a s => exact ⟨3,0,ba s,by simp only [P.t,argsP,List.length_nil,tsP]⟩
def fnZ (Nb Mb Pb Cb:Nat):Value:=.func (.func 89) #[] #[.pointer (some ⟨Nb,0,none⟩),.pointer (some ⟨Mb,0,none⟩),.pointer (some ⟨Pb,0,none⟩),.pointer (some ⟨Cb,0,none⟩)]
structure Zc (w0 w:World) (Nb Mb Pb Cb sb most n:Nat):Prop where
 bn:w.heap[Nb]? =some (.cells #[.int .i64 (n:Int)] 3 (0,0))
 bm:w.heap[Mb]? =some (.cells #[.int .i64 (most:Int)] 3 (0,0))
 bp:w.heap[Pb]? =some (.cells #[.pointer (some ⟨sb,0,none⟩)] 73 (0,0))
 bc:w.heap[Cb]? =some (.cells #[fnZ Nb Mb Pb Cb] 109 (0,0))
 low:Below w0.heap.size w0 w
 n0:w0.heap.size≤Nb
 ne:Nb≠Mb
theorem Zc.below {w0 w w':World} {Nb Mb Pb Cb sb most n:Nat} (h:Zc w0 w Nb Mb Pb Cb sb most n) (hb:Below w.heap.size w w'):Zc w0 w' Nb Mb Pb Cb sb most n:=
 ⟨(hb.block _ (heap_lt h.bn)).trans h.bn,(hb.block _ (heap_lt h.bm)).trans h.bm,(hb.block _ (heap_lt h.bp)).trans h.bp,(hb.block _ (heap_lt h.bc)).trans h.bc,h.low.trans (hb.mono h.low.size),h.n0,h.ne⟩
theorem Zc.set {w0 w:World} {Nb Mb Pb Cb sb most n:Nat} (h:Zc w0 w Nb Mb Pb Cb sb most n) (z:Nat):Zc w0 (w.setCell ⟨Nb,0,none⟩ (.int .i64 (z:Int))) Nb Mb Pb Cb sb most z:=by
 have far:∀ {b:Nat} {cs:Array Value} {t:TypeId},w.heap[b]? =some (.cells cs t (0,0))→b≠Nb→(w.setCell ⟨Nb,0,none⟩ (.int .i64 (z:Int))).heap[b]? =some (.cells cs t (0,0)):=fun hb hne => (Below.heap_setCell _ _ _ _ hne).trans hb
 refine ⟨by simpa using blk_set h.bn 0 (.int .i64 (z:Int)),far h.bm (Ne.symm h.ne),far h.bp fun e => ?_,far h.bc fun e => ?_,h.low.setCell (p:=⟨Nb,0,none⟩) h.n0 _,h.n0,h.ne⟩
 ·have:=h.bp
  rw [e,h.bn] at this
  cases this
 ·have:=h.bc
  rw [e,h.bn] at this
  cases this
def szStep (L:Bp) (most f:Nat) (r:Option Nat) (x:P):Option Nat:=match r with
 | none => none
 | some n => if n≤most then szP L most f n x else some n
theorem sz_step_none (L:Bp) (most f:Nat) (l:List P):l.foldl (szStep L most f) none=none:=szf_none L most f l
theorem sz_open {L:Bp} {most f n z:Nat} {p:P} (h:szP L most (f+1) n p=some z) (hm:¬ most < n+1):(argsP (walkP L p)).foldl (szStep L most f) (some (n+1))=some z:=by
 unfold szP at h
 rw [if_neg hm] at h
 cases hw:walkP L p with
 | c s l => rw [hw] at h;exact h
 | _ => rw [hw] at h;exact h
theorem sz_full {L:Bp} {most f n z:Nat} {p:P} (h:szP L most (f+1) n p=some z) (hm:most < n+1):z=n+1:=by
 unfold szP at h
 rw [if_pos hm] at h
 exact (Option.some.inj h).symm
theorem sz_at {L:Bp} {most f z:Nat}:∀ (l:List P) (n:Nat),l.foldl (szStep L most f) (some n)=some z→∀ i,i < l.length→∃ a b,(l.take i).foldl (szStep L most f) (some n)=some a∧(l.take (i+1)).foldl (szStep L most f) (some n)=some b∧∀ x,l[i]? =some x→szStep L most f (some a) x=some b
 | [],n,h,i,hi => absurd hi (by simp)
 | x ::l,n,h,i,hi => by
  rw [List.foldl_cons] at h
  cases hs:szStep L most f (some n) x with
  | none => rw [hs,sz_step_none] at h;cases h
  | some b =>
   rw [hs] at h
   cases i with
   | zero => exact ⟨n,b,rfl,by simp [hs],fun y hy => by simp at hy;subst hy;exact hs⟩
   | succ i =>
    obtain ⟨a',b',h1,h2,h3⟩:=sz_at l b h i (by simpa using hi)
    exact ⟨a',b',by simp [hs,h1],by simp only [List.take_succ_cons,List.foldl_cons,hs];exact h2,fun y hy => h3 y (by simpa using hy)⟩
theorem sz_grow {L:Bp} {most f n z:Nat} {p:P} (h:szP L most f n p=some z):z≤max (n+1) (most+1)∧n+1≤z:=by
 refine ⟨?_,(sz_size L most f n p z h).1⟩
 induction f generalizing n p z with
 | zero => cases h
 | succ f ih =>
  by_cases hm:most < n+1
  ·rw [sz_full h hm];omega
  ·have h2:=sz_open h hm
   have key:∀ (l:List P) (a:Nat),l.foldl (szStep L most f) (some a)=some z→a≤most+1→z≤most+1:=by
    intro l
    induction l with
    | nil => intro a h ha;obtain rfl:=Option.some.inj h;exact ha
    | cons x l il =>
     intro a h ha
     rw [List.foldl_cons] at h
     cases hs:szStep L most f (some a) x with
     | none => rw [hs,sz_step_none] at h;cases h
     | some b =>
      rw [hs] at h
      refine il b h ?_
      unfold szStep at hs
      simp only at hs
      split at hs
      ·have:=ih hs;omega
      ·obtain rfl:=Option.some.inj hs;omega
   have:=key _ _ h2 (by omega)
   omega
theorem fld_args (k n:Int) (s:ByteArray) (A:Option Addr) (m c:Nat) (W:World):Sem.run Tryz.prog (Instr.field 51 (.agg #[.int .i64 k,.int .i64 n,.string s,.slice A m c]) 3) W=.ok (.slice A m c) W:=by kernel_rfl
set_option maxRecDepth 100000 in
set_option maxHeartbeats 8000000 in
theorem vz_any {w0:World} {B sb:Nat} {C:List CV} {R:List (CV × Nat)} {M:List (Nat × Nat)} {L:Bp} {most Nb Mb Pb Cb:Nat} (hsm:SM w0 B sb C R M) (hcl:CL w0 C (Bt L)) (hm:most≤1048576):∀ (f n:Nat) (p:P) (z:Nat),szP L most f n p=some z→p.t.ok→n≤most→
 ∀ (w:World) (v:Value),Zc w0 w Nb Mb Pb Cb sb most n→TP w0 (fun _ => True) p.t v→
 Calls Tryz.prog 89 #[v,.pointer (some ⟨Nb,0,none⟩),.pointer (some ⟨Mb,0,none⟩),.pointer (some ⟨Pb,0,none⟩),.pointer (some ⟨Cb,0,none⟩)] w fun e w' => e=.returned (.tuple #[])∧Zc w0 w' Nb Mb Pb Cb sb most z:=by
 intro f
 induction f with
 | zero => intro n p z h;cases h
 | succ f ih =>
  intro n p z h hok hn w v hz hv
  obtain ⟨k0,n0,s0,A0,m0,c0,rfl⟩:=hv.agg
  have SMH:=Lib.hid hsm
  have CLH:=Lib.hid hcl
  have IH:=Lib.hid ih
  have HV:=Lib.hid hv
  have OK:=Lib.hid hok
  have HS:=Lib.hid h
  obtain ⟨W,hW⟩:∃ W,W=w.alloc (Obj.cells #[.int .i64 k0,.int .i64 n0,.string s0,.slice A0 m0 c0] 51):=⟨_,rfl⟩
  have Z:=Lib.hid (show Zc w0 W Nb Mb Pb Cb sb most n by rw [hW];exact hz.below (belA (Below.refl _ _) _))
  have X:=Lib.hid (show W.heap[w.heap.size]? =some (.cells #[.int .i64 k0,.int .i64 n0,.string s0,.slice A0 m0 c0] 51 (0,0)) by rw [hW];exact heap_alloc_new _ _)
  have HW:=Lib.hid hW
  have Z1:=Lib.hid (Z.out.set (n+1))
  have hNw:Nb < w.heap.size:=heap_lt hz.bn
  have X1:=Lib.hid ((Below.heap_setCell W ⟨Nb,0,none⟩ (.int .i64 ((n+1:Nat):Int)) w.heap.size (by show w.heap.size≠Nb;omega)).trans X.out)
  obtain ⟨x0,x1,x2,x3⟩:=box4 X1.out
  have b0:=cell_of_row W Nb 0 _ _ _ Z.out.bn
  have d1:=cell_of_row _ Mb 0 _ _ _ Z1.out.bm
  have d2:=cell_of_row _ Pb 0 _ _ _ Z1.out.bp
  have l0:=heap_lt Z.out.bn
  have l1:=heap_lt Z.out.bm
  have l2:=heap_lt Z.out.bp
  have l3:=heap_lt X.out
  have fr0:W.frozen? ⟨Nb,0,none⟩=false:=by simp [World.frozen?,Z.out.bn]
  rw [show ((n+1:Nat):Int)=(n:Int)+1 from by omega] at x0 x1 x2 x3 d1 d2
  clear hz hv hok h ih hsm hcl hW
  by_cases hmn:most < n+1
  ·have HE:=Lib.hid (sz_full HS.out hmn)
   have hmn':(most:Int) < (n:Int)+1:=by omega
   go_enter Tryz.func89,Tryz.ntmps89
   go_upto_region 1 with fail
   rw [← HW.out]
   go_wp2_with fail
   refine bodyPost_ret (results_none rfl _ _ _) rfl ?_
   exact ⟨rfl,by rw [HE.out];have:=Z1.out;rw [show ((n+1:Nat):Int)=(n:Int)+1 from by omega] at this;exact this⟩
  ·have HO:=Lib.hid (sz_open HS.out hmn)
   have hmn':¬ (most:Int) < (n:Int)+1:=by omega
   have OKW:=Lib.hid (CLH.out.ok.walk_ok OK.out)
   obtain ⟨W1,hW1⟩:∃ W1,W1=W.setCell ⟨Nb,0,none⟩ (.int .i64 ((n:Int)+1)):=⟨_,rfl⟩
   have HW1:=Lib.hid hW1
   rw [show ((n+1:Nat):Int)=(n:Int)+1 from by omega,← hW1] at Z1
   clear hW1
   go_enter Tryz.func89,Tryz.ntmps89
   go_upto_region 1 with fail
   rw [← HW.out]
   go_wp2_with fail
   rw [← HW1.out]
   refine (swalk_any SMH.out CLH.out HV.out OK.out Z1.out.low).mono ?_
   rintro e w6 ⟨⟨v',rfl,hv'⟩,h6⟩
   have Z6:=Lib.hid (Z1.out.below h6)
   rw [walk_t] at hv' OKW
   clear x0 x1 x2 x3 d1 d2 b0 fr0 h6
   obtain ⟨q,hq⟩:∃ q,walkP L p=q:=⟨_,rfl⟩
   rw [hq] at hv' OKW HO
   obtain ⟨tk,tn,ts,hqt⟩:=t_form q
   rw [hqt] at hv' OKW
   obtain ⟨l,hl⟩:∃ l,argsP q=l:=⟨_,rfl⟩
   rw [hl] at hv' OKW HO
   obtain ⟨A1,c1,rfl,hmc,hA,hx⟩:=hv'
   have HX:=Lib.hid hx
   have hm1:=OKW.out.few
   have hfl:=fld_args tk tn ts A1 l.length c1
   clear hx hA hq hqt hl
   go_wp2_with fail
   go_loopw [7,18] (fun _ iv wr => ∃ i a:Nat,iv=.int .i64 (i:Int)∧i≤l.length∧Hid ((l.take i).foldl (szStep L most f) (some (n+1))=some a)∧a≤most+1∧Zc w0 wr Nb Mb Pb Cb sb most a) (fun _ iv _ => l.length - (intOf iv).toNat)
   case atStart => exact ⟨0,n+1,rfl,Nat.zero_le _,Lib.hid rfl,by omega,Z6.out⟩
   case round =>
    clear Z6
    obtain ⟨i,a,rfl,hi,ha,ham,hr⟩:=hrel
    have R:=Lib.hid hr
    have e1:=cell_of_row wr Nb 0 _ _ _ hr.bn
    have e2:=cell_of_row wr Mb 0 _ _ _ hr.bm
    have e3:=cell_of_row wr Cb 0 _ _ _ hr.bc
    have k1:=heap_lt hr.bn
    have k2:=heap_lt hr.bm
    have k3:=heap_lt hr.bc
    clear hr
    by_cases him:i < l.length
    ·have him':(i:Int) < (l.length:Int):=by omega
     obtain ⟨b,cs,fz,rfl,hSb,hbb,hcell⟩:=HX.out (by omega)
     obtain ⟨v0,v1,v2,v3,c0,c1',c2,c3,ht'⟩:=hcell i him
     rw [ts_at l i him] at ht'
     obtain ⟨k0',k1',k2',A0',m0',cc0,he⟩:=ht'.agg
     injection he with he
     simp only [Array.mk.injEq,List.cons.injEq,and_true] at he
     obtain ⟨rfl,rfl,rfl,rfl⟩:=he
     have hbw:=(R.out.low.block b (heap_lt hbb)).trans hbb
     have hbl:=heap_lt hbw
     have hrc:=fun (j:Nat) => cell_of_row wr b j _ _ _ hbw
     have d0:=(hrc (4*i)).trans c0
     have d1:=(hrc (4*i+1)).trans c1'
     have d2:=(hrc (4*i+2)).trans c2
     have d3:=(hrc (4*i+3)).trans c3
     rw [Nat.mul_comm 4 i] at d0 d1 d2 d3
     obtain ⟨a',b',s1,s2,s3⟩:=sz_at l (n+1) HO.out i him
     rw [ha.out] at s1
     obtain rfl:=Option.some.inj s1
     have s3':=s3 _ (List.getElem?_eq_getElem him)
     have HS2:=Lib.hid s2
     have RA:=Lib.hid (R.out.below (belA (Below.refl wr.heap.size wr) (Obj.cells #[.int .i64 k0',.int .i64 k1',.string k2',.slice A0' m0' cc0] 51)))
     have HT:=Lib.hid ht'
     have HOKA:=Lib.hid (show (l[i]).t.ok by have:=OKW.out.arg him;rwa [ts_at l i him] at this)
     clear hrc c0 c1' c2 c3 ht' hcell hbb hbw s2 s3
     by_cases hle:a≤most
     ·have hle':(a:Int)≤(most:Int):=by omega
      have s4:szP L most f a (l[i])=some b':=by unfold szStep at s3';simp only at s3';rwa [if_pos hle] at s3'
      have hbm:=(sz_grow s4).1
      have CI:=Lib.hid (IH.out a _ b' s4 HOKA.out hle _ _ RA.out HT.out)
      unfold fnZ at e3
      clear s3' s4
      go_wp2_with fail
      refine CI.out.mono ?_
      rintro e w5 ⟨rfl,hz5⟩
      have Z5:=Lib.hid hz5
      clear hz5
      go_wp2_with fail
      go_roundw
      case rel => exact ⟨i+1,b',by go_num,him,HS2,by omega,Z5.out⟩
      case measure => simp [intOf];omega
     ·have hle':¬ (a:Int)≤(most:Int):=by omega
      have hab:b'=a:=by unfold szStep at s3';simp only at s3';rw [if_neg hle] at s3';exact (Option.some.inj s3').symm
      subst hab
      clear s3'
      go_wp2_with fail
      go_roundw
      case rel => exact ⟨i+1,_,by go_num,him,HS2,by omega,RA.out⟩
      case measure => simp [intOf];omega
    ·obtain rfl:i=l.length:=by omega
     have hza:=ha.out
     rw [List.take_length,HO.out] at hza
     obtain rfl:=Option.some.inj hza
     clear hza
     go_wp2_with fail
     go_end0
     exact ⟨rfl,R.out⟩
set_option maxRecDepth 100000 in
set_option maxHeartbeats 8000000 in
theorem st_size {B:Nat} {w:World} {sb n:Nat} {L:Bp} {M:List (Nat × Nat)} (h:ST B w sb n L M) {p:P} {v:Value} (hv:TP w (fun _ => True) p.t v) (qa:p.lq) (ka:kn n p=true) (sa:p.size≤1000) {most z:Nat} (hm:most≤1048576) (hmp:0 < most) (hz:szP L most deepF 0 p=some z) :
 Calls Tryz.prog 58 #[.pointer (some ⟨sb,0,none⟩),v,.int .i64 (most:Int)] w fun e w' => e=.returned (.int .i64 (z:Int))∧Below w.heap.size w w':=by
 obtain ⟨C,R,Hs,h1,h2,-⟩:=h.ex
 obtain ⟨ga,na,la⟩:=good_t n h.hn _ p (Nat.le_refl _) qa ka
 have OK:p.t.ok:=⟨ga,by omega⟩
 obtain ⟨k0,n0,s0,A0,m0,c0,rfl⟩:=hv.agg
 have HV:=Lib.hid hv
 have SF:∀ (a:Addr) (cs:Array Value) (m:Mode) (W:World),(store a (.func (.func 89) #[] cs) m).run Tryz.prog W=stored Tryz.prog W a (.func (.func 89) #[] cs) m:=fun a cs m W => run_store _ W a _ m rfl
 have Z5:=Lib.hid (show Zc w (((((w.alloc (Obj.cells #[.pointer (some ⟨sb,0,none⟩)] 73)).alloc (Obj.cells #[.int .i64 k0,.int .i64 n0,.string s0,.slice A0 m0 c0] 51)).alloc (Obj.cells #[.int .i64 (most:Int)] 3)).alloc (Obj.cells #[.int .i64 0] 3)).alloc (Obj.cells #[fnZ (w.heap.size+1+1+1) (w.heap.size+1+1) w.heap.size (w.heap.size+1+1+1+1)] 109)) (w.heap.size+1+1+1) (w.heap.size+1+1) w.heap.size (w.heap.size+1+1+1+1) sb most 0 by
  have st:∀ (W:World) (o o':Obj) (g:Nat),W.heap[g]? =some o'→(W.alloc o).heap[g]? =some o':=fun W o o' g h => (Below.heap_alloc _ _ _ (heap_lt h)).trans h
  have nw:∀ (W:World) (o:Obj) (g:Nat),g=W.heap.size→(W.alloc o).heap[g]? =some o:=fun W o g h => heap_at W o h
  exact ⟨st _ _ _ _ (nw _ _ _ (by simp)),st _ _ _ _ (st _ _ _ _ (nw _ _ _ (by simp))),st _ _ _ _ (st _ _ _ _ (st _ _ _ _ (st _ _ _ _ (nw _ _ _ rfl)))),nw _ _ _ (by simp),belA (belA (belA (belA (belA (Below.refl _ _) _) _) _) _) _,by omega,by omega⟩)
 have CV:=Lib.hid (vz_any h1 h2 hm deepF 0 p z hz OK (Nat.zero_le _) _ _ Z5.out hv)
 have hmi:¬ (1048576:Int) < (most:Int):=by omega
 have hm0:¬ (most:Int) < 0:=by omega
 have hm1:(0:Int) < (most:Int):=by omega
 unfold fnZ at CV
 clear hv h1 h2 hz OK ga na la h Z5
 go_enter Tryz.func58,Tryz.ntmps58
 go_wp2_with fail
 refine CV.out.mono ?_
 rintro e w7 ⟨rfl,h7⟩
 have o0:=cell_of_row w7 _ 0 _ _ _ h7.bn
 have ol:=heap_lt h7.bn
 have B7:=Lib.hid h7.low
 clear h7
 go_wp2_with fail
 go_ret
 exact ⟨rfl,B7.out⟩
end Go.Proofs.YtdgpmpccfjmmcaaGreatDoor
namespace Go.Proofs.YtdgpmpccfjmmcaaGreatDoor
open Go.RowKit
theorem head_own {w:World} {B g c:Nat} {l:List Ins} (h:IRw w B (.slice (some ⟨g,0,none⟩) (⟨1,0,⟨#[]⟩⟩ ::l:List Ins).length c) (⟨1,0,⟨#[]⟩⟩ ::l)) (n:Int):IRw (w.setCell ⟨g,1,none⟩ (.int .i64 n)) B (.slice (some ⟨g,0,none⟩) (⟨1,n,⟨#[]⟩⟩ ::l:List Ins).length c) (⟨1,n,⟨#[]⟩⟩ ::l):=by
 have:=setCells_own h [.int .i64 n] (o:=1) (by simp only [List.length_cons,List.length_nil];omega)
 exact this
set_option maxRecDepth 100000 in
set_option maxHeartbeats 8000000 in
theorem pencode_any {th:T} {gs:List T} {w:World} {S S' P:Nat→Prop} {B':Nat} {hv gv:Value} {qs:List Q6} (hok:th.ok) (hgok:∀ g ∈ gs,g.ok) (hth:TP w S th hv) (hgs:TL w B' S' P gv gs qs) (hfew:nodesL gs≤7000) (hfew2:gs.length≤7000) :
 Calls Tryz.prog 16 #[hv,gv] w fun e w' => EncP th gs w e w':=by
 obtain ⟨q0,q1,q2,q3,q4,q5,rfl⟩:=hth.agg
 obtain ⟨A,c,rfl,hc,hA,hx⟩:=hgs.all
 have HTH:=Lib.hid hth
 have HGS:=Lib.hid hgs
 have HOK:=Lib.hid hok
 have HGO:=Lib.hid hgok
 have hn1:th.nodes≤4000:=hok.2
 obtain ⟨W,hW⟩:∃ W,W=(((w.alloc (Obj.cells #[.int .i64 q0,.int .i64 q1,.string q2,.slice q3 q4 q5] 51)).alloc (Obj.cells #[.int .i64 1,.int .i64 0,.string ⟨#[]⟩] 67)).alloc (.map #[] 0)).alloc (Obj.cells #[.slice (some ⟨w.heap.size+1,0,none⟩) 1 1,.map (some (w.heap.size+2))] 113):=⟨_,rfl⟩
 have HW:=Lib.hid hW
 have BX:=Lib.hid (show Below w.heap.size w W by rw [hW];exact belA (belA (belA (belA (Below.refl _ _) _) _) _) _)
 have CD:=Lib.hid (show Cd W (w.heap.size+3) (w.heap.size+2) (w.heap.size+1) (.slice (some ⟨w.heap.size+1,0,none⟩) 1 1) [⟨1,0,⟨#[]⟩⟩] [] by
  rw [hW]
  refine ⟨heap_at _ _ (by simp),⟨rfl,.inr ⟨_,1,_,rfl,by omega,((Below.heap_alloc _ _ _ (by simp)).trans (Below.heap_alloc _ _ _ (by simp))).trans (heap_at _ _ (by simp)),Nat.le_refl _,by simp [maxLen],rfl,by simp [insCells,Ins.cells]⟩⟩,?_⟩
  have hm:=IX.made ((w.alloc (Obj.cells #[.int .i64 q0,.int .i64 q1,.string q2,.slice q3 q4 q5] 51)).alloc (Obj.cells #[.int .i64 1,.int .i64 0,.string ⟨#[]⟩] 67))
  have e:slotM []=fun _ => none:=rfl
  rw [e]
  refine IX.keep (by simpa using hm) ?_
  exact Below.heap_alloc _ _ _ (by simp))
 have C0:=Lib.hid (cterm_any th hok (w.heap.size+3) (w.heap.size+2) (w.heap.size+1) _ [⟨1,0,⟨#[]⟩⟩] [] _ W S (HTH.out.below BX.out) CD.out (by omega) (by omega) (by omega) (by simp;omega) (by simp;omega))
 have MK:∀ W:World,(Instr.makeMap 111 none).run Tryz.prog W=.ok (.map (some W.heap.size)) (W.alloc (.map #[] 0)):=fun W => run_makeMap _ W
 clear hth hgs hok hgok hx hW
 go_enter Tryz.func16,Tryz.ntmps16
 go_wp2_with fail
 rw [← HW.out]
 refine C0.out.mono ?_
 rintro e w1 ⟨rfl,lv1,hcd1,hk1⟩
 have B1:=Lib.hid (BX.out.trans (hk1.low.mono (Nat.le_succ _)))
 obtain ⟨r0,hr0⟩:∃ r0,r0=codeT th []:=⟨_,rfl⟩
 have HR0:=Lib.hid hr0
 have HRL:=Lib.hid (show r0.1.length≤4000∧r0.2.length≤4000 by
  obtain ⟨j1,j2⟩:=codeT_len th HOK.out.1.kinds []
  rw [hr0]
  simp at j2
  exact ⟨by omega,by omega⟩)
 rw [← hr0] at hcd1
 have C1:=Lib.hid hcd1
 clear hcd1 hk1 C0 CD hr0 HW BX MK
 go_wp2_with fail
 go_loopw [18] (fun iv wr => ∃ (i:Nat) (lq:Value),iv=.int .i64 (i:Int)∧i≤gs.length∧Cd wr (w.heap.size+3) (w.heap.size+2) (w.heap.size+1) lq (⟨1,0,⟨#[]⟩⟩ ::(codeG (gs.take i) r0).1) (codeG (gs.take i) r0).2∧Below w.heap.size w wr) (fun iv _ => gs.length - (intOf iv).toNat)
 case atStart => exact ⟨0,lv1,rfl,Nat.zero_le _,C1.out,B1.out⟩
 case round =>
  clear C1 B1
  obtain ⟨i,lq,rfl,hi,hcd,hb⟩:=hrel
  have HLen:=Lib.hid (show (codeG (gs.take i) r0).1.length+(nodesL gs - nodesL (gs.take i))≤19000∧(codeG (gs.take i) r0).2.length+(nodesL gs - nodesL (gs.take i))≤19000 by
   obtain ⟨j1,j2⟩:=codeG_len (gs.take i) r0 fun x hx => (HGO.out x (List.mem_of_mem_take hx)).1.kinds
   have h1:(gs.take i).length≤gs.length:=by rw [List.length_take];omega
   have h2:nodesL gs=nodesL (gs.take i)+nodesL (gs.drop i):=by rw [← nodesL_app,List.take_append_drop]
   have h3:=HRL.out
   omega)
  obtain ⟨r2,hr2⟩:∃ r2,r2=codeG (gs.take i) r0:=⟨_,rfl⟩
  rw [← hr2] at hcd HLen
  have HR2:=Lib.hid hr2
  obtain ⟨l2,hl2⟩:∃ l2:List Ins,l2=⟨1,0,⟨#[]⟩⟩ ::r2.1:=⟨_,rfl⟩
  have HL2:=Lib.hid hl2
  have HL2N:=Lib.hid (show l2.length=r2.1.length+1 by rw [hl2];simp)
  have hl2b:l2.length≤19001:=by have:=HL2N.out;have:=HLen.out.1;omega
  rw [← hl2] at hcd
  have C2:=Lib.hid hcd
  have B2:=Lib.hid hb
  have hw2:=hb.size
  have hL1:r2.1.length≤19000:=by have:=HLen.out.1;omega
  have hL2:r2.2.length≤19000:=by have:=HLen.out.2;omega
  obtain ⟨AL,cl,rfl,_,_,_⟩:=hcd.own.all
  have c0:=cell_of_row wr (w.heap.size+3) 0 _ _ _ C2.out.box
  have c1:=cell_of_row wr (w.heap.size+3) 1 _ _ _ C2.out.box
  have hXl:=heap_lt C2.out.box
  have f2:=unfrozenX C2.out.box
  clear hcd hb hr2 hl2
  by_cases hig:i < gs.length
  ·have hig':(i:Int) < (gs.length:Int):=by omega
   obtain ⟨g,q,hA',_,hgl,_,d0,d1,d2,d3,ht⟩:=(HGS.out.below B2.out).at_ rfl hig
   subst hA'
   have O2:=Lib.hid C2.out.own
   go_wp2_with (at_builtin;go_must (refine wpList_append_at _ rfl _ _ _ rfl elIns (w.heap.size+1) _ l2.length (insCells l2) rfl ((O2.out.alloc _).alloc _) (some ⟨wr.heap.size+1,0,none⟩) 1 1 (insCells [⟨7,0,⟨#[]⟩⟩]) rfl (fun h => by cases h) (Nat.le_refl _) rfl (fun _ => ⟨_,0,rfl,fun j u hu => ?_⟩) (insCells_small _) (by omega) (by unfold maxLen;omega) (by simp;omega) ?_))
   ·simpa [insCells,Ins.cells] using hu
   intro v3 w3 hown3 hg3 hat3
   obtain ⟨l3,hl3⟩:∃ l3,l3=l2++[⟨7,0,⟨#[]⟩⟩]:=⟨_,rfl⟩
   have HL3:=Lib.hid hl3
   have HL3N:=Lib.hid (show l3.length=l2.length+1 by rw [hl3];simp)
   have O3:=Lib.hid (show IRw w3 (w.heap.size+1) v3 l3 by
    unfold IRw
    rw [hl3,← insCells_app,List.length_append]
    exact hown3)
   obtain ⟨W2,hW2⟩:∃ W2,W2=(wr.alloc (Obj.cells #[.int .i64 q.k,.int .i64 q.n,.string q.s,.slice q.A q.m q.c] 51)).alloc (Obj.cells #[.int .i64 7,.int .i64 0,.string ⟨#[]⟩] 67):=⟨_,rfl⟩
   have BW:=Lib.hid (show Below wr.heap.size wr W2 by rw [hW2];exact belA (belA (Below.refl _ _) _) _)
   rw [← hW2] at hg3
   have OW:=Lib.hid (show IRw W2 (w.heap.size+1) _ l2 from own_below O2.out BW.out)
   have KW:=Lib.hid (Kp.grown hg3 OW.out (by have:=BW.out.size;omega))
   have I2:=Lib.hid (C2.out.im.keep (BW.out.block _ C2.out.im.im.lt))
   have X3:=Lib.hid (KW.out.keep _ _ _ _ ((BW.out.block _ hXl).trans C2.out.box) (by decide))
   have G2:=Lib.hid (show W2.heap[wr.heap.size]? =some (.cells #[.int .i64 q.k,.int .i64 q.n,.string q.s,.slice q.A q.m q.c] 51 (0,0)) by rw [hW2];exact (Below.heap_alloc _ _ _ (by simp)).trans (heap_alloc_new _ _))
   have c3:=cell_of_row w3 (w.heap.size+3) 0 _ _ _ X3.out
   have f3:=unfrozenX X3.out
   obtain ⟨A3,cp3,rfl,_,_,_⟩:=O3.out.all
   obtain ⟨lv4,hcd4,hk4,hg4⟩:=cd_end (vs:=r2.2) X3.out O3.out (grown_map hg3 OW.out I2.out (Below.refl _ _)) I2.out KW.out (by omega) (by omega) G2.out
   obtain ⟨w4,hw4⟩:∃ w4,w4=w3.setCell ⟨w.heap.size+3,0,none⟩ (.slice A3 l3.length cp3):=⟨_,rfl⟩
   obtain ⟨x0,x1,x2,x3⟩:=box4t hg4
   rw [← hw4] at hcd4 hk4 hg4
   have HW4:=Lib.hid hw4
   have C4:=Lib.hid hcd4
   have B4:=Lib.hid (B2.out.trans ((BW.out.mono (by omega)).trans (hk4.low.mono (Nat.le_succ _))))
   obtain ⟨t5,ht5⟩:∃ t5,t5=gs[i]'hig:=⟨_,rfl⟩
   have HT5:=Lib.hid ht5
   have hgn:=HGO.out _ (List.getElem_mem hig)
   rw [← ht5] at hgn
   have TP4:=Lib.hid (show TP w4 _ t5 q.val from hk4.tp ⟨_,_,(BW.out.block _ hXl).trans C2.out.box⟩ (by rw [ht5];exact ht.below BW.out))
   have hgn2:t5.nodes≤4000:=hgn.2
   have CI:=Lib.hid (cterm_any t5 hgn (w.heap.size+3) (w.heap.size+2) (w.heap.size+1) _ l3 r2.2 q.val w4 _ TP4.out C4.out (by omega) (by omega) (by omega) (by have:=HL3N.out;omega) (by omega))
   clear hown3 hg3 hat3 hl3 hW2 hw4 hcd4 hk4 hg4 hgn ht ht5 d0 d1 d2 d3
   go_wp2_with fail
   have CI2:=CI.out
   rw [HW4.out] at CI2
   refine CI2.mono ?_
   rintro e w5 ⟨rfl,lv5,hcd5,hk5⟩
   have C5:=Lib.hid (show Cd w5 (w.heap.size+3) (w.heap.size+2) (w.heap.size+1) lv5 (⟨1,0,⟨#[]⟩⟩ ::(codeG (gs.take (i+1)) r0).1) (codeG (gs.take (i+1)) r0).2 by
    rw [List.take_succ_eq_append_getElem hig,codeG_snoc,← HR2.out,← HT5.out]
    rw [HL3.out,HL2.out] at hcd5
    simpa using hcd5)
   have B5:=Lib.hid (show Below w.heap.size w w5 by
    rw [← HW4.out] at hk5
    exact B4.out.trans (hk5.low.mono (Nat.le_succ _)))
   clear hcd5 hk5 CI2 CI x0 x1 x2 x3
   go_wp2_with fail
   go_roundw
   case rel => exact ⟨i+1,lv5,by go_num,hig,C5.out,B5.out⟩
   case measure => simp [intOf];omega
  ·have hig':¬ (i:Int) < (gs.length:Int):=by omega
   have hin:i=gs.length:=by omega
   have HE:=Lib.hid (show r2=codeG gs (codeT th []) by rw [HR2.out,hin,List.take_length,HR0.out])
   obtain ⟨n,hn⟩:∃ n,n=r2.2.length:=⟨_,rfl⟩
   have HN:=Lib.hid hn
   have hpos:0 < l2.length:=by have:=HL2N.out;omega
   have hposi:(0:Int) < (l2.length:Int):=by omega
   obtain ⟨A',c',he,_,_,_,hx⟩:=own_open C2.out.own
   injection he with e1 _ e3
   obtain ⟨g0,cur,hA',_,hh0,_⟩:=hx hpos
   rw [hA'] at e1
   subst e1
   subst e3
   have hgX:w.heap.size+3≠g0:=by
    intro e
    have h1:=C2.out.box
    rw [e,hh0] at h1
    injection h1 with h1
    injection h1 with _ h1 _
    exact absurd h1 (by decide)
   have hgm:w.heap.size+2≠g0:=by
    intro e
    obtain ⟨D,⟨es,clock,hm,_⟩,_⟩:=C2.out.im
    rw [e,hh0] at hm
    injection hm with hm
    cases hm
   obtain ⟨_,e2,_,hcl⟩:=insrow (i:=0) C2.out.own rfl hpos
   injection e2 with e2
   injection e2 with e2 _
   subst e2
   have d1:=hcl 1 (by omega)
   have f1:=unfrozenX hh0
   have hlen:∀ ty:TypeId,(Builtin.len_ #[111] ty #[.map (some (w.heap.size+2))]).run Tryz.prog wr.drew=.ok (.int .i64 (n:Int)) wr.drew:=fun ty => by
    rw [hn]
    exact (C2.out.im.keep (w':=wr.drew) rfl).len Tryz.underlying111 ty
   have d1':∃ u,wr.cell? ⟨g0,1,none⟩=some (.int .i64 u):=by
    rw [d1]
    rw [show l2[0]=(⟨1,0,⟨#[]⟩⟩:Ins) by simp [HL2.out]]
    exact ⟨0,rfl⟩
   obtain ⟨u1,d1'⟩:=d1'
   obtain ⟨A5,c5,hA5⟩:∃ (A:Option Addr) (c:Nat),True:=⟨none,0,trivial⟩
   have HH0:=Lib.hid hh0
   clear hx hcl hin hn d1 hA5 hh0
   go_wp2_with fail
   go_region
   obtain ⟨l3,hl3⟩:∃ l3:List Ins,l3=⟨1,(n:Int),⟨#[]⟩⟩ ::r2.1:=⟨_,rfl⟩
   have O3:=Lib.hid (show IRw (wr.setCell ⟨g0,1,none⟩ (.int .i64 (n:Int))) (w.heap.size+1) (.slice (some ⟨g0,0,none⟩) l2.length cl) l3 by
    have:=C2.out.own
    rw [HL2.out] at this ⊢
    rw [hl3]
    exact head_own this _)
   have HL3:=Lib.hid hl3
   have HL3N:=Lib.hid (show l3.length=l2.length by rw [hl3,HL2.out];simp)
   have OO3:=Lib.hid (show (wr.setCell ⟨g0,1,none⟩ (.int .i64 (n:Int))).ownsRow (w.heap.size+1) 67 3 (.slice (some ⟨g0,0,none⟩) l2.length cl) l2.length (insCells l3) by
    have:=O3.out
    unfold IRw at this
    rw [HL3N.out] at this
    exact this)
   clear hl3
   go_wp2_with (at_builtin;go_must (refine wpList_append_at _ rfl _ _ _ rfl elIns (w.heap.size+1) _ l2.length (insCells l3) rfl (own_below OO3.out ((Below.refl _ _).alloc (Nat.le_refl _) _).drew) (some ⟨wr.heap.size,0,none⟩) 1 1 (insCells [⟨8,0,⟨#[]⟩⟩]) rfl (fun h => by cases h) (Nat.le_refl _) rfl (fun _ => ⟨_,0,rfl,fun j u hu => ?_⟩) (insCells_small _) (by omega) (by unfold maxLen;omega) (by simp;omega) ?_))
   ·have hj:[Value.int .i64 8,.int .i64 0,.string ⟨#[]⟩][j]? =some u:=hu
    have hb:=heap_at (wr.setCell ⟨g0,1,none⟩ (.int .i64 (n:Int))) (g:=wr.heap.size) (Obj.cells #[.int .i64 8,.int .i64 0,.string ⟨#[]⟩] 67) (by simp)
    rw [World.cell?_drew,Nat.zero_add,cell_of_row _ _ j _ _ _ hb]
    simpa using hj
   intro v6 w6 hown6 hg6 hat6
   have hZ0:w.heap.size+1≤g0:=(C2.out.own.lt g0 rfl).1
   have BZ:=Lib.hid (show Below (w.heap.size+1) wr ((wr.setCell ⟨g0,1,none⟩ (.int .i64 (n:Int))).alloc (Obj.cells #[.int .i64 8,.int .i64 0,.string ⟨#[]⟩] 67)).drew from
    (((Below.refl _ _).setCell (p:=⟨g0,1,none⟩) hZ0 _).alloc (by simp;omega) _).drew)
   have B6:=Lib.hid (show Below w.heap.size w w6 from B2.out.trans ((BZ.out.mono (Nat.le_succ _)).trans ((Kp.grown (B:=w.heap.size) hg6 (World.ownsRow.mono (own_below OO3.out ((Below.refl _ _).alloc (Nat.le_refl _) _).drew) (Nat.le_succ _)) (by simp;omega)).low)))
   have O6:=Lib.hid (show IRw w6 w.heap.size v6 (encN th gs) by
    have e:encN th gs=l3++[⟨8,0,⟨#[]⟩⟩]:=by rw [HL3.out,HN.out,HE.out];rfl
    unfold IRw
    rw [e,← insCells_app,List.length_append,HL3N.out]
    exact World.ownsRow.mono hown6 (Nat.le_succ _))
   clear hown6 hg6 hat6
   go_wp2_with fail
   go_ret
   exact ⟨_,rfl,O6.out,Kp.of B6.out (Nat.le_refl _)⟩
end Go.Proofs.YtdgpmpccfjmmcaaGreatDoor
