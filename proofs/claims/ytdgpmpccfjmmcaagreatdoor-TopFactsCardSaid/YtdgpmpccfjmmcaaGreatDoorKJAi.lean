/- Goals of the program:what is gathered,plainly;rows of terms that grow by one. The machine's plain terms:names,goals,sizes,what may stand in them. The program's store in memory,by values;New,Vars,Mark. The program's store:Fresh. -/
import Derived.Test.YtdgpmpccfjmmcaaGreatDoorKJAh
import Derived.Test.YtdgpmpccfjmmcaaGreatDoorKOrd
import Derived.Test.YtdgpmpccfjmmcaaGreatDoorKJAd
import Derived.Deep.AppendLies
import Derived.Test.YtdgpmpccfjmmcaaGreatDoorKJAf
import Derived.Test.YtdgpmpccfjmmcaaGreatDoorKJAa
import Derived.Test.YtdgpmpccfjmmcaaGreatDoorKJAb
import Derived.Lib.OwnKind
import Derived.Deep.RegionHeld3
import Derived.Deep.DrawnRows
import Derived.Deep.RegionLaw
set_option linter.unusedVariables false
set_option linter.unusedSimpArgs false
namespace Go.Proofs.YtdgpmpccfjmmcaaGreatDoor
open Go.RowKit
def callW:ByteArray:=⟨#[99,97,108,108]⟩
def gatN:T→List T
 | .nil => []
 | .mk k n s m a => if isN (.mk k n s m a) [44] 2 then gatN (a 0)++gatN (a 1) else if isN (.mk k n s m a) [116,114,117,101] 0 then [] else if k=1 then [.mk 4 0 callW 1 fun _ => .mk k n s m a] else [.mk k n s m a]
theorem gat_ok:∀ (t:T),t.good→(∀ g ∈ gatN t,g.good∧g.nodes≤max t.nodes 2)∧nodesL (gatN t)≤2*t.nodes∧(gatN t).length≤t.nodes:=by
 intro t
 induction t with
 | nil => intro _;exact ⟨fun _ h => (by cases h),Nat.zero_le _,Nat.zero_le _⟩
 | mk k n s m a ih =>
  intro hg
  unfold gatN
  by_cases h1:isN (.mk k n s m a) [44] 2=true
  ·rw [if_pos h1]
   obtain ⟨n1,s1,a1,he,_⟩:=isN_two h1
   injection he with e1 e2 e3 e4 e5
   subst e1;subst e2;subst e3;subst e4;subst e5
   have hN:(T.mk 4 n s 2 a).nodes=1+(0+(a 0).nodes+(a 1).nodes):=rfl
   obtain ⟨p1,p2,p3⟩:=ih 0 (hg.2 0 (by omega))
   obtain ⟨r1,r2,r3⟩:=ih 1 (hg.2 1 (by omega))
   refine ⟨fun g hm => ?_,by rw [nodesL_app,hN];omega,by rw [List.length_append,hN];omega⟩
   rcases List.mem_append.1 hm with hm | hm
   ·exact ⟨(p1 g hm).1,by have:=(p1 g hm).2;rw [hN];omega⟩
   ·exact ⟨(r1 g hm).1,by have:=(r1 g hm).2;rw [hN];omega⟩
  ·rw [if_neg h1]
   by_cases h2:isN (.mk k n s m a) [116,114,117,101] 0=true
   ·rw [if_pos h2];exact ⟨fun _ h => (by cases h),Nat.zero_le _,Nat.zero_le _⟩
   ·rw [if_neg h2]
    have hp:=hg.pos
    by_cases h3:k=1
    ·rw [if_pos h3]
     have h0:m=0:=by
      rcases hg.1 with h | h | h | h
      ·exact h.2.2.2.2
      ·omega
      ·omega
      ·omega
     subst h0
     have e:(T.mk k n s 0 a).nodes=1:=leaf_nodes _ _ _ _
     refine ⟨fun g hm => ?_,by simp [nodesL,T.nodes,sumTo],by simp [e]⟩
     rw [List.mem_singleton] at hm
     subst hm
     exact ⟨call_good hg,by show 1+(0+(T.mk k n s 0 a).nodes)≤_;omega⟩
    ·rw [if_neg h3]
     refine ⟨fun g hm => ?_,by simp [nodesL];omega,by simp;omega⟩
     rw [List.mem_singleton] at hm
     subst hm
     exact ⟨hg,by omega⟩
theorem TL.key {w w':World} {B:Nat} {S P:Nat→Prop} {v:Value} {l:List T} {qs:List Q6} (h:TL w B S P v l qs) (hsz:w.heap.size≤w'.heap.size)
 (hk:∀ (b:Nat) (cs:Array Value) (f:Nat × Nat),w.heap[b]? =some (.cells cs 51 f)→w'.heap[b]? =some (.cells cs 51 f)):TL w' B S P v l qs:=
 ⟨h.len,own_keep h.own fun g hg => by
  obtain ⟨cs,f,hh⟩:=Go.Lib.ownsRow_kind h.own _ hg
  exact (hk g cs f hh).trans hh.symm,fun i h1 h2 => (h.tp i h1 h2).keep fun b cs f hS hb => ⟨hk b cs f hb,hS⟩,fun b hP => ⟨(h.lo b hP).1,Nat.lt_of_lt_of_le (h.lo b hP).2 hsz⟩,h.off,h.NB⟩
theorem setCells_rest {g:Nat}:∀ (us:List Value) (o:Nat) (w:World),(w.setCells g o us).os=w.os∧(w.setCells g o us).tape=w.tape∧(w.setCells g o us).output=w.output
 | [],_,_ => ⟨rfl,rfl,rfl⟩
 | _ ::us,o,w => setCells_rest us (o+1) (w.setCell ⟨g,o,none⟩ _)
theorem grown_set {w w':World} {v:Value} {g:Nat} (h:w.grownBy w' v.ownBlock) (hg:v.ownBlock=some g∨w.heap.size≤g) (o:Nat) (us:List Value):w.grownBy (w'.setCells g o us) v.ownBlock:=by
 obtain ⟨e1,e2,e3⟩:=setCells_rest (g:=g) us o w'
 refine ⟨e1.trans h.os,e2.trans h.tape,e3.trans h.output,by rw [setCells_size];exact h.size,fun k hk hn => ?_⟩
 rw [setCells_other (fun e => ?_)]
 ·exact h.block k hk hn
 ·subst e
  rcases hg with hg | hg
  ·exact hn hg.symm
  ·omega
theorem TL.put {w w5:World} {B:Nat} {S P P2:Nat→Prop} {A:Option Addr} {m c g cap:Nat} {l:List T} {qs:List Q6} (h:TL w B S P (.slice A m c) l qs) (hm:m=l.length) {t:T} (q:Q6) (ht:TP w (fun b => S b∨P2 b) t q.val)
 (hlo:∀ b,P2 b→B≤b∧b < w.heap.size) (hoff:∀ g,(Value.slice A m c).ownBlock=some g→¬ P2 g)
 (hown:w5.ownsRow B 51 4 (.slice (some ⟨g,0,none⟩) (m+1) cap) (m+1) (qCells qs++[.int .i64 0,.int .i64 0,.string ⟨#[]⟩,.slice none 0 0])) (hg:w.grownBy w5 (Value.slice A m c).ownBlock) (hat:(Value.slice A m c).ownBlock=some g∨g=w.heap.size) :
 TL (w5.setCells g (m*4) q.cells) B S (fun b => P b∨P2 b) (.slice (some ⟨g,0,none⟩) (m+1) cap) (l++[t]) (qs++[q]):=by
 have hl:(qCells qs).length=m*4:=by rw [qCells_length,h.len,hm]
 have h1:=setCells_own hown q.cells (o:=m*4) (by simp [Q6.cells];omega)
 rw [List.take_append_of_le_length (by omega),List.take_of_length_le (by omega),List.drop_of_length_le (by simp [Q6.cells];omega),List.append_nil,qCells_one,hm] at h1
 rw [hm]
 refine h.app (l2:=[t]) (q2:=[q]) rfl h1 (grown_set hg (by rcases hat with h | h;exact .inl h;exact .inr (by omega)) _ _) ?_ ?_ hlo hoff
 ·rcases hat with h | h
  ·exact .inl h.symm
  ·exact .inr (by rw [h];rfl)
 ·intro i h1 h2
  obtain rfl:i=0:=by simpa using h1
  exact ht
end Go.Proofs.YtdgpmpccfjmmcaaGreatDoor
namespace Go.Proofs.YtdgpmpccfjmmcaaGreatDoor
theorem ba_lst (s:List UInt8):(ba s).data.toList=s:=by simp [ba]
theorem name_t (p:P):nameT p.t=nameP p:=by
 cases p <;> simp [P.t,nameT,nameP,ba_lst]
theorem is_t (p:P) (s:List UInt8) (n:Nat):isN p.t s n=(nameP p == some (s,n)):=by
 unfold isN;rw [name_t]
theorem ctl_t (p:P):ctlT p.t=match nameP p with
 | some (s,n) => ctlW s n
 | none => false:=by
 unfold ctlT
 simp only [is_t]
 cases nameP p with
 | none => rfl
 | some x =>
  obtain ⟨s,n⟩:=x
  unfold ctlW
  rw [Bool.eq_iff_iff]
  simp
  constructor
  ·rintro ((((⟨rfl,rfl⟩ | ⟨rfl,rfl⟩) | ⟨rfl,rfl⟩) | ⟨rfl,rfl⟩) | ⟨rfl,rfl⟩) <;> simp
  ·rintro ((⟨rfl,(rfl | rfl) | rfl⟩ | ⟨rfl,rfl⟩) | ⟨rfl,rfl⟩) <;> simp
theorem wrgs_iff:∀ l:List P,wrgPs l=true↔∃ x ∈ l,wrgP x=true
 | [] => by simp [wrgPs]
 | p ::l => by
  rw [wrgPs,Bool.or_eq_true,wrgs_iff l]
  simp
theorem wrong_t:∀ (k:Nat) (p:P),p.size≤k→wrongT p.t=wrgP p
 | _,.v n,_ => by simp [P.t,wrongT,wrgP,ctlT,isN,nameT]
 | _,.i n,_ => by simp [P.t,wrongT,wrgP]
 | _,.a s,_ => by
  have:wrongT (P.a s).t=(ctlT (P.a s).t && anyN 0 fun i => wrongT .nil):=by simp [P.t,wrongT]
  rw [this]
  simp [anyN,wrgP]
 | 0,.c s l,h => by simp [P.size] at h
 | k+1,.c s l,h => by
  have e:wrongT (P.c s l).t=(ctlT (P.c s l).t && anyN l.length fun i => wrongT (tsP l i)):=by simp [P.t,wrongT]
  rw [e,ctl_t]
  simp only [nameP]
  rw [wrgP]
  congr 1
  rw [Bool.eq_iff_iff,anyN_iff,wrgs_iff]
  have hsz:∀ (l:List P),∀ x ∈ l,x.size≤sizesP l:=by
   intro l
   induction l with
   | nil => intro x hx;cases hx
   | cons y l ih =>
    intro x hx
    rw [sizesP]
    rcases List.mem_cons.1 hx with rfl | hx
    ·omega
    ·have:=ih x hx;omega
  have hl:sizesP l≤k:=by rw [P.size] at h;omega
  constructor
  ·rintro ⟨i,hi,hw⟩
   rw [ts_at l i hi] at hw
   exact ⟨l[i],List.getElem_mem hi,by rw [← wrong_t k _ (Nat.le_trans (hsz l _ (List.getElem_mem hi)) hl)];exact hw⟩
  ·rintro ⟨x,hx,hw⟩
   obtain ⟨i,hi,rfl⟩:=List.getElem_of_mem hx
   exact ⟨i,hi,by rw [ts_at l i hi,wrong_t k _ (Nat.le_trans (hsz l _ hx) hl)];exact hw⟩
def TEq (t t':T):Prop:=∀ (w:World) (S:Nat→Prop) (v:Value),TP w S t v→TP w S t' v
theorem TEq.refl (t:T):TEq t t:=fun _ _ _ h => h
def TEqs (ts:List T) (gs:List P):Prop:=ts.length=gs.length∧∀ (i:Nat) (t:T) (g:P),ts[i]? =some t→gs[i]? =some g→TEq t g.t
theorem TEqs.one {t:T} {g:P} (h:TEq t g.t):TEqs [t] [g]:=⟨rfl,fun i a b ha hb => by
 rcases i with _ | i
 ·simp at ha hb
  subst ha hb
  exact h
 ·simp at ha⟩
theorem TEqs.nil:TEqs [] []:=⟨rfl,fun i a b ha => by simp at ha⟩
theorem TEqs.app {a a':List T} {b b':List P} (h:TEqs a b) (h':TEqs a' b'):TEqs (a++a') (b++b'):=⟨by simp [h.1,h'.1],fun i x y hx hy => by
 have hl:=h.1
 rcases Nat.lt_or_ge i a.length with hi | hi
 ·rw [List.getElem?_append_left hi] at hx
  rw [List.getElem?_append_left (by omega)] at hy
  exact h.2 i x y hx hy
 ·rw [List.getElem?_append_right hi] at hx
  rw [List.getElem?_append_right (by omega),← hl] at hy
  exact h'.2 _ x y hx hy⟩
theorem gat_t:∀ (f:Nat) (p:P) (gs:List P),gatP f p=some gs→TEqs (gatN p.t) gs
 | 0,p,gs,h => by cases h
 | f+1,.v n,gs,h => by
  obtain rfl:=Option.some.inj h
  have e2:gatN (P.v n).t=[.mk 4 0 callW 1 fun _ => (P.v n).t]:=by simp [P.t,gatN,isN,nameT]
  rw [e2]
  refine TEqs.one fun w S v hv => ?_
  have e:(P.c [99,97,108,108] [P.v n]).t=.mk 4 0 callW 1 (tsP [P.v n]):=rfl
  rw [e]
  obtain ⟨A,c,rfl,h1,h2,h3⟩:=hv
  refine ⟨A,c,rfl,h1,h2,fun hm => ?_⟩
  obtain ⟨b,cs,f,e1,e2,e3,e4⟩:=h3 hm
  refine ⟨b,cs,f,e1,e2,e3,fun i hi => ?_⟩
  obtain rfl:i=0:=by omega
  exact e4 0 hi
 | f+1,.i n,gs,h => by
  obtain rfl:=Option.some.inj h
  rw [show gatN (P.i n).t=[(P.i n).t] by simp [P.t,gatN,isN,nameT]]
  exact TEqs.one (TEq.refl _)
 | f+1,.a s,gs,h => by
  obtain rfl:=Option.some.inj h
  by_cases e:s=[116,114,117,101]
  ·subst e
   rw [show gatN (P.a [116,114,117,101]).t=[] by simp [P.t,gatN,isN,nameT,ba_lst],if_pos rfl]
   exact TEqs.nil
  ·rw [if_neg e,show gatN (P.a s).t=[(P.a s).t] by simp [P.t,gatN,isN,nameT,ba_lst,e]]
   exact TEqs.one (TEq.refl _)
 | f+1,.c s l,gs,h => by
  unfold gatP at h
  have other:¬ (s=[44]∧l.length=2)→l≠[]→TEqs (gatN (P.c s l).t) [P.c s l]:=fun hn hne => by
   have e:gatN (P.c s l).t=[(P.c s l).t]:=by
    simp only [P.t,gatN,isN,nameT,ba_lst]
    rw [if_neg (by simp;exact fun h1 h2 => hn ⟨h1,h2⟩)]
    simp [hne]
   rw [e]
   exact TEqs.one (TEq.refl _)
  rcases l with _ | ⟨x,_ | ⟨y,_ | ⟨z,l⟩⟩⟩
  ·cases h
  ·obtain rfl:=Option.some.inj h;exact other (by simp) (by simp)
  rotate_left
  ·obtain rfl:=Option.some.inj h;exact other (by simp) (by simp)
  ·simp only at h
   by_cases e:s=[44]
   ·rw [if_pos e] at h
    subst e
    cases hx:gatP f x with
    | none => rw [hx] at h;cases h
    | some a =>
     cases hy:gatP f y with
     | none => rw [hx,hy] at h;cases h
     | some b =>
      rw [hx,hy] at h
      obtain rfl:=Option.some.inj h
      have:gatN (P.c [44] [x,y]).t=gatN x.t++gatN y.t:=by
       simp only [P.t,gatN,isN,nameT,ba_lst]
       rw [if_pos (by rfl)]
       simp only [tsP]
      rw [this]
      exact (gat_t f x a hx).app (gat_t f y b hy)
   ·rw [if_neg e] at h
    obtain rfl:=Option.some.inj h
    exact other (fun h => e h.1) (by simp)
end Go.Proofs.YtdgpmpccfjmmcaaGreatDoor
namespace Go.Proofs.YtdgpmpccfjmmcaaGreatDoor
open Go.RowKit
structure TV where
 k:Int
 n:Int
 s:ByteArray
 A:Option Addr
 m:Nat
 c:Nat
def TV.vals (t:TV):List Value:=[.int .i64 t.k,.int .i64 t.n,.string t.s,.slice t.A t.m t.c]
def TV.zero:TV:=⟨0,0,⟨#[]⟩,none,0,0⟩
structure CV where
 b:Bool
 tg:TV
 attr:TV
def CV.vals (c:CV):List Value:=.bool c.b ::(c.tg.vals++c.attr.vals)
def CV.zero:CV:=⟨false,TV.zero,TV.zero⟩
def evals (e:CV × Nat):List Value:=e.1.vals++[.int .i64 (e.2:Int)]
def mvals (m:Nat × Nat):List Value:=[.int .i64 (m.1:Int),.int .i64 (m.2:Int)]
theorem Tryz.info_mark:(Tryz.prog.info? 276).map (fun i => (i.zero,i.size,i.bytes))=some (some (.agg #[.int .i64 0,.int .i64 0]),2,16):=by kernel_rfl
theorem elMark:El Tryz.prog 119 276 (.agg #[.int .i64 0,.int .i64 0]) 2 16:=by
 obtain ⟨i0,hi,hz0,hz1,hz2⟩:=info_parts Tryz.info_mark
 exact ⟨Tryz.underlying119,⟨i0,hi,hz0,hz1,hz2⟩,rfl,by omega⟩
theorem Tryz.info_cell:(Tryz.prog.info? 220).map (fun i => (i.zero,i.size,i.bytes))=some (some (.agg #[.bool false,.int .i64 0,.int .i64 0,.string ⟨#[]⟩,.slice none 0 0,.int .i64 0,.int .i64 0,.string ⟨#[]⟩,.slice none 0 0]),9,120):=by kernel_rfl
theorem elCell:El Tryz.prog 117 220 (.agg #[.bool false,.int .i64 0,.int .i64 0,.string ⟨#[]⟩,.slice none 0 0,.int .i64 0,.int .i64 0,.string ⟨#[]⟩,.slice none 0 0]) 9 120:=by
 obtain ⟨i0,hi,hz0,hz1,hz2⟩:=info_parts Tryz.info_cell
 exact ⟨Tryz.underlying117,⟨i0,hi,hz0,hz1,hz2⟩,rfl,by omega⟩
theorem Tryz.info_entry:(Tryz.prog.info? 222).map (fun i => (i.zero,i.size,i.bytes))=some (some (.agg #[.bool false,.int .i64 0,.int .i64 0,.string ⟨#[]⟩,.slice none 0 0,.int .i64 0,.int .i64 0,.string ⟨#[]⟩,.slice none 0 0,.int .i64 0]),10,128):=by kernel_rfl
theorem elEntry:El Tryz.prog 118 222 (.agg #[.bool false,.int .i64 0,.int .i64 0,.string ⟨#[]⟩,.slice none 0 0,.int .i64 0,.int .i64 0,.string ⟨#[]⟩,.slice none 0 0,.int .i64 0]) 10 128:=by
 obtain ⟨i0,hi,hz0,hz1,hz2⟩:=info_parts Tryz.info_entry
 exact ⟨Tryz.underlying118,⟨i0,hi,hz0,hz1,hz2⟩,rfl,by omega⟩
structure SM (w:World) (B sb:Nat) (C:List CV) (R:List (CV × Nat)) (M:List (Nat × Nat)):Prop where
 ex:∃ A0 c0 A1 c1 A2 c2,w.heap[sb]? =some (.cells #[.slice A0 C.length c0,.slice A1 R.length c1,.slice A2 M.length c2] 121 (0,0))∧
  w.ownsRow B 220 9 (.slice A0 C.length c0) C.length (C.flatMap CV.vals)∧
  w.ownsRow B 222 10 (.slice A1 R.length c1) R.length (R.flatMap evals)∧
  w.ownsRow B 276 2 (.slice A2 M.length c2) M.length (M.flatMap mvals)
 ge:B≤sb
def NotSt (o:Obj):Prop:=∀ cs ty f,o=.cells cs ty f→ty≠121∧ty≠220∧ty≠222∧ty≠276
structure SF (B:Nat) (w w':World):Prop where
 low:Below B w w'
 far:∀ (k:Nat) (o:Obj),w.heap[k]? =some o→NotSt o→w'.heap[k]? =some o
theorem SF.refl (B:Nat) (w:World):SF B w w:=⟨Below.refl _ _,fun _ _ h _ => h⟩
theorem SF.trans {B:Nat} {a b c:World} (h:SF B a b) (k:SF B b c):SF B a c:=⟨h.low.trans k.low,fun g o h1 h2 => k.far g o (h.far g o h1 h2) h2⟩
theorem SF.below {B:Nat} {w w':World} (hB:B≤w.heap.size) (h:Below w.heap.size w w'):SF B w w':=⟨h.mono hB,fun k _ h1 _ => (h.block k (heap_lt h1)).trans h1⟩
theorem SM.keep {w w':World} {B sb:Nat} {C:List CV} {R:List (CV × Nat)} {M:List (Nat × Nat)} (h:SM w B sb C R M)
 (hk:∀ (k:Nat) (cs:Array Value) (ty:TypeId) (f:Nat × Nat),w.heap[k]? =some (.cells cs ty f)→(ty=121∨ty=220∨ty=222∨ty=276)→w'.heap[k]? =some (.cells cs ty f)):SM w' B sb C R M:=by
 obtain ⟨A0,c0,A1,c1,A2,c2,hb,h0,h1,h2⟩:=h.ex
 exact ⟨⟨A0,c0,A1,c1,A2,c2,hk _ _ _ _ hb (.inl rfl),
  own_keep h0 fun g hg => by obtain ⟨cs,f,hh⟩:=Go.Lib.ownsRow_kind h0 g hg;exact (hk _ _ _ _ hh (.inr (.inl rfl))).trans hh.symm,
  own_keep h1 fun g hg => by obtain ⟨cs,f,hh⟩:=Go.Lib.ownsRow_kind h1 g hg;exact (hk _ _ _ _ hh (.inr (.inr (.inl rfl)))).trans hh.symm,
  own_keep h2 fun g hg => by obtain ⟨cs,f,hh⟩:=Go.Lib.ownsRow_kind h2 g hg;exact (hk _ _ _ _ hh (.inr (.inr (.inr rfl)))).trans hh.symm⟩,h.ge⟩
theorem SM.below {w w':World} {B sb:Nat} {C:List CV} {R:List (CV × Nat)} {M:List (Nat × Nat)} (h:SM w B sb C R M) (hb:Below w.heap.size w w'):SM w' B sb C R M:=
 h.keep fun k _ _ _ h1 _ => (hb.block k (heap_lt h1)).trans h1
theorem snew_any (w:World):Calls Tryz.prog 20 #[] w fun e w' => e=.returned (.pointer (some ⟨w.heap.size,0,none⟩))∧SM w' w.heap.size w.heap.size [] [] []∧Below w.heap.size w w':=by
 go_enter Tryz.func20,Tryz.ntmps20
 go_wp2_with fail
 go_ret
 exact ⟨rfl,⟨⟨none,0,none,0,none,0,heap_alloc_new _ _,World.ownsRow_nil _ _ _ _,World.ownsRow_nil _ _ _ _,World.ownsRow_nil _ _ _ _⟩,Nat.le_refl _⟩,(Below.refl _ _).alloc (Nat.le_refl _) _⟩
theorem flat_snoc {α:Type} (f:α→List Value) (l:List α) (x:α):(l++[x]).flatMap f=l.flatMap f++f x:=by simp
theorem grownOther {w1 w2:World} {B k n m:Nat} {e e':TypeId} {v v':Value} {xs ys:List Value} {size:Nat} (hx:w1.ownsRow B e k v n xs) (hg:w1.grownBy w2 v.ownBlock) (hy:w1.ownsRow B e' size v' m ys) (hne:e'≠e):w2.ownsRow B e' size v' m ys:=
 own_keep hy fun g hg' => by
  obtain ⟨cs,f,hh⟩:=Go.Lib.ownsRow_kind hy g hg'
  refine hg.block g (heap_lt hh) fun h => ?_
  obtain ⟨cs',f',hh'⟩:=Go.Lib.ownsRow_kind hx g h.symm
  rw [hh] at hh'
  injection hh' with hh'
  injection hh' with _ hh'
  exact hne hh'
theorem keepBox {w w1 w2:World} {B k n sb:Nat} {e ty:TypeId} {v:Value} {xs:List Value} {cs:Array Value} {f:Nat × Nat} (hb:w.heap[sb]? =some (.cells cs ty f)) (hx:w.ownsRow B e k v n xs) (h1:Below w.heap.size w w1) (hg:w1.grownBy w2 v.ownBlock) (hne:ty≠e) :
 w2.heap[sb]? =some (.cells cs ty f):=by
 have hb1:=(h1.block _ (heap_lt hb)).trans hb
 refine (hg.block sb (heap_lt hb1) fun h => ?_).trans hb1
 obtain ⟨cs',f',hh'⟩:=Go.Lib.ownsRow_kind (own_below hx h1) sb h.symm
 rw [hb1] at hh'
 injection hh' with hh'
 injection hh' with _ hh'
 exact hne hh'
theorem SM.marked {w w1 w2 W:World} {B sb:Nat} {C:List CV} {R:List (CV × Nat)} {M:List (Nat × Nat)} {A0 A1 A2:Option Addr} {c0 c1 c2 g cap:Nat} {x:Nat × Nat}
 (hb:w.heap[sb]? =some (.cells #[.slice A0 C.length c0,.slice A1 R.length c1,.slice A2 M.length c2] 121 (0,0)))
 (h0:w.ownsRow B 220 9 (.slice A0 C.length c0) C.length (C.flatMap CV.vals)) (h1:w.ownsRow B 222 10 (.slice A1 R.length c1) R.length (R.flatMap evals)) (h2:w.ownsRow B 276 2 (.slice A2 M.length c2) M.length (M.flatMap mvals))
 (hge:B≤sb) (hB:Below w.heap.size w w1) (hown:w2.ownsRow B 276 2 (.slice (some ⟨g,0,none⟩) (M.length+1) cap) (M.length+1) (M.flatMap mvals++mvals x)) (hg:w1.grownBy w2 (Value.slice A2 M.length c2).ownBlock)
 (hW:W=w2.setCell ⟨sb,2,none⟩ (.slice (some ⟨g,0,none⟩) (M.length+1) cap)):SM W B sb C R (M++[x])∧SF B w W:=by
 have hbs:B≤w.heap.size:=by have:=heap_lt hb;omega
 have b2:=keepBox hb h2 hB hg (by decide)
 have keepW:∀ (k:Nat) (cs:Array Value) (ty:TypeId) (f:Nat × Nat),w2.heap[k]? =some (.cells cs ty f)→ty≠121→W.heap[k]? =some (.cells cs ty f):=fun k cs ty f hk hne => by
  rw [hW]
  refine (Below.heap_setCell _ _ _ k ?_).trans hk
  rintro rfl
  rw [show w2.heap[_]? =_ from b2] at hk
  injection hk with hk
  injection hk with _ hk
  exact hne hk.symm
 refine ⟨⟨⟨A0,c0,A1,c1,some ⟨g,0,none⟩,cap,?_,?_,?_,?_⟩,hge⟩,?_,?_⟩
 ·rw [hW,List.length_append];simpa using blk_set b2 2 (.slice (some ⟨g,0,none⟩) (M.length+1) cap)
 ·refine own_keep (grownOther (own_below h2 hB) hg (own_below h0 hB) (by decide)) fun k hk => ?_
  obtain ⟨cs,f,hh⟩:=Go.Lib.ownsRow_kind (grownOther (own_below h2 hB) hg (own_below h0 hB) (by decide)) k hk
  exact (keepW _ _ _ _ hh (by decide)).trans hh.symm
 ·refine own_keep (grownOther (own_below h2 hB) hg (own_below h1 hB) (by decide)) fun k hk => ?_
  obtain ⟨cs,f,hh⟩:=Go.Lib.ownsRow_kind (grownOther (own_below h2 hB) hg (own_below h1 hB) (by decide)) k hk
  exact (keepW _ _ _ _ hh (by decide)).trans hh.symm
 ·rw [flat_snoc,List.length_append]
  refine own_keep hown fun k hk => ?_
  obtain ⟨cs,f,hh⟩:=Go.Lib.ownsRow_kind hown k hk
  exact (keepW _ _ _ _ hh (by decide)).trans hh.symm
 ·rw [hW]
  exact ((hB.mono hbs).grown hg (by have:=hB.size;omega) fun k hk => (h2.lt k hk).1).setCell (p:=⟨sb,2,none⟩) hge _
 ·intro k o hk hn
  have hk1:=(hB.block k (heap_lt hk)).trans hk
  have hk2:w2.heap[k]? =some o:=by
   refine (hg.block k (heap_lt hk1) fun h => ?_).trans hk1
   obtain ⟨cs',f',hh'⟩:=Go.Lib.ownsRow_kind (own_below h2 hB) k h.symm
   rw [hk1] at hh'
   injection hh' with hh'
   exact (hn _ _ _ hh').2.2.2 rfl
  rw [hW]
  refine (Below.heap_setCell _ _ _ k ?_).trans hk2
  rintro rfl
  rw [show w2.heap[_]? =_ from b2] at hk2
  injection hk2 with hk2
  exact (hn _ _ _ hk2.symm).1 rfl
set_option maxRecDepth 100000 in
set_option maxHeartbeats 4000000 in
theorem smark_any {w:World} {B sb:Nat} {C:List CV} {R:List (CV × Nat)} {M:List (Nat × Nat)} (h:SM w B sb C R M) (hM:M.length≤1000000) :
 Calls Tryz.prog 126 #[.pointer (some ⟨sb,0,none⟩)] w fun e w' => e=.returned (.int .i64 (M.length:Int))∧SM w' B sb C R (M++[(R.length,C.length)])∧SF B w w':=by
 obtain ⟨A0,c0,A1,c1,A2,c2,hb,h0,h1,h2⟩:=h.ex
 have b0:=cell_of_row w sb 0 _ _ _ hb
 have b1:=cell_of_row w sb 1 _ _ _ hb
 have b2:=cell_of_row w sb 2 _ _ _ hb
 have hl:=heap_lt hb
 have HB:=Lib.hid hb
 have HGE:=Lib.hid h.ge
 have H0:=Lib.hid h0
 have H1:=Lib.hid h1
 have H2:=Lib.hid h2
 have hBs:B≤w.heap.size:=by have:=h.ge;omega
 obtain ⟨item,ii1,ii2,ii3,ii4⟩:=elMark.hi
 clear hb h h0 h1 h2
 go_enter Tryz.func126,Tryz.ntmps126
 go_wp2_with fail
 go_region_law (refine step_append_lies _ rfl _ _ _ rfl B 276 item (.agg #[.int .i64 0,.int .i64 0]) 2 16 Tryz.underlying119 ii1 ii2 ii3 ii4 rfl (by omega) _ M.length _ rfl (own_below H2.out (by first | exact ((Below.refl _ _).drew).alloc (Nat.le_refl _) _ | exact ((Below.refl _ _).alloc (Nat.le_refl _) _).drew | exact (Below.refl _ _).alloc (Nat.le_refl _) _)) ⟨w.heap.size,0,none⟩ 1 1 [.int .i64 (R.length:Int),.int .i64 (C.length:Int)] rfl rfl (World.news_of_block (heap_alloc_new _ _)) (by intro u hu;simp only [List.mem_cons,List.not_mem_nil,or_false] at hu;rcases hu with rfl | rfl <;> rfl) (by omega) (by unfold maxLen;omega) (by omega) (by simp;omega) _ rfl ?_;intro g1 cap1 w10 hown1 hg1 hat1 hlt1;have Z10:=keepBox HB.out H2.out (by first | exact ((Below.refl _ _).drew).alloc (Nat.le_refl _) _ | exact ((Below.refl _ _).alloc (Nat.le_refl _) _).drew | exact (Below.refl _ _).alloc (Nat.le_refl _) _) hg1 (by decide);have z2:=cell_of_row w10 sb 2 _ _ _ Z10;have zl:=heap_lt Z10;have zf:w10.frozen? ⟨sb,2,none⟩=false:=(by simp [World.frozen?,Z10]))
 all_goals
  have S:=Lib.hid (SM.marked (x:=(R.length,C.length)) HB.out H0.out H1.out H2.out HGE.out (by first | exact ((Below.refl _ _).drew).alloc (Nat.le_refl _) _ | exact ((Below.refl _ _).alloc (Nat.le_refl _) _).drew | exact (Below.refl _ _).alloc (Nat.le_refl _) _) hown1 hg1 rfl)
  have Y2:=cell_of_row _ sb 2 _ _ _ (blk_set Z10 2 (.slice (some ⟨g1,0,none⟩) (M.length+1) cap1))
  clear hown1 hg1 hat1 hlt1 Z10 b0 b1 b2
  go_wp2_with fail
  go_ret
  exact ⟨by simp,S.out⟩
end Go.Proofs.YtdgpmpccfjmmcaaGreatDoor
namespace Go.Proofs.YtdgpmpccfjmmcaaGreatDoor
open Go.RowKit
theorem range_at (z:Array Value):(List.range z.size).map (fun i => z[i]!)=z.toList:=by
 apply List.ext_getElem
 ·simp
 ·intro i h1 h2
  simp at h1
  simp [h1]
theorem zeroCells_list (z:Array Value):∀ k,(Builtin.zeroCells z k).toList=(List.replicate k z.toList).flatten
 | 0 => by simp [Builtin.zeroCells]
 | k+1 => by
  rw [List.replicate_succ',List.flatten_append,← zeroCells_list z k]
  unfold Builtin.zeroCells
  simp only [Array.toList_map,Array.toList_range,Nat.succ_mul,List.range_add,List.map_append,List.flatten_cons,List.flatten_nil,List.append_nil,List.map_map]
  congr 1
  rw [← range_at z]
  refine List.map_congr_left fun i hi => ?_
  have hi':i < z.size:=by simpa using hi
  simp [Nat.mod_eq_of_lt hi',Nat.add_mod]
theorem zeros_cells (k:Nat):(Builtin.zeroCells (Value.agg #[.bool false,.int .i64 0,.int .i64 0,.string ⟨#[]⟩,.slice none 0 0,.int .i64 0,.int .i64 0,.string ⟨#[]⟩,.slice none 0 0]).cells k).toList=(List.replicate k CV.zero).flatMap CV.vals:=by
 rw [zeroCells_list,List.flatMap_def,List.map_replicate]
 rfl
theorem cvals_one (c:CV):∀ u ∈ c.vals,u.oneCell'=true:=by
 intro u hu
 simp only [CV.vals,TV.vals,List.mem_cons,List.mem_append,List.not_mem_nil,or_false] at hu
 rcases hu with rfl | (rfl | rfl | rfl | rfl) | (rfl | rfl | rfl | rfl) <;> rfl
theorem zeros_one (k:Nat):∀ u ∈ (Builtin.zeroCells (Value.agg #[.bool false,.int .i64 0,.int .i64 0,.string ⟨#[]⟩,.slice none 0 0,.int .i64 0,.int .i64 0,.string ⟨#[]⟩,.slice none 0 0]).cells k).toList,u.oneCell'=true:=by
 intro u hu
 rw [zeros_cells] at hu
 obtain ⟨c,_,h⟩:=List.mem_flatMap.mp hu
 exact cvals_one c u h
theorem SM.celled {w w2 W:World} {B sb:Nat} {C D:List CV} {R:List (CV × Nat)} {M:List (Nat × Nat)} {A0 A1 A2:Option Addr} {c0 c1 c2:Nat} {v:Value}
 (hb:w.heap[sb]? =some (.cells #[.slice A0 C.length c0,.slice A1 R.length c1,.slice A2 M.length c2] 121 (0,0)))
 (h0:w.ownsRow B 220 9 (.slice A0 C.length c0) C.length (C.flatMap CV.vals)) (h1:w.ownsRow B 222 10 (.slice A1 R.length c1) R.length (R.flatMap evals)) (h2:w.ownsRow B 276 2 (.slice A2 M.length c2) M.length (M.flatMap mvals))
 (hge:B≤sb) (hown:w2.ownsRow B 220 9 v (D.length) (D.flatMap CV.vals)) (hg:w.grownBy w2 (Value.slice A0 C.length c0).ownBlock)
 (hW:W=w2.setCell ⟨sb,0,none⟩ v):SM W B sb D R M∧SF B w W:=by
 have hB:Below w.heap.size w w:=Below.refl _ _
 have hbs:B≤w.heap.size:=by have:=heap_lt hb;omega
 have b2:=keepBox hb h0 hB hg (by decide)
 obtain ⟨VA,vc,rfl,_,_,_,_⟩:=own_open hown
 have keepW:∀ (k:Nat) (cs:Array Value) (ty:TypeId) (f:Nat × Nat),w2.heap[k]? =some (.cells cs ty f)→ty≠121→W.heap[k]? =some (.cells cs ty f):=fun k cs ty f hk hne => by
  rw [hW]
  refine (Below.heap_setCell _ _ _ k ?_).trans hk
  rintro rfl
  rw [show w2.heap[_]? =_ from b2] at hk
  injection hk with hk
  injection hk with _ hk
  exact hne hk.symm
 refine ⟨⟨⟨VA,vc,A1,c1,A2,c2,?_,?_,?_,?_⟩,hge⟩,?_,?_⟩
 ·rw [hW];simpa using blk_set b2 0 (.slice VA D.length vc)
 ·refine own_keep hown fun k hk => ?_
  obtain ⟨cs,f,hh⟩:=Go.Lib.ownsRow_kind hown k hk
  exact (keepW _ _ _ _ hh (by decide)).trans hh.symm
 ·refine own_keep (grownOther h0 hg h1 (by decide)) fun k hk => ?_
  obtain ⟨cs,f,hh⟩:=Go.Lib.ownsRow_kind (grownOther h0 hg h1 (by decide)) k hk
  exact (keepW _ _ _ _ hh (by decide)).trans hh.symm
 ·refine own_keep (grownOther h0 hg h2 (by decide)) fun k hk => ?_
  obtain ⟨cs,f,hh⟩:=Go.Lib.ownsRow_kind (grownOther h0 hg h2 (by decide)) k hk
  exact (keepW _ _ _ _ hh (by decide)).trans hh.symm
 ·rw [hW]
  exact ((hB.mono hbs).grown hg hbs fun k hk => (h0.lt k hk).1).setCell (p:=⟨sb,0,none⟩) hge _
 ·intro k o hk hn
  have hk2:w2.heap[k]? =some o:=by
   refine (hg.block k (heap_lt hk) fun h => ?_).trans hk
   obtain ⟨cs',f',hh'⟩:=Go.Lib.ownsRow_kind h0 k h.symm
   rw [hk] at hh'
   injection hh' with hh'
   exact (hn _ _ _ hh').2.1 rfl
  rw [hW]
  refine (Below.heap_setCell _ _ _ k ?_).trans hk2
  rintro rfl
  rw [show w2.heap[_]? =_ from b2] at hk2
  injection hk2 with hk2
  exact (hn _ _ _ hk2.symm).1 rfl
def fresh (n:Int):Nat:=(max 0 (min n 1000)).toNat
theorem fresh_le (n:Int):fresh n≤1000:=by unfold fresh;omega
set_option maxRecDepth 100000 in
set_option maxHeartbeats 4000000 in
theorem sfresh_any {w:World} {B sb:Nat} {C:List CV} {R:List (CV × Nat)} {M:List (Nat × Nat)} (h:SM w B sb C R M) (hC:C.length≤1000000) (n:Int) :
 Calls Tryz.prog 21 #[.pointer (some ⟨sb,0,none⟩),.int .i64 n] w fun e w' => e=.returned (.int .i64 (C.length:Int))∧SM w' B sb (C++List.replicate (fresh n) CV.zero) R M∧SF B w w':=by
 obtain ⟨A0,c0,A1,c1,A2,c2,hb,h0,h1,h2⟩:=h.ex
 have b0:=cell_of_row w sb 0 _ _ _ hb
 have hl:=heap_lt hb
 have hBs:B≤w.heap.size:=by have:=h.ge;omega
 obtain ⟨v',w',hrun,hown,hg⟩:=run_append_own_zeros (P:=Tryz.prog) w (ty:=117) (kq:=.i64) elCell Tryz.underlying3 zeros_one h0 (fresh n) (by have:=fresh_le n;unfold maxLen;omega) (by have:=fresh_le n;omega) hBs
 rw [zeros_cells] at hown
 have hD:w'.ownsRow B 220 9 v' (C++List.replicate (fresh n) CV.zero).length ((C++List.replicate (fresh n) CV.zero).flatMap CV.vals):=by
  rw [List.length_append,List.length_replicate,List.flatMap_append]
  exact hown
 obtain ⟨VA,vc,rfl,_,_,_,_⟩:=own_open hD
 have S:=Lib.hid (SM.celled hb h0 h1 h2 h.ge hD hg rfl)
 have Z:=keepBox hb h0 (Below.refl _ _) hg (by decide)
 have z0:=cell_of_row w' sb 0 _ _ _ Z
 have zl:=heap_lt Z
 have zf:w'.frozen? ⟨sb,0,none⟩=false:=by simp [World.frozen?,Z]
 have hmm:(if (0:Int) < (if (1000:Int) < n then 1000 else n) then (if (1000:Int) < n then 1000 else n) else 0)=((fresh n:Nat):Int):=by
  unfold fresh
  split <;> split at*<;> omega
 obtain ⟨k,hk⟩:∃ k,fresh n=k:=⟨_,rfl⟩
 rw [hk] at hrun hmm
 have HM:=Lib.hid hmm
 have HK:=Lib.hid hk
 clear hmm hown hD hb h0 h1 h2 h Z hg hk
 go_enter Tryz.func21,Tryz.ntmps21
 go_wp2_with (at_builtin;refine Lib.wpList_append_run _ rfl _ _ _ _ rfl _ _ rfl (congrArg (Value.int IntKind.i64) HM.out) _ _ hrun ?_)
 all_goals
  go_ret
  have h:=S.out
  rw [List.length_append,List.length_replicate,HK.out] at h
  rw [HK.out]
  exact ⟨rfl,h⟩
end Go.Proofs.YtdgpmpccfjmmcaaGreatDoor
