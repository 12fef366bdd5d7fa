/- A program under way:a box of two rows that grow. Consult of the reference. The walks through coneyref11.place,Same;code.Slots. The walk through coneyref11.code. The walk through coneyref11.Encode. A map from integers,with the number of its entries. -/
import Derived.Test.YtdgpmpccfjmmcaaGreatDoorKMd3
import Derived.Test.YtdgpmpccfjmmcaaGreatDoorKJAe
import Derived.Test.YtdgpmpccfjmmcaaGreatDoorKJAg
import Derived.Deep.RegionHeld3
import Derived.Deep.RegionLaw
import Derived.Deep.DrawnRows
import Derived.Deep.AppendLies
set_option linter.unusedVariables false
set_option linter.unusedSimpArgs false
namespace Go.Proofs.YtdgpmpccfjmmcaaGreatDoor
open Go.RowKit
structure RCo (PT CT:TypeId) (csz B:Nat) (w1 wr:World) (pb:Nat) (LA:Option Addr) (ln lc:Nat) (HA:Option Addr) (hn hc:Nat) (xs ys:List Value):Prop where
 low:Below B w1 wr
 box:wr.heap[pb]? =some (.cells #[.slice LA ln lc,.slice HA hn hc] PT (0,0))
 lo:B≤pb
 L:wr.ownsRow B CT csz (.slice LA ln lc) ln xs
 H:wr.ownsRow B 51 4 (.slice HA hn hc) hn ys
section
variable {PT CT:TypeId} {csz B:Nat} {w1 wr:World} {pb:Nat} {LA:Option Addr} {ln lc:Nat} {HA:Option Addr} {hn hc:Nat} {xs ys:List Value}
theorem RCo.below {w':World} (h:RCo PT CT csz B w1 wr pb LA ln lc HA hn hc xs ys) (hb:Below wr.heap.size wr w') (hB:B≤wr.heap.size):RCo PT CT csz B w1 w' pb LA ln lc HA hn hc xs ys:=
 ⟨h.low.trans (hb.mono hB),(hb.block _ (heap_lt h.box)).trans h.box,h.lo,own_below h.L hb,own_below h.H hb⟩
theorem row_ne {w:World} {B size n:Nat} {e:TypeId} {v:Value} {xs:List Value} (h:w.ownsRow B e size v n xs) {b:Nat} {cs:Array Value} {t:TypeId} {f:Nat × Nat} (hb:w.heap[b]? =some (.cells cs t f)) (ht:t≠e):some b≠v.ownBlock:=fun e' => by
 obtain ⟨cs',f',hh⟩:=Go.Lib.ownsRow_kind h _ e'.symm
 rw [hb] at hh
 injection hh with hh
 injection hh with _ hh
 exact ht hh
theorem row_ne' {w:World} {B size n:Nat} {e:TypeId} {v:Value} {xs:List Value} (h:w.ownsRow B e size v n xs) {g:Nat} (hat:v.ownBlock=some g∨g=w.heap.size) {b:Nat} {cs:Array Value} {t:TypeId} {f:Nat × Nat} (hb:w.heap[b]? =some (.cells cs t f)) (ht:t≠e):some b≠v.ownBlock∧b≠g:=by
 have h1:=row_ne h hb ht
 refine ⟨h1,fun e => ?_⟩
 subst e
 rcases hat with h2 | h2
 ·exact h1 h2.symm
 ·have:=heap_lt hb;omega
theorem own_stand {w w':World} {B size n:Nat} {e:TypeId} {v:Value} {xs:List Value} (h:w.ownsRow B e size v n xs) (hk:∀ (b:Nat) (cs:Array Value) (f:Nat × Nat),w.heap[b]? =some (.cells cs e f)→w'.heap[b]? =some (.cells cs e f)):w'.ownsRow B e size v n xs:=own_keep h fun g hg => by
 obtain ⟨cs,f,hh⟩:=Go.Lib.ownsRow_kind h _ hg
 exact (hk g cs f hh).trans hh.symm
theorem RCo.box5 {w5:World} (h:RCo PT CT csz B w1 wr pb LA ln lc HA hn hc xs ys) {e:TypeId} {size n g:Nat} {v:Value} {zs:List Value} (hv:wr.ownsRow B e size v n zs) (he:PT≠e) (hg:wr.grownBy w5 v.ownBlock) (hat:v.ownBlock=some g∨g=wr.heap.size) :
 pb≠g∧w5.heap[pb]? =some (.cells #[.slice LA ln lc,.slice HA hn hc] PT (0,0)):=by
 obtain ⟨h1,h2⟩:=row_ne' hv hat h.box he
 exact ⟨h2,(hg.block _ (heap_lt h.box) h1).trans h.box⟩
theorem RCo.pushL {w5:World} (h:RCo PT CT csz B w1 wr pb LA ln lc HA hn hc xs ys) (hPC:PT≠CT) (hCT:CT≠51) (hPT:PT≠51) (hB:B≤wr.heap.size) {g cap:Nat} {us:List Value}
 (hown:w5.ownsRow B CT csz (.slice (some ⟨g,0,none⟩) (ln+1) cap) (ln+1) (xs++us)) (hg:wr.grownBy w5 (Value.slice LA ln lc).ownBlock) (hat:(Value.slice LA ln lc).ownBlock=some g∨g=wr.heap.size) :
 RCo PT CT csz B w1 (w5.setCell ⟨pb,0,none⟩ (.slice (some ⟨g,0,none⟩) (ln+1) cap)) pb (some ⟨g,0,none⟩) (ln+1) cap HA hn hc (xs++us) ys:=by
 obtain ⟨h1,h2⟩:=row_ne' h.L hat h.box hPC
 have hb5:w5.heap[pb]? =some (.cells #[.slice LA ln lc,.slice HA hn hc] PT (0,0)):=(hg.block _ (heap_lt h.box) h1).trans h.box
 have keep:∀ (b:Nat) (cs:Array Value) (e:TypeId) (f:Nat × Nat),e≠PT→w5.heap[b]? =some (.cells cs e f)→(w5.setCell ⟨pb,0,none⟩ (.slice (some ⟨g,0,none⟩) (ln+1) cap)).heap[b]? =some (.cells cs e f):=fun b cs e f he hb => by
  refine (Below.heap_setCell _ _ _ _ fun e' => ?_).trans hb
  subst e'
  rw [hb5] at hb
  injection hb with hb
  injection hb with _ hb
  exact he hb.symm
 refine ⟨(h.low.grown hg hB (ownBlock_ge h.L)).setCell (p:=⟨pb,0,none⟩) h.lo _,by simpa using blk_set hb5 0 (.slice (some ⟨g,0,none⟩) (ln+1) cap),h.lo,own_stand hown fun b cs f hb => keep b cs _ f (Ne.symm hPC) hb,?_⟩
 refine own_stand h.H fun b cs f hb => keep b cs _ f (Ne.symm hPT) ?_
 exact (hg.block b (heap_lt hb) (row_ne h.L hb (Ne.symm hCT))).trans hb
theorem RCo.pushH {w5 w9:World} (h:RCo PT CT csz B w1 wr pb LA ln lc HA hn hc xs ys) (hPC:PT≠CT) (hCT:CT≠51) (hPT:PT≠51) (hB:B≤wr.heap.size) {g cap:Nat} {zs us:List Value} (hz:zs.length=4) (hu:us.length=4)
 (hown:w5.ownsRow B 51 4 (.slice (some ⟨g,0,none⟩) (hn+1) cap) (hn+1) (ys++zs)) (hg:wr.grownBy w5 (Value.slice HA hn hc).ownBlock) (hat:(Value.slice HA hn hc).ownBlock=some g∨g=wr.heap.size)
 (h9:w9=(w5.setCells g (hn*4) us).setCell ⟨pb,1,none⟩ (.slice (some ⟨g,0,none⟩) (hn+1) cap)∨w9=(w5.setCell ⟨pb,1,none⟩ (.slice (some ⟨g,0,none⟩) (hn+1) cap)).setCells g (hn*4) us) :
 RCo PT CT csz B w1 w9 pb LA ln lc (some ⟨g,0,none⟩) (hn+1) cap xs (ys++us):=by
 obtain ⟨h1,h2⟩:=row_ne' h.H hat h.box hPT
 have hb5:w5.heap[pb]? =some (.cells #[.slice LA ln lc,.slice HA hn hc] PT (0,0)):=(hg.block _ (heap_lt h.box) h1).trans h.box
 have hyl:ys.length=hn*4:=by have:=own_len h.H;omega
 have keep:∀ (w:World) (x:Value) (cs0:Array Value) (f0:Nat × Nat),w.heap[pb]? =some (.cells cs0 PT f0)→∀ (b:Nat) (cs:Array Value) (e:TypeId) (f:Nat × Nat),e≠PT→w.heap[b]? =some (.cells cs e f)→(w.setCell ⟨pb,1,none⟩ x).heap[b]? =some (.cells cs e f):=fun w x cs0 f0 h0 b cs e f he hb => by
  refine (Below.heap_setCell _ _ _ _ fun e' => ?_).trans hb
  subst e'
  rw [h0] at hb
  injection hb with hb
  injection hb with _ hb
  exact he hb.symm
 have hgB:B≤g:=(hown.lt g rfl).1
 have set4:∀ {w:World},w.ownsRow B 51 4 (.slice (some ⟨g,0,none⟩) (hn+1) cap) (hn+1) (ys++zs)→(w.setCells g (hn*4) us).ownsRow B 51 4 (.slice (some ⟨g,0,none⟩) (hn+1) cap) (hn+1) (ys++us):=fun hw => by
  have h3:=setCells_own hw us (o:=hn*4) (by omega)
  rw [List.take_append_of_le_length (by omega),List.take_of_length_le (by omega),List.drop_of_length_le (by simp;omega),List.append_nil] at h3
  exact h3
 have hL5:∀ (b:Nat) (cs:Array Value) (f:Nat × Nat),wr.heap[b]? =some (.cells cs CT f)→w5.heap[b]? =some (.cells cs CT f)∧b≠g:=fun b cs f hb => by
  obtain ⟨q1,q2⟩:=row_ne' h.H hat hb hCT
  exact ⟨(hg.block b (heap_lt hb) q1).trans hb,q2⟩
 have hlow5:Below B w1 w5:=h.low.grown hg hB (ownBlock_ge h.H)
 rcases h9 with rfl | rfl
 ·have hb6:(w5.setCells g (hn*4) us).heap[pb]? =some (.cells #[.slice LA ln lc,.slice HA hn hc] PT (0,0)):=(setCells_other h2 _ _ _).trans hb5
  exact ⟨(below_setCells hlow5 hgB _ _).setCell (p:=⟨pb,1,none⟩) h.lo _,by simpa using blk_set hb6 1 (.slice (some ⟨g,0,none⟩) (hn+1) cap),h.lo,
   own_stand h.L fun b cs f hb => keep _ _ _ _ hb6 b cs _ f (Ne.symm hPC) ((setCells_other (hL5 b cs f hb).2 _ _ _).trans (hL5 b cs f hb).1),
   own_stand (set4 hown) fun b cs f hb => keep _ _ _ _ hb6 b cs _ f (Ne.symm hPT) hb⟩
 ·have hb6:(w5.setCell ⟨pb,1,none⟩ (.slice (some ⟨g,0,none⟩) (hn+1) cap)).heap[pb]? =some (.cells #[.slice LA ln lc,.slice (some ⟨g,0,none⟩) (hn+1) cap] PT (0,0)):=by simpa using blk_set hb5 1 (.slice (some ⟨g,0,none⟩) (hn+1) cap)
  exact ⟨below_setCells (hlow5.setCell (p:=⟨pb,1,none⟩) h.lo _) hgB _ _,(setCells_other h2 _ _ _).trans hb6,h.lo,
   own_stand h.L fun b cs f hb => (setCells_other (hL5 b cs f hb).2 _ _ _).trans (keep _ _ _ _ hb5 b cs _ f (Ne.symm hPC) (hL5 b cs f hb).1),
   set4 (own_stand hown fun b cs f hb => keep _ _ _ _ hb5 b cs _ f (Ne.symm hPT) hb)⟩
theorem rowH_last {w:World} {g n cap:Nat} {ys:List Value} (h:w.ownsRow B 51 4 (.slice (some ⟨g,0,none⟩) (n+1) cap) (n+1) (ys++[.int .i64 0,.int .i64 0,.string ⟨#[]⟩,.slice none 0 0])) :
 w.cell? ⟨g,n*4,none⟩=some (.int .i64 0)∧w.cell? ⟨g,n*4+1,none⟩=some (.int .i64 0)∧w.cell? ⟨g,n*4+2,none⟩=some (.string ⟨#[]⟩)∧w.cell? ⟨g,n*4+3,none⟩=some (.slice none 0 0)∧(∀ i,w.frozen? ⟨g,i,none⟩=false)∧g < w.heap.size:=by
 have hl:ys.length=n*4:=by have:=own_len h;simp at this;omega
 obtain ⟨_,_,e,_,_,_,hx⟩:=own_open h
 injection e with e1 _ e3
 obtain ⟨g',cur,e4,_,hh,hc⟩:=hx (by omega)
 rw [← e1] at e4
 injection e4 with e4
 injection e4 with e4
 subst e4
 have at_:∀ j v,(ys++[.int .i64 0,.int .i64 0,.string ⟨#[]⟩,.slice none 0 0])[n*4+j]? =some v→j < 4→w.cell? ⟨g,n*4+j,none⟩=some v:=fun j v hv hj => (cell_of_row _ _ _ _ _ _ hh).trans ((hc _ (by omega)).trans hv)
 refine ⟨at_ 0 _ ?_ (by omega),at_ 1 _ ?_ (by omega),at_ 2 _ ?_ (by omega),at_ 3 _ ?_ (by omega),fun i => by simp [World.frozen?,hh],heap_lt hh⟩ <;> (rw [List.getElem?_append_right (by omega),hl];simp)
end
def SenX (w:World) (xs:List Value) (ss:List (T × List ByteArray)):Prop:=∀ (k:Nat) (x:T × List ByteArray),ss[k]? =some x→
 ∃ (k0 k1:Int) (k2:ByteArray) (A:Option Addr) (m cc:Nat) (NA:Option Addr) (nn nc:Nat),xs[5*k]? =some (.int .i64 k0)∧xs[5*k+1]? =some (.int .i64 k1)∧xs[5*k+2]? =some (.string k2)∧xs[5*k+3]? =some (.slice A m cc)∧xs[5*k+4]? =some (.slice NA nn nc)∧
  TP w (fun b => b < w.heap.size) x.1 (.agg #[.int .i64 k0,.int .i64 k1,.string k2,.slice A m cc])∧x.1.ok∧x.1.nodes≤1000
theorem S5.senx {w:World} {lo:Nat} {xs:List Value} {ss:List (T × List ByteArray)} (h:S5 w lo xs ss.length (sensT ss)):SenX w xs ss:=fun k x hx => by
 have hk:k < ss.length:=(List.getElem?_eq_some_iff.1 hx).1
 obtain ⟨v0,v1,v2,v3,NA,nn,nc,h0,h1,h2,h3,h4,ht,hg,hn⟩:=h k hk
 have e:sensT ss k=x.1:=by simp [sensT,hx]
 rw [e] at ht hg hn
 obtain ⟨k0,k1,k2,A,m,cc,e2⟩:=ht.agg
 injection e2 with e2
 simp only [Array.mk.injEq,List.cons.injEq,and_true] at e2
 obtain ⟨rfl,rfl,rfl,rfl⟩:=e2
 exact ⟨k0,k1,k2,A,m,cc,NA,nn,nc,h0,h1,h2,h3,h4,ht.old.more fun b hb => hb.2,⟨hg,by omega⟩,hn⟩
theorem SenX.at_ {w:World} {B:Nat} {v:Value} {xs:List Value} {ss:List (T × List ByteArray)} (h:SenX w xs ss) (ho:w.ownsRow B 54 5 v ss.length xs) {k:Nat} {x:T × List ByteArray} (hx:ss[k]? =some x) :
 ∃ (g:Nat) (c:Nat) (k0 k1:Int) (k2:ByteArray) (A:Option Addr) (m cc:Nat) (NA:Option Addr) (nn nc:Nat),v=.slice (some ⟨g,0,none⟩) ss.length c∧g < w.heap.size∧w.cell? ⟨g,k*5,none⟩=some (.int .i64 k0)∧w.cell? ⟨g,k*5+1,none⟩=some (.int .i64 k1)∧w.cell? ⟨g,k*5+2,none⟩=some (.string k2)∧w.cell? ⟨g,k*5+3,none⟩=some (.slice A m cc)∧w.cell? ⟨g,k*5+4,none⟩=some (.slice NA nn nc)∧
  TP w (fun b => b < w.heap.size) x.1 (.agg #[.int .i64 k0,.int .i64 k1,.string k2,.slice A m cc])∧x.1.ok∧x.1.nodes≤1000:=by
 have hk:k < ss.length:=(List.getElem?_eq_some_iff.1 hx).1
 obtain ⟨k0,k1,k2,A,m,cc,NA,nn,nc,h0,h1,h2,h3,h4,ht,hg,hn⟩:=h k x hx
 obtain ⟨A',c,rfl,_,_,_,hxx⟩:=own_open ho
 obtain ⟨g,cur,rfl,_,hh,hcur⟩:=hxx (by omega)
 have hat:∀ j u,j < 5→xs[5*k+j]? =some u→w.cell? ⟨g,k*5+j,none⟩=some u:=fun j u hj hu => by
  rw [Nat.mul_comm k 5]
  exact ((cell_of_row _ _ _ _ _ _ hh).trans (hcur _ (by omega))).trans hu
 exact ⟨g,c,k0,k1,k2,A,m,cc,NA,nn,nc,rfl,heap_lt hh,hat 0 _ (by omega) h0,hat 1 _ (by omega) h1,hat 2 _ (by omega) h2,hat 3 _ (by omega) h3,hat 4 _ (by omega) h4,ht,hg,hn⟩
end Go.Proofs.YtdgpmpccfjmmcaaGreatDoor
namespace Go.Proofs.YtdgpmpccfjmmcaaGreatDoor
open Go.RowKit
end Go.Proofs.YtdgpmpccfjmmcaaGreatDoor
namespace Go.Proofs.YtdgpmpccfjmmcaaGreatDoor
open Go.RowKit
def IRw (w:World) (B:Nat) (v:Value) (l:List Ins):Prop:=w.ownsRow B 67 3 v l.length (insCells l)
theorem insrow {w:World} {B:Nat} {A:Option Addr} {c n i:Nat} {l:List Ins} (h:IRw w B (.slice A n c) l) (hn:n=l.length) (hi:i < l.length):∃ g,A=some ⟨g,0,none⟩∧g < w.heap.size∧∀ j,j < 3→w.cell? ⟨g,i*3+j,none⟩=(l[i]'hi).cells[j]?:=by
 subst hn
 obtain ⟨A',c',he,_,_,_,hx⟩:=own_open h
 injection he with e1 _ e3
 subst e1;subst e3
 obtain ⟨g,cur,rfl,_,hh,hc⟩:=hx (by omega)
 exact ⟨g,rfl,heap_lt hh,fun j hj => by rw [cell_of_row w g (i*3+j) _ _ _ hh,hc _ (by omega),Nat.mul_comm i 3];exact insCells_at l i hi j hj⟩
end Go.Proofs.YtdgpmpccfjmmcaaGreatDoor
namespace Go.Proofs.YtdgpmpccfjmmcaaGreatDoor
open Go.RowKit
structure Kp (B:Nat) (w w':World):Prop where
 low:Below B w w'
 keep:∀ (b:Nat) (cs:Array Value) (t:TypeId) (m:Nat × Nat),w.heap[b]? =some (.cells cs t m)→t≠67→w'.heap[b]? =some (.cells cs t m)
theorem Kp.of {B:Nat} {w w':World} (h:Below w.heap.size w w') (hB:B≤w.heap.size):Kp B w w':=⟨h.mono hB,fun b _ _ _ hb _ => (h.block b (heap_lt hb)).trans hb⟩
theorem Kp.trans {B:Nat} {w w1 w2:World} (h:Kp B w w1) (k:Kp B w1 w2):Kp B w w2:=⟨h.low.trans k.low,fun b cs t m hb ht => k.keep b cs t m (h.keep b cs t m hb ht) ht⟩
theorem Kp.size {B:Nat} {w w':World} (h:Kp B w w'):w.heap.size≤w'.heap.size:=h.low.size
theorem Kp.drew {B:Nat} {w w':World} (h:Kp B w w'):Kp B w w'.drew:=⟨h.low.drew,h.keep⟩
theorem Kp.tp {B:Nat} {w w':World} (h:Kp B w w') {S:Nat→Prop} {t:T} {v:Value} (ht:TP w S t v):TP w' S t v:=ht.keep fun b cs f hS hb => ⟨h.keep b cs _ f hb (by decide),hS⟩
theorem Kp.own {B:Nat} {w w':World} (h:Kp B w w') {B':Nat} {e:TypeId} {size:Nat} {v:Value} {n:Nat} {xs:List Value} (ho:w.ownsRow B' e size v n xs) (he:e≠67):w'.ownsRow B' e size v n xs:=
 own_keep ho fun g hg => by
  obtain ⟨cs,f,hh⟩:=Go.Lib.ownsRow_kind ho _ hg
  exact (h.keep g cs e f hh he).trans hh.symm
theorem Kp.grown {B:Nat} {w w':World} {v:Value} {n:Nat} {xs:List Value} (hg:w.grownBy w' v.ownBlock) (ho:w.ownsRow B 67 3 v n xs) (hB:B≤w.heap.size):Kp B w w':=
 ⟨(Below.refl _ _).grown hg hB (ownBlock_ge ho),fun b cs t m hb ht => by
   refine (hg.block b (heap_lt hb) fun e => ?_).trans hb
   obtain ⟨cs',f,hh⟩:=Go.Lib.ownsRow_kind ho _ e.symm
   rw [hb] at hh
   injection hh with hh
   injection hh with _ hh
   exact ht hh⟩
theorem Tryz.info_ins:(Tryz.prog.info? 67).map (fun i => (i.zero,i.size,i.bytes))=some (some (.agg #[.int .i64 0,.int .i64 0,.string ⟨#[]⟩]),3,32):=by kernel_rfl
theorem elIns:El Tryz.prog 62 67 (.agg #[.int .i64 0,.int .i64 0,.string ⟨#[]⟩]) 3 32:=by
 obtain ⟨i0,hi,hz0,hz1,hz2⟩:=info_parts Tryz.info_ins
 exact ⟨Tryz.underlying62,⟨i0,hi,hz0,hz1,hz2⟩,rfl,by omega⟩
theorem insCells_small (l:List Ins):∀ u ∈ insCells l,u.oneCell'=true:=by
 intro u hu
 simp only [insCells,List.mem_flatMap] at hu
 obtain ⟨q,_,hu⟩:=hu
 simp only [Ins.cells,List.mem_cons,List.not_mem_nil,or_false] at hu
 rcases hu with rfl | rfl | rfl <;> rfl
theorem codeT_len:∀ (t:T),t.kinds→∀ vs,(codeT t vs).1.length=t.nodes∧(codeT t vs).2.length≤vs.length+t.nodes
 | .nil,h,_ => h.elim
 | .mk k n s m a,h,vs => by
  obtain ⟨hk,hm,ha⟩:=h
  have one:k≠4→(T.mk k n s m a).nodes=1:=fun hk4 => by
   have:=hm hk4
   subst this
   rfl
  unfold codeT
  by_cases h1:k=1
  ·rw [if_pos h1,one (by omega)]
   cases plN vs n 0 <;> simp
  ·rw [if_neg h1]
   by_cases h2:k=2
   ·rw [if_pos h2,one (by omega)];simp
   ·rw [if_neg h2]
    by_cases h3:k=3
    ·rw [if_pos h3,one (by omega)];simp
    ·rw [if_neg h3]
     have key:∀ (q:Nat),q≤m→(foldC q (fun i => codeT (a i)) ([⟨6,(m:Int),s⟩],vs)).1.length=1+sumTo q (fun i => (a i).nodes)∧(foldC q (fun i => codeT (a i)) ([⟨6,(m:Int),s⟩],vs)).2.length≤vs.length+(1+sumTo q (fun i => (a i).nodes)):=by
      intro q
      induction q with
      | zero => intro _;simp [foldC,sumTo]
      | succ q ih =>
       intro hq
       obtain ⟨i1,i2⟩:=ih (by omega)
       obtain ⟨j1,j2⟩:=codeT_len (a q) (ha q (by omega)) (foldC q (fun i => codeT (a i)) ([⟨6,(m:Int),s⟩],vs)).2
       refine ⟨?_,?_⟩
       ·show ((foldC q (fun i => codeT (a i)) ([⟨6,(m:Int),s⟩],vs)).1++(codeT (a q) (foldC q (fun i => codeT (a i)) ([⟨6,(m:Int),s⟩],vs)).2).1).length=1+(sumTo q (fun i => (a i).nodes)+(a q).nodes)
        rw [List.length_append,i1,j1]
        omega
       ·show (codeT (a q) (foldC q (fun i => codeT (a i)) ([⟨6,(m:Int),s⟩],vs)).2).2.length≤vs.length+(1+(sumTo q (fun i => (a i).nodes)+(a q).nodes))
        omega
     exact key m (Nat.le_refl _)
theorem sumTo_le (f:Nat→Nat):∀ {a b:Nat},a≤b→sumTo a f≤sumTo b f
 | a,0,h => by obtain rfl:a=0:=by omega
               exact Nat.le_refl _
 | a,b+1,h => by
  rcases Nat.eq_or_lt_of_le h with rfl | h1
  ·exact Nat.le_refl _
  ·have:=sumTo_le f (show a≤b by omega)
   simp only [sumTo]
   omega
end Go.Proofs.YtdgpmpccfjmmcaaGreatDoor
namespace Go.Proofs.YtdgpmpccfjmmcaaGreatDoor
open Go.RowKit
theorem codeG_len:∀ (gs:List T) (r:List Ins × List Int),(∀ g ∈ gs,g.kinds)→(codeG gs r).1.length=r.1.length+gs.length+nodesL gs∧(codeG gs r).2.length≤r.2.length+nodesL gs
 | [],r,_ => ⟨by simp [codeG,nodesL],by simp [codeG,nodesL]⟩
 | g ::gs,r,h => by
  obtain ⟨j1,j2⟩:=codeT_len g (h g (by simp)) r.2
  obtain ⟨i1,i2⟩:=codeG_len gs (r.1++[⟨7,0,⟨#[]⟩⟩]++(codeT g r.2).1,(codeT g r.2).2) fun x hx => h x (by simp [hx])
  have e:codeG (g ::gs) r=codeG gs (r.1++[⟨7,0,⟨#[]⟩⟩]++(codeT g r.2).1,(codeT g r.2).2):=rfl
  rw [e]
  simp only [List.length_append,List.length_cons,List.length_nil,nodesL,List.map_cons,List.sum_cons] at i1 i2 j1 j2 ⊢
  exact ⟨by omega,by omega⟩
def EncP (th:T) (gs:List T) (w:World) (e:Ending) (w':World):Prop:=∃ lv:Value,e=.returned lv∧IRw w' w.heap.size lv (encN th gs)∧Kp w.heap.size w w'
theorem IRw.all {w:World} {B:Nat} {v:Value} {l:List Ins} (h:IRw w B v l):∃ A c,v=.slice A l.length c∧l.length≤c∧(A=none→c=0)∧(0 < l.length→∃ b off,A=some ⟨b,off,none⟩∧b < w.heap.size∧∀ j u,(insCells l)[j]? =some u→w.cell? ⟨b,off+j,none⟩=some u):=by
 obtain ⟨A,c,rfl,hc,hA,_,hx⟩:=own_open h
 refine ⟨A,c,rfl,hc,hA,fun h0 => ?_⟩
 obtain ⟨g,cur,rfl,_,hh,hcur⟩:=hx h0
 refine ⟨g,0,rfl,heap_lt hh,fun j u hu => ?_⟩
 have hj:j < l.length*3:=by
  rcases Nat.lt_or_ge j (insCells l).length with h1 | h1
  ·rw [insCells_length] at h1;omega
  ·rw [List.getElem?_eq_none h1] at hu;cases hu
 rw [Nat.zero_add,cell_of_row w g j _ _ _ hh,hcur j hj,hu]
end Go.Proofs.YtdgpmpccfjmmcaaGreatDoor
namespace Go.Proofs.YtdgpmpccfjmmcaaGreatDoor
open Go.RowKit
def IX (w:World) (b n:Nat) (M:Int→Option Value):Prop:=
 ∃ D:DataW Value,w.ownsMap Tryz.prog 3 heldV b n D∧Maps.Tidy D∧Maps.size D=n∧∀ i:Int,I64 i→Maps.has D (.int .i64 i)=(M i).isSome∧∀ v,M i=some v→∀ z,D.atKey (.int .i64 i) z=.held v
theorem IX.im {w:World} {b n:Nat} {M:Int→Option Value} (h:IX w b n M):IM w b n M:=by
 obtain ⟨D,h1,_,_,h2⟩:=h
 exact ⟨D,h1,h2⟩
theorem IX.made (w:World):IX (w.alloc (.map #[] 0)) w.heap.size 0 (fun _ => none):=
 ⟨.map [],World.ownsMap_made w _ _ _,⟨[],rfl,List.Pairwise.nil⟩,rfl,fun i _ => ⟨rfl,fun v h => by cases h⟩⟩
theorem IX.keep {w w':World} {b n:Nat} {M:Int→Option Value} (h:IX w b n M) (hb:w'.heap[b]? =w.heap[b]?):IX w' b n M:=by
 obtain ⟨D,⟨es,clock,hh,r⟩,hT,hs,hM⟩:=h
 exact ⟨D,⟨es,clock,hb.trans hh,r⟩,hT,hs,hM⟩
theorem IX.len {w:World} {b n:Nat} {M:Int→Option Value} (h:IX w b n M) {t e:TypeId} (ht:Tryz.prog.underlying t=some (.map 3 e)) (ty:TypeId):(Builtin.len_ #[t] ty #[.map (some b)]).run Tryz.prog w=.ok (.int .i64 (n:Int)) w:=by
 obtain ⟨D,h1,_,hs,_⟩:=h
 rw [h1.len ht ty,hs]
theorem IX.store {w:World} {b n:Nat} {M:Int→Option Value} (h:IX w b n M) {t e:TypeId} (ht:Tryz.prog.underlying t=some (.map 3 e)) (hn:n < maxLen) {i:Int} (hi:I64 i) (hno:M i=none) (v:Value) :
 ∃ w',(Instr.mapUpdate t (.map (some b)) (.int .i64 i) v).run Tryz.prog w=.ok () w'∧IX w' b (n+1) (putI M i v)∧w.mapTurned w' b:=by
 obtain ⟨D,h,hT,hs,hM⟩:=h
 have hm:=h.isMap
 obtain ⟨w',hrun,h',ht'⟩:=h.store intKeyed ht hn (val:=v) (d:=.held v) (ps:=[]) (keyInt hi) rfl
 have hk:WideAt.IsKeyLit (.int .i64 i):=intKeyed.key (keyInt hi)
 refine ⟨w',hrun,⟨_,h',hT.put hk _,?_,fun j hj => ?_⟩,ht'⟩
 ·have hh:Maps.has D (.int .i64 i)=false:=by rw [(hM i hi).1,hno];rfl
  rw [Maps.size_put hT,hh,hs]
  rfl
 ·by_cases hji:j=i
  ·subst hji
   refine ⟨by rw [Maps.has_put_same hm hk];simp [putI],fun u hu z => ?_⟩
   rw [Maps.atKey_put_same hm hk]
   simp [putI] at hu
   rw [hu]
  ·have hne:(Lit.int .i64 j)≠Lit.int .i64 i:=fun e => by injection e with _ e;exact hji e
   refine ⟨by rw [Maps.has_put_other hne];simp only [putI,if_neg hji];exact (hM j hj).1,fun u hu z => ?_⟩
   rw [Maps.atKey_put_other hne]
   simp only [putI,if_neg hji] at hu
   exact (hM j hj).2 u hu z
def slotM (vs:List Int):Int→Option Value:=fun n => (plN vs n 0).map fun i => Value.int .i64 (i:Int)
theorem slotM_put {vs:List Int} {n:Int} (h:n ∉ vs):putI (slotM vs) n (.int .i64 (vs.length:Int))=slotM (vs++[n]):=by
 funext j
 unfold putI slotM
 rw [plN_snoc vs n j 0 h]
 by_cases hj:j=n
 ·rw [if_pos hj,if_pos hj];simp
 ·rw [if_neg hj,if_neg hj]
end Go.Proofs.YtdgpmpccfjmmcaaGreatDoor
