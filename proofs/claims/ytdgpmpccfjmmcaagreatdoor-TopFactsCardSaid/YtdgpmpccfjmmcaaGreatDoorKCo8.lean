/- The walk through the program's (*coder).term (not whole yet). -/
import Derived.Test.YtdgpmpccfjmmcaaGreatDoorKOrd
import Derived.Test.YtdgpmpccfjmmcaaGreatDoorKJAp
import Derived.Deep.CutBlock
import Derived.Deep.DeepCutAuto
import Derived.Deep.CutRange
import Derived.Deep.RegionHeld3
import Derived.Deep.RegionLaw
import Derived.Deep.AppendLies
set_option linter.unusedVariables false
set_option linter.unusedSimpArgs false
namespace Go.Proofs.YtdgpmpccfjmmcaaGreatDoor
open Go.RowKit
structure Cd (w:World) (X mb B:Nat) (lv:Value) (l:List Ins) (vs:List Int):Prop where
 box:w.heap[X]? =some (.cells #[lv,.map (some mb)] 113 (0,0))
 own:IRw w B lv l
 im:IX w mb vs.length (slotM vs)
structure Kc (X B:Nat) (w w':World):Prop where
 low:Below B w w'
 keep:∀ (b:Nat) (cs:Array Value) (t:TypeId) (m:Nat × Nat),w.heap[b]? =some (.cells cs t m)→t≠67→b≠X→w'.heap[b]? =some (.cells cs t m)
theorem Kc.of {X B:Nat} {w w':World} (h:Kp B w w'):Kc X B w w':=⟨h.low,fun b cs t m hb ht _ => h.keep b cs t m hb ht⟩
theorem Kc.trans {X B:Nat} {w w1 w2:World} (h:Kc X B w w1) (k:Kc X B w1 w2):Kc X B w w2:=⟨h.low.trans k.low,fun b cs t m hb ht hx => k.keep b cs t m (h.keep b cs t m hb ht hx) ht hx⟩
theorem Kc.size {X B:Nat} {w w':World} (h:Kc X B w w'):w.heap.size≤w'.heap.size:=h.low.size
theorem Kc.tp {X B:Nat} {w w':World} (h:Kc X B w w') (hX:∃ cs m,w.heap[X]? =some (.cells cs 113 m)) {S:Nat→Prop} {t:T} {v:Value} (ht:TP w S t v):TP w' S t v:=ht.keep fun b cs f hS hb => ⟨h.keep b cs _ f hb (by decide) (by
 rintro rfl
 obtain ⟨cs',m,hX⟩:=hX
 rw [hX] at hb
 injection hb with hb
 injection hb with _ hb
 exact absurd hb (by decide)),hS⟩
def TermP (X mb B:Nat) (t:T) (l:List Ins) (vs:List Int) (w:World) (e:Ending) (w':World):Prop:=
 e=.returned (.tuple #[])∧∃ lv:Value,Cd w' X mb B lv (l++(codeT t vs).1) (codeT t vs).2∧Kc X B w w'
def stepT (t:T) (vs:List Int) (x:Ins) (vs':List Int):Prop:=match t with
 | .nil => False
 | .mk k n s m a => (k≠4∧codeT (.mk k n s m a) vs=([x],vs'))∨(k=4∧x=⟨6,(m:Int),s⟩∧vs'=vs)
theorem Cd.below {w w':World} {X mb B:Nat} {lv:Value} {l:List Ins} {vs:List Int} (h:Cd w X mb B lv l vs) (hb:Below w.heap.size w w'):Cd w' X mb B lv l vs:=
 ⟨(hb.block X (heap_lt h.box)).trans h.box,own_below h.own hb,h.im.keep (hb.block mb h.im.im.lt)⟩
theorem unfrozenX {w:World} {g:Nat} {cs:Array Value} {t:TypeId} (h:w.heap[g]? =some (.cells cs t (0,0))):∀ i,w.frozen? ⟨g,i,none⟩=false:=fun i => by simp [World.frozen?,h]
theorem grown_map {wc X w':World} {B:Nat} {e:TypeId} {size:Nat} {v:Value} {n:Nat} {xs:List Value} {mb k:Nat} {M:Int→Option Value} (hg:X.grownBy w' v.ownBlock) (ho:X.ownsRow B e size v n xs) (h:IX wc mb k M) (hb:Below wc.heap.size wc X):w'.heap[mb]? =wc.heap[mb]?:=by
 have h1:=hb.block mb h.im.lt
 refine (hg.block mb (Nat.lt_of_lt_of_le h.im.lt hb.size) fun e => ?_).trans h1
 obtain ⟨cs,f,hh⟩:=Go.Lib.ownsRow_kind ho _ e.symm
 obtain ⟨D,⟨es,clock,hm,_⟩,_⟩:=h
 rw [h1,hm] at hh
 injection hh with hh
 cases hh
theorem cd_end {wc w5:World} {X mb B:Nat} {lv v':Value} {L:List Ins} {vs:List Int} {g:Nat} {tc:Array Value} (hx:w5.heap[X]? =some (.cells #[lv,.map (some mb)] 113 (0,0))) (ho:IRw w5 B v' L) (hm:w5.heap[mb]? =wc.heap[mb]?) (hi:IX wc mb vs.length (slotM vs)) (hk:Kp B wc w5) (hBX:B≤X) (hXm:X≠mb)
 (ht:wc.heap[g]? =some (.cells tc 51 (0,0))):∃ lv':Value,Cd (w5.setCell ⟨X,0,none⟩ v') X mb B lv' L vs∧Kc X B wc (w5.setCell ⟨X,0,none⟩ v')∧(w5.setCell ⟨X,0,none⟩ v').heap[g]? =some (.cells tc 51 (0,0)):=by
 have far:∀ b,b≠X→(w5.setCell ⟨X,0,none⟩ v').heap[b]? =w5.heap[b]?:=fun b hb => Below.heap_setCell _ _ _ _ hb
 have hne:g≠X:=by
  rintro rfl
  have:=hk.keep _ _ _ _ ht (by decide)
  rw [hx] at this
  injection this with this
  injection this with _ this
  exact absurd this (by decide)
 refine ⟨v',⟨by simpa using blk_set hx 0 v',own_keep ho fun b hb => far b ?_,hi.keep ((far mb (fun e => hXm e.symm)).trans hm)⟩,⟨hk.low.setCell (p:=⟨X,0,none⟩) hBX v',fun b cs t m hb ht hbX => (far b hbX).trans (hk.keep b cs t m hb ht)⟩,(far g hne).trans (hk.keep _ _ _ _ ht (by decide))⟩
 rintro rfl
 obtain ⟨cs,f,hh⟩:=Go.Lib.ownsRow_kind ho _ hb
 rw [hx] at hh
 injection hh with hh
 injection hh with _ hh
 exact absurd hh (by decide)
set_option maxRecDepth 100000 in
set_option maxHeartbeats 8000000 in
theorem cterm_any:∀ (t:T),t.ok→∀ (X mb B:Nat) (lv:Value) (l:List Ins) (vs:List Int) (v:Value) (w:World) (S:Nat→Prop),TP w S t v→Cd w X mb B lv l vs→B≤X→X≠mb→B≤mb→l.length+t.nodes≤50000→vs.length+t.nodes≤50000→
 Calls Tryz.prog 39 #[.pointer (some ⟨X,0,none⟩),v] w fun e w' => TermP X mb B t l vs w e w':=by
 intro t
 induction t with
 | nil => exact fun _ _ _ _ _ _ _ _ _ _ h => h.elim
 | mk k n s m a ih =>
  intro hok X mb B lv l vs v w S hv hcd hBX hXm hBm hl hlv
  obtain ⟨k',n',s',A,m',c,rfl⟩:=hv.agg
  obtain ⟨e0,e1,e2,rfl,hmc,hA,_⟩:=hv.args
  injection e0 with _ e0
  injection e1 with _ e1
  injection e2 with e2
  subst e0;subst e1;subst e2
  have HV:=Lib.hid hv
  have HCD:=Lib.hid hcd
  have HOK:=Lib.hid hok
  have IH:=Lib.hid ih
  have hm:m' < 4000:=hok.few
  have hXl:=heap_lt hcd.box
  have HXm:=Lib.hid hXm
  clear hv hcd hok ih hA hXm
  go_enter Tryz.func39,Tryz.ntmps39
  go_upto_block 0 with fail
  go_cut [5,6] (fun _ _ wx => ∃ (x:Ins) (vs':List Int),stepT (.mk k' n' s' m' a) vs x vs'∧wx.heap[w.heap.size+1]? =some (.cells #[.int .i64 x.o,.int .i64 x.a,.string x.s] 67 (0,0))∧Cd wx X mb B lv l vs'∧Kc X B w wx∧wx.heap[w.heap.size]? =some (.cells #[.int .i64 k',.int .i64 n',.string s',.slice A m' c] 51 (0,0)))
  case first =>
   have FIN:=Lib.hid (show ∀ (x:Ins),stepT (.mk k' n' s' m' a) vs x vs→∃ (y:Ins) (vs':List Int),stepT (.mk k' n' s' m' a) vs y vs'∧((w.alloc (Obj.cells #[.int .i64 k',.int .i64 n',.string s',.slice A m' c] 51)).alloc (Obj.cells #[.int .i64 x.o,.int .i64 x.a,.string x.s] 67)).heap[w.heap.size+1]? =some (.cells #[.int .i64 y.o,.int .i64 y.a,.string y.s] 67 (0,0))∧Cd ((w.alloc (Obj.cells #[.int .i64 k',.int .i64 n',.string s',.slice A m' c] 51)).alloc (Obj.cells #[.int .i64 x.o,.int .i64 x.a,.string x.s] 67)) X mb B lv l vs'∧Kc X B w ((w.alloc (Obj.cells #[.int .i64 k',.int .i64 n',.string s',.slice A m' c] 51)).alloc (Obj.cells #[.int .i64 x.o,.int .i64 x.a,.string x.s] 67))∧((w.alloc (Obj.cells #[.int .i64 k',.int .i64 n',.string s',.slice A m' c] 51)).alloc (Obj.cells #[.int .i64 x.o,.int .i64 x.a,.string x.s] 67)).heap[w.heap.size]? =some (.cells #[.int .i64 k',.int .i64 n',.string s',.slice A m' c] 51 (0,0)) from fun x hx => by
    have hb:=belA (belA (Below.refl w.heap.size w) (Obj.cells #[.int .i64 k',.int .i64 n',.string s',.slice A m' c] 51)) (Obj.cells #[.int .i64 x.o,.int .i64 x.a,.string x.s] 67)
    exact ⟨x,vs,hx,heap_at _ _ (by simp),HCD.out.below hb,Kc.of (Kp.of hb (by omega)),(Below.heap_alloc _ _ _ (by simp)).trans (heap_alloc_new _ _)⟩)
   cases h1:(k' == 1) with
   | true =>
    have hk1:k'=1:=by simpa using h1
    have hvar:=HOK.out.var hk1
    have hi64:I64 n':=⟨by have:=hvar.1;omega,by have:=hvar.2.1;omega⟩
    have HX0:=heap_lt HCD.out.box
    obtain ⟨y0,y1⟩:w.cell? ⟨X,0,none⟩=some lv∧w.cell? ⟨X,1,none⟩=some (.map (some mb)):=⟨cell_of_row w X 0 _ _ _ HCD.out.box,cell_of_row w X 1 _ _ _ HCD.out.box⟩
    have zI:∀ W:World,(zeroValue 3).run Tryz.prog W=.ok (.int .i64 0) W:=fun W => by kernel_rfl
    cases hp:plN vs n' 0 with
    | some i =>
     have hrun:(Instr.lookup 111 (.map (some mb)) (.int .i64 n') true).run Tryz.prog ((w.alloc (Obj.cells #[.int .i64 k',.int .i64 n',.string s',.slice A m' c] 51)).alloc (Obj.cells #[.int .i64 6,.int .i64 (m':Int),.string s'] 67)).drew=.ok (.tuple #[.int .i64 (i:Int),.bool true]) ((w.alloc (Obj.cells #[.int .i64 k',.int .i64 n',.string s',.slice A m' c] 51)).alloc (Obj.cells #[.int .i64 6,.int .i64 (m':Int),.string s'] 67)).drew:=by
      have hM:=HCD.out.im.im
      have:=(hM.keep (w':=((w.alloc (Obj.cells #[.int .i64 k',.int .i64 n',.string s',.slice A m' c] 51)).alloc (Obj.cells #[.int .i64 6,.int .i64 (m':Int),.string s'] 67)).drew) ((Below.heap_alloc _ _ _ (by have:=hM.lt;simp;omega)).trans (Below.heap_alloc _ _ _ hM.lt))).look Tryz.underlying111 (zI _) hi64
      rw [this]
      simp [slotM,hp]
     have hst:=FIN.out ⟨3,(i:Int),⟨#[]⟩⟩ (.inl ⟨by omega,by subst hk1;simp only [codeT,hp];rfl⟩)
     have HX:=Lib.hid hst
     clear hst hp hvar hk1 zI
     go_wp2_with fail
     go_region
     go_wp2_with fail
     go_meet
     obtain ⟨y,vs2,p1,p2,p3,p4,p5⟩:=HX.out
     exact ⟨y,vs2,p1,p2,p3.below (Below.refl _ _).drew,⟨p4.low.drew,p4.keep⟩,p5⟩
    | none =>
     have hno:n' ∉ vs:=plN_none.1 hp
     obtain ⟨W4,hW4⟩:∃ W4,W4=((w.alloc (Obj.cells #[.int .i64 k',.int .i64 n',.string s',.slice A m' c] 51)).alloc (Obj.cells #[.int .i64 6,.int .i64 (m':Int),.string s'] 67)).drew:=⟨_,rfl⟩
     have hrun:(Instr.lookup 111 (.map (some mb)) (.int .i64 n') true).run Tryz.prog ((w.alloc (Obj.cells #[.int .i64 k',.int .i64 n',.string s',.slice A m' c] 51)).alloc (Obj.cells #[.int .i64 6,.int .i64 (m':Int),.string s'] 67)).drew=.ok (.tuple #[.int .i64 0,.bool false]) ((w.alloc (Obj.cells #[.int .i64 k',.int .i64 n',.string s',.slice A m' c] 51)).alloc (Obj.cells #[.int .i64 6,.int .i64 (m':Int),.string s'] 67)).drew:=by
      have hM:=HCD.out.im.im
      have:=(hM.keep (w':=((w.alloc (Obj.cells #[.int .i64 k',.int .i64 n',.string s',.slice A m' c] 51)).alloc (Obj.cells #[.int .i64 6,.int .i64 (m':Int),.string s'] 67)).drew) ((Below.heap_alloc _ _ _ (by have:=hM.lt;simp;omega)).trans (Below.heap_alloc _ _ _ hM.lt))).look Tryz.underlying111 (zI _) hi64
      rw [this]
      simp [slotM,hp]
     have hlen:∀ (ty:TypeId) (z:Int),(Builtin.len_ #[111] ty #[.map (some mb)]).run Tryz.prog ((w.alloc (Obj.cells #[.int .i64 k',.int .i64 n',.string s',.slice A m' c] 51)).alloc (Obj.cells #[.int .i64 3,.int .i64 z,.string ⟨#[]⟩] 67)).drew=.ok (.int .i64 (vs.length:Int)) ((w.alloc (Obj.cells #[.int .i64 k',.int .i64 n',.string s',.slice A m' c] 51)).alloc (Obj.cells #[.int .i64 3,.int .i64 z,.string ⟨#[]⟩] 67)).drew:=fun ty z => by
      have hM:=HCD.out.im
      exact (hM.keep (w':=((w.alloc (Obj.cells #[.int .i64 k',.int .i64 n',.string s',.slice A m' c] 51)).alloc (Obj.cells #[.int .i64 3,.int .i64 z,.string ⟨#[]⟩] 67)).drew) ((Below.heap_alloc _ _ _ (by have:=hM.im.lt;simp;omega)).trans (Below.heap_alloc _ _ _ hM.im.lt))).len Tryz.underlying111 ty
     have HIX:=Lib.hid (show IX ((w.alloc (Obj.cells #[.int .i64 k',.int .i64 n',.string s',.slice A m' c] 51)).alloc (Obj.cells #[.int .i64 2,.int .i64 (vs.length:Int),.string ⟨#[]⟩] 67)).drew.drew mb vs.length (slotM vs) from HCD.out.im.keep ((Below.heap_alloc _ _ _ (by have:=HCD.out.im.im.lt;simp;omega)).trans (Below.heap_alloc _ _ _ HCD.out.im.im.lt)))
     obtain ⟨w9,hup,hix9,htn9⟩:=HIX.out.store Tryz.underlying111 (by unfold maxLen;omega) hi64 (by simp [slotM,hp]) (.int .i64 (vs.length:Int))
     have HS2:=Lib.hid (show stepT (.mk k' n' s' m' a) vs ⟨2,(vs.length:Int),⟨#[]⟩⟩ (vs++[n']) from .inl ⟨by omega,by subst hk1;simp only [codeT,hp];rfl⟩)
     have HNO:=Lib.hid hno
     have HIX9:=Lib.hid hix9
     have HTN9:=Lib.hid htn9
     clear hp hvar zI hW4 W4 hk1 hix9 htn9
     go_wp2_with fail
     go_region
     go_wp2_with fail
     go_region
     go_wp2_with fail
     go_meet
     have hb:=((belA (belA (Below.refl w.heap.size w) (Obj.cells #[.int .i64 k',.int .i64 n',.string s',.slice A m' c] 51)) (Obj.cells #[.int .i64 2,.int .i64 (vs.length:Int),.string ⟨#[]⟩] 67)).drew).drew
     have hml:=HCD.out.im.im.lt
     have far:=fun c hc => turned_block HTN9.out c hc
     have old:∀ (b:Nat) (o:Obj),w.heap[b]? =some o→b≠mb→w9.heap[b]? =some o:=fun b o hbo hbm => (far b hbm).trans ((hb.block b (heap_lt hbo)).trans hbo)
     have ncell:∀ (b:Nat) (cs:Array Value) (ty:TypeId) (f:Nat × Nat),w.heap[b]? =some (.cells cs ty f)→b≠mb:=fun b cs ty f hbo e => by
      subst e
      obtain ⟨D,⟨es,clock,hh,_⟩,_⟩:=HCD.out.im
      rw [hbo] at hh
      injection hh with hh
      cases hh
     refine ⟨⟨2,(vs.length:Int),⟨#[]⟩⟩,vs++[n'],HS2.out,(far _ (by omega)).trans (heap_at _ _ (by simp)),⟨old _ _ HCD.out.box HXm.out,own_keep HCD.out.own fun g hg => ?_,?_⟩,⟨Go.Proofs.YtdgpmpccfjmmcaaGreatDoor.Below.turned (B:=B) (hb.mono (by omega)) HTN9.out hBm,fun b cs ty f hbo _ _ => old _ _ hbo (ncell _ _ _ _ hbo)⟩,(far _ (by omega)).trans ((Below.heap_alloc _ _ _ (by simp)).trans (heap_alloc_new _ _))⟩
     ·obtain ⟨cs,f,hh⟩:=Go.Lib.ownsRow_kind HCD.out.own _ hg
      rw [hh]
      exact old _ _ hh (ncell _ _ _ _ hh)
     ·have h1:=HIX9.out
      rw [slotM_put HNO.out] at h1
      rw [List.length_append]
      exact h1
   | false =>
    cases h2:(k' == 2) with
    | true =>
     have hx:=FIN.out ⟨4,n',⟨#[]⟩⟩ (.inl (by
      have hk:k'=2:=by simpa using h2
      subst hk
      exact ⟨by decide,rfl⟩))
     have HX:=Lib.hid hx
     clear hx
     go_wp2_with fail
     go_meet
     exact HX.out
    | false =>
     cases h3:(k' == 3) with
     | true =>
      have hx:=FIN.out ⟨5,0,s'⟩ (.inl (by
       have hk:k'=3:=by simpa using h3
       subst hk
       exact ⟨by decide,rfl⟩))
      have HX:=Lib.hid hx
      clear hx
      go_wp2_with fail
      go_meet
      exact HX.out
     | false =>
      have hx:=FIN.out ⟨6,(m':Int),s'⟩ (.inr (by
       have hk:k'=4:=by
        rcases HOK.out.1.1 with h | h | h | h
        ·exact absurd h.1 (by simpa using h1)
        ·exact absurd h.1 (by simpa using h2)
        ·exact absurd h.1 (by simpa using h3)
        ·exact h.1
       exact ⟨hk,rfl,rfl⟩))
      have HX:=Lib.hid hx
      clear hx
      go_wp2_with fail
      go_meet
      exact HX.out
  case rest =>
   obtain ⟨x,vs',hst,hxb,hcd,hkc,htb⟩:=hcut
   have HST:=Lib.hid hst
   have KC:=Lib.hid hkc
   have HTB:=Lib.hid htb
   have OC:=Lib.hid hcd.own
   have IMc:=Lib.hid hcd.im
   have HCX:=Lib.hid hcd.box
   have HXB:=Lib.hid hxb
   have hwc:=hkc.size
   have hpos:0 < (T.mk k' n' s' m' a).nodes:=HOK.out.1.pos
   obtain ⟨AL,cl,rfl,_,_,_⟩:=hcd.own.all
   have c0:=cell_of_row wc X 0 _ _ _ HCX.out
   obtain ⟨b0,b1,b2⟩:wc.cell? ⟨w.heap.size+1,0,none⟩=some (.int .i64 x.o)∧wc.cell? ⟨w.heap.size+1,1,none⟩=some (.int .i64 x.a)∧wc.cell? ⟨w.heap.size+1,2,none⟩=some (.string x.s):=⟨cell_of_row wc _ 0 _ _ _ hxb,cell_of_row wc _ 1 _ _ _ hxb,cell_of_row wc _ 2 _ _ _ hxb⟩
   have hbl:=heap_lt hxb
   have hXl2:=heap_lt HCX.out
   obtain ⟨itemI,jj1,jj2,jj3,jj4⟩:=elIns.hi
   clear hst hkc htb hcd hxb
   go_upto_region 13 with fail
   go_cut [] (fun wy => ∃ lv':Value,Cd wy X mb B lv' (l++[x]) vs'∧Kc X B wc wy∧wy.heap[w.heap.size]? =some (.cells #[.int .i64 k',.int .i64 n',.string s',.slice A m' c] 51 (0,0)))
   case first =>
    go_wp2_with fail
    refine wp_region_held_drew (S:=fun w1 => True) (by kernel_rfl) ?Sr13 (fun hH0 => ?Br13)
    case Sr13 => (trivial)
    refine tkH 0 ?_
    try simp only [opD,Act.put,sA,sB,sC]
    refine tkH 1 ?_
    try simp only [opD,Act.put,sA,sB,sC]
    refine tkH 2 ?_
    try simp only [opD,Act.put,sA,sB,sC]
    refine tkH 3 ?_
    try simp only [opD,Act.put,sA,sB,sC]
    refine wpAnyH_ready (rs:=[4,5]) (by kernel_rfl) (by simp) ?_
    refine rdH (fun K hK => ?opq1) ?nxq2
    case opq1 =>
     go_simp
     refine hK.out _ _ trivial (fun hHq1 => ?Rq1)
     clear hK K
     try simp only [Act.put,sA,sB,sC]
     refine wpAnyH_ready (rs:=[5]) (by kernel_rfl) (by simp) ?_
     refine rdH (fun K hK => ?opq4) ?nilq5
     case opq4 =>
      go_simp
      refine hK.out _ _ trivial (fun hHq4 => ?Rq4)
      clear hK K
      try simp only [Act.put,sA,sB,sC]
      refine wpAnyH_ready (rs:=[6]) (by kernel_rfl) (by simp) ?_
      refine rdH (fun K hK => ?opq6) ?nilq7
      case opq6 =>
       go_simp
       refine hK.out _ _ trivial (fun hHq6 => ?Rq6)
       clear hK K
       try simp only [Act.put,sA,sB,sC]
       refine wpAnyH_ready (rs:=[7]) (by kernel_rfl) (by simp) ?_
       refine rdH (fun K hK => ?opq8) ?nilq9
       case opq8 =>
        refine step_append_lies _ rfl _ _ _ rfl B 67 itemI (.agg #[.int .i64 0,.int .i64 0,.string ⟨#[]⟩]) 3 32 Tryz.underlying62 jj1 jj2 jj3 jj4 rfl (by omega) _ l.length _ rfl (own_below OC.out (by repeat (first | (with_reducible exact Below.refl _ _) | (with_reducible refine Below.drew ?_) | (with_reducible refine Below.alloc ?_ (by simp) _)))) ⟨wc.heap.size,0,none⟩ 1 1 [.int .i64 x.o,.int .i64 x.a,.string x.s] rfl rfl (World.news_of_block (heap_at _ _ (by simp))) ?smq8 (by omega) (by unfold maxLen;omega) (by omega) (by simp;omega) _ rfl ?_
        case smq8 => (intro u hu;simp only [List.mem_cons,List.not_mem_nil,or_false] at hu;rcases hu with rfl | rfl | rfl <;> rfl)
        intro g1 cap1 w5 hown1 hg1 hat1 hlt1
        have K5:=Lib.hid ((Kp.of (w:=wc) (by repeat (first | (with_reducible exact Below.refl _ _) | (with_reducible refine Below.drew ?_) | (with_reducible refine Below.alloc ?_ (by simp) _))) (by omega)).trans (Kp.grown hg1 (own_below OC.out (by repeat (first | (with_reducible exact Below.refl _ _) | (with_reducible refine Below.drew ?_) | (with_reducible refine Below.alloc ?_ (by simp) _)))) (by simp;omega)))
        have O5:=Lib.hid (show IRw w5 B (.slice (some ⟨g1,0,none⟩) (l.length+1) cap1) (l++[x]) by unfold IRw;rw [← insCells_app,List.length_append];exact hown1)
        have X5:=Lib.hid (K5.out.keep _ _ _ _ HCX.out (by decide))
        have M5:=Lib.hid (show w5.heap[mb]? =wc.heap[mb]? from grown_map hg1 (own_below OC.out (by repeat (first | (with_reducible exact Below.refl _ _) | (with_reducible refine Below.drew ?_) | (with_reducible refine Below.alloc ?_ (by simp) _)))) IMc.out (by repeat (first | (with_reducible exact Below.refl _ _) | (with_reducible refine Below.drew ?_) | (with_reducible refine Below.alloc ?_ (by simp) _))))
        have c5:=cell_of_row w5 X 0 _ _ _ X5.out
        have f5:=unfrozenX X5.out
        clear hown1 hg1 hat1
        refine hK.out _ _ trivial (fun hHq8 => ?Rq8)
        clear hK K
        try simp only [Act.put,sA,sB,sC]
        refine tkH 8 ?_
        try simp only [opD,Act.put,sA,sB,sC]
        refine tkH 9 ?_
        try simp only [opD,Act.put,sA,sB,sC]
        refine wpAnyH_ready (rs:=[10]) (by kernel_rfl) (by simp) ?_
        refine rdH (fun K hK => ?opzq10) ?nilzq10
        case opzq10 =>
         go_simp
         refine hK.out _ _ trivial (fun hHzq10 => ?Rzq10)
         clear hK K
         try simp only [Act.put,sA,sB,sC]
         refine wpAnyH_done (by kernel_rfl) ?_ _
         go_wp2_with fail
         go_meet
         exact cd_end X5.out O5.out M5.out IMc.out K5.out hBX HXm.out HTB.out
        case nilzq10 => exact AllReadyH.nil
       case nilq9 => exact AllReadyH.nil
      case nilq7 => exact AllReadyH.nil
     case nilq5 => exact AllReadyH.nil
    case nxq2 =>
     refine rdH (fun K hK => ?opq2) ?nilq3
     case opq2 =>
      go_simp
      refine hK.out _ _ trivial (fun hHq2 => ?Rq2)
      clear hK K
      try simp only [Act.put,sA,sB,sC]
      refine wpAnyH_ready (rs:=[4,6]) (by kernel_rfl) (by simp) ?_
      refine rdH (fun K hK => ?opq11) ?nxq12
      case opq11 =>
       go_simp
       refine hK.out _ _ trivial (fun hHq11 => ?Rq11)
       clear hK K
       try simp only [Act.put,sA,sB,sC]
       refine wpAnyH_ready (rs:=[6]) (by kernel_rfl) (by simp) ?_
       refine rdH (fun K hK => ?opq14) ?nilq15
       case opq14 =>
        go_simp
        refine hK.out _ _ trivial (fun hHq14 => ?Rq14)
        clear hK K
        try simp only [Act.put,sA,sB,sC]
        refine wpAnyH_ready (rs:=[7]) (by kernel_rfl) (by simp) ?_
        refine rdH (fun K hK => ?opq16) ?nilq17
        case opq16 =>
         refine step_append_lies _ rfl _ _ _ rfl B 67 itemI (.agg #[.int .i64 0,.int .i64 0,.string ⟨#[]⟩]) 3 32 Tryz.underlying62 jj1 jj2 jj3 jj4 rfl (by omega) _ l.length _ rfl (own_below OC.out (by repeat (first | (with_reducible exact Below.refl _ _) | (with_reducible refine Below.drew ?_) | (with_reducible refine Below.alloc ?_ (by simp) _)))) ⟨wc.heap.size,0,none⟩ 1 1 [.int .i64 x.o,.int .i64 x.a,.string x.s] rfl rfl (World.news_of_block (heap_at _ _ (by simp))) ?smq16 (by omega) (by unfold maxLen;omega) (by omega) (by simp;omega) _ rfl ?_
         case smq16 => (intro u hu;simp only [List.mem_cons,List.not_mem_nil,or_false] at hu;rcases hu with rfl | rfl | rfl <;> rfl)
         intro g1 cap1 w5 hown1 hg1 hat1 hlt1
         have K5:=Lib.hid ((Kp.of (w:=wc) (by repeat (first | (with_reducible exact Below.refl _ _) | (with_reducible refine Below.drew ?_) | (with_reducible refine Below.alloc ?_ (by simp) _))) (by omega)).trans (Kp.grown hg1 (own_below OC.out (by repeat (first | (with_reducible exact Below.refl _ _) | (with_reducible refine Below.drew ?_) | (with_reducible refine Below.alloc ?_ (by simp) _)))) (by simp;omega)))
         have O5:=Lib.hid (show IRw w5 B (.slice (some ⟨g1,0,none⟩) (l.length+1) cap1) (l++[x]) by unfold IRw;rw [← insCells_app,List.length_append];exact hown1)
         have X5:=Lib.hid (K5.out.keep _ _ _ _ HCX.out (by decide))
         have M5:=Lib.hid (show w5.heap[mb]? =wc.heap[mb]? from grown_map hg1 (own_below OC.out (by repeat (first | (with_reducible exact Below.refl _ _) | (with_reducible refine Below.drew ?_) | (with_reducible refine Below.alloc ?_ (by simp) _)))) IMc.out (by repeat (first | (with_reducible exact Below.refl _ _) | (with_reducible refine Below.drew ?_) | (with_reducible refine Below.alloc ?_ (by simp) _))))
         have c5:=cell_of_row w5 X 0 _ _ _ X5.out
         have f5:=unfrozenX X5.out
         clear hown1 hg1 hat1
         refine hK.out _ _ trivial (fun hHq16 => ?Rq16)
         clear hK K
         try simp only [Act.put,sA,sB,sC]
         refine tkH 8 ?_
         try simp only [opD,Act.put,sA,sB,sC]
         refine tkH 9 ?_
         try simp only [opD,Act.put,sA,sB,sC]
         refine wpAnyH_ready (rs:=[10]) (by kernel_rfl) (by simp) ?_
         refine rdH (fun K hK => ?opzq18) ?nilzq18
         case opzq18 =>
          go_simp
          refine hK.out _ _ trivial (fun hHzq18 => ?Rzq18)
          clear hK K
          try simp only [Act.put,sA,sB,sC]
          refine wpAnyH_done (by kernel_rfl) ?_ _
          go_wp2_with fail
          go_meet
          exact cd_end X5.out O5.out M5.out IMc.out K5.out hBX HXm.out HTB.out
         case nilzq18 => exact AllReadyH.nil
        case nilq17 => exact AllReadyH.nil
       case nilq15 => exact AllReadyH.nil
      case nxq12 =>
       refine rdH (fun K hK => ?opq12) ?nilq13
       case opq12 =>
        go_simp
        refine hK.out _ _ trivial (fun hHq12 => ?Rq12)
        clear hK K
        try simp only [Act.put,sA,sB,sC]
        refine wpAnyH_ready (rs:=[4]) (by kernel_rfl) (by simp) ?_
        refine rdH (fun K hK => ?opq19) ?nilq20
        case opq19 =>
         go_simp
         refine hK.out _ _ trivial (fun hHq19 => ?Rq19)
         clear hK K
         try simp only [Act.put,sA,sB,sC]
         refine wpAnyH_ready (rs:=[7]) (by kernel_rfl) (by simp) ?_
         refine rdH (fun K hK => ?opq21) ?nilq22
         case opq21 =>
          refine step_append_lies _ rfl _ _ _ rfl B 67 itemI (.agg #[.int .i64 0,.int .i64 0,.string ⟨#[]⟩]) 3 32 Tryz.underlying62 jj1 jj2 jj3 jj4 rfl (by omega) _ l.length _ rfl (own_below OC.out (by repeat (first | (with_reducible exact Below.refl _ _) | (with_reducible refine Below.drew ?_) | (with_reducible refine Below.alloc ?_ (by simp) _)))) ⟨wc.heap.size,0,none⟩ 1 1 [.int .i64 x.o,.int .i64 x.a,.string x.s] rfl rfl (World.news_of_block (heap_at _ _ (by simp))) ?smq21 (by omega) (by unfold maxLen;omega) (by omega) (by simp;omega) _ rfl ?_
          case smq21 => (intro u hu;simp only [List.mem_cons,List.not_mem_nil,or_false] at hu;rcases hu with rfl | rfl | rfl <;> rfl)
          intro g1 cap1 w5 hown1 hg1 hat1 hlt1
          have K5:=Lib.hid ((Kp.of (w:=wc) (by repeat (first | (with_reducible exact Below.refl _ _) | (with_reducible refine Below.drew ?_) | (with_reducible refine Below.alloc ?_ (by simp) _))) (by omega)).trans (Kp.grown hg1 (own_below OC.out (by repeat (first | (with_reducible exact Below.refl _ _) | (with_reducible refine Below.drew ?_) | (with_reducible refine Below.alloc ?_ (by simp) _)))) (by simp;omega)))
          have O5:=Lib.hid (show IRw w5 B (.slice (some ⟨g1,0,none⟩) (l.length+1) cap1) (l++[x]) by unfold IRw;rw [← insCells_app,List.length_append];exact hown1)
          have X5:=Lib.hid (K5.out.keep _ _ _ _ HCX.out (by decide))
          have M5:=Lib.hid (show w5.heap[mb]? =wc.heap[mb]? from grown_map hg1 (own_below OC.out (by repeat (first | (with_reducible exact Below.refl _ _) | (with_reducible refine Below.drew ?_) | (with_reducible refine Below.alloc ?_ (by simp) _)))) IMc.out (by repeat (first | (with_reducible exact Below.refl _ _) | (with_reducible refine Below.drew ?_) | (with_reducible refine Below.alloc ?_ (by simp) _))))
          have c5:=cell_of_row w5 X 0 _ _ _ X5.out
          have f5:=unfrozenX X5.out
          clear hown1 hg1 hat1
          refine hK.out _ _ trivial (fun hHq21 => ?Rq21)
          clear hK K
          try simp only [Act.put,sA,sB,sC]
          refine tkH 8 ?_
          try simp only [opD,Act.put,sA,sB,sC]
          refine tkH 9 ?_
          try simp only [opD,Act.put,sA,sB,sC]
          refine wpAnyH_ready (rs:=[10]) (by kernel_rfl) (by simp) ?_
          refine rdH (fun K hK => ?opzq23) ?nilzq23
          case opzq23 =>
           go_simp
           refine hK.out _ _ trivial (fun hHzq23 => ?Rzq23)
           clear hK K
           try simp only [Act.put,sA,sB,sC]
           refine wpAnyH_done (by kernel_rfl) ?_ _
           go_wp2_with fail
           go_meet
           exact cd_end X5.out O5.out M5.out IMc.out K5.out hBX HXm.out HTB.out
          case nilzq23 => exact AllReadyH.nil
         case nilq22 => exact AllReadyH.nil
        case nilq20 => exact AllReadyH.nil
       case nilq13 => exact AllReadyH.nil
     case nilq3 => exact AllReadyH.nil
   case rest =>
    clear c0 b0 b1 b2
    obtain ⟨lv',hcd,hk,htb⟩:=hcut
    have CD:=Lib.hid hcd
    have K2:=Lib.hid (KC.out.trans hk)
    have HT2:=Lib.hid htb
    have hl2:=heap_lt htb
    obtain ⟨x0,x1,x2,x3⟩:=box4t htb
    clear hcd hk htb
    cases h4:(k' == 4) with
    | false =>
     have HC:=Lib.hid (show codeT (.mk k' n' s' m' a) vs=([x],vs') by
      rcases HST.out with ⟨_,h⟩ | ⟨h,_⟩
      ·exact h
      ·rw [h] at h4;cases h4)
     go_wp2_with fail
     go_end0
     exact ⟨rfl,lv',by rw [HC.out];exact CD.out,K2.out⟩
    | true =>
     have hk4:k'=4:=by simpa using h4
     subst hk4
     obtain ⟨hx6,hvv⟩:x=⟨6,(m':Int),s'⟩∧vs'=vs:=by
      rcases HST.out with ⟨h,_⟩ | ⟨_,h⟩
      ·exact absurd rfl h
      ·exact h
     subst hx6
     subst hvv
     obtain ⟨F,hF⟩:∃ F:Nat→List Ins × List Int,∀ q,F q=foldC q (fun i => codeT (a i)) ([⟨6,(m':Int),s'⟩],vs'):=⟨_,fun _ => rfl⟩
     have HC:=Lib.hid (show codeT (.mk 4 n' s' m' a) vs'=F m' from (hF m').symm)
     have HF0:=Lib.hid (show F 0=([⟨6,(m':Int),s'⟩],vs') from hF 0)
     have HFS:=Lib.hid (show ∀ q,F (q+1)=((F q).1++(codeT (a q) (F q).2).1,(codeT (a q) (F q).2).2) from fun q => by rw [hF,hF];rfl)
     have HFL:=Lib.hid (show ∀ q,q≤m'→(F q).1.length=1+sumTo q (fun i => (a i).nodes)∧(F q).2.length≤vs'.length+(1+sumTo q (fun i => (a i).nodes)) from by
      intro q
      induction q with
      | zero => intro _;rw [hF];simp [foldC,sumTo]
      | succ q ihq =>
       intro hq
       obtain ⟨i1,i2⟩:=ihq (by omega)
       obtain ⟨j1,j2⟩:=codeT_len (a q) ((HOK.out.arg (by omega)).1.kinds) (F q).2
       rw [HFS.out]
       simp only [sumTo,List.length_append]
       exact ⟨by omega,by omega⟩)
     have HSum:=Lib.hid (show ∀ q,q < m'→1+sumTo q (fun i => (a i).nodes)+(a q).nodes≤(T.mk 4 n' s' m' a).nodes from fun q hq => by
      have:=sumTo_le (fun i => (a i).nodes) (show q+1≤m' by omega)
      simp only [sumTo] at this
      simp only [T.nodes]
      omega)
     have HCX0:=Lib.hid (show ∃ cs m,w.heap[X]? =some (.cells cs 113 m) from ⟨_,_,HCD.out.box⟩)
     clear hF h4
     go_wp2_with fail
     go_loopw [8,73] (fun _ iv wr => ∃ (i:Nat) (lq:Value),iv=.int .i64 (i:Int)∧i≤m'∧Cd wr X mb B lq (l++(F i).1) (F i).2∧Kc X B w wr∧wr.heap[w.heap.size]? =some (.cells #[.int .i64 4,.int .i64 n',.string s',.slice A m' c] 51 (0,0))) (fun _ iv _ => m' - (intOf iv).toNat)
     case atStart => exact ⟨0,lv',rfl,Nat.zero_le _,by rw [HF0.out];exact CD.out,K2.out,HT2.out⟩
     case round =>
      obtain ⟨i,lq,rfl,hi,hcd,hk,hbox⟩:=hrel
      have CD3:=Lib.hid hcd
      have K3:=Lib.hid hk
      have HB3:=Lib.hid hbox
      have hws:=hk.size
      clear hcd hk hbox
      by_cases him:i < m'
      ·have him':(i:Int) < (m':Int):=by omega
       obtain ⟨_,_,_,_,_,_,hargs⟩:=(K3.out.tp HCX0.out HV.out).args
       obtain ⟨g,k0,k1,k2,A0,m0,c0,rfl,hgS,hg,d0,d1,d2,d3,ht⟩:=hargs i him
       have hs1:=HSum.out i him
       obtain ⟨f1,f2⟩:=HFL.out i (by omega)
       have BA:=Lib.hid ((Below.refl wr.heap.size wr).alloc (Nat.le_refl _) (Obj.cells #[.int .i64 k0,.int .i64 k1,.string k2,.slice A0 m0 c0] 51))
       have CI:=Lib.hid (IH.out i (HOK.out.arg him) X mb B lq (l++(F i).1) (F i).2 _ _ S (ht.below BA.out) (CD3.out.below BA.out) hBX HXm.out hBm (by rw [List.length_append,f1];omega) (by omega))
       clear hargs ht f1 f2 hs1
       go_wp2_with fail
       refine CI.out.mono ?_
       rintro e w2 ⟨rfl,lv3,hcd3,hk3⟩
       have CD4:=Lib.hid (show Cd w2 X mb B lv3 (l++(F (i+1)).1) (F (i+1)).2 by rw [HFS.out,← List.append_assoc];exact hcd3)
       have KA:=Lib.hid ((Kc.of (X:=X) (Kp.of BA.out (by have:=K3.out.size;omega))).trans hk3)
       have K4:=Lib.hid (K3.out.trans KA.out)
       have HB4:=Lib.hid (KA.out.keep _ _ _ _ HB3.out (by decide) (by omega))
       clear hcd3 hk3 CI
       go_wp2_with fail
       go_roundw
       case rel => exact ⟨i+1,lv3,by go_num,him,CD4.out,K4.out,HB4.out⟩
       case measure => simp [intOf];omega
      ·have him':¬ (i:Int) < (m':Int):=by omega
       have hin:i=m':=by omega
       have E:=Lib.hid (show F i=F m' by rw [hin])
       clear hin
       go_wp2_with fail
       go_end0
       exact ⟨rfl,lq,by rw [HC.out,← E.out];exact CD3.out,K3.out⟩
end Go.Proofs.YtdgpmpccfjmmcaaGreatDoor
