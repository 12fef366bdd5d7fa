/- A writer:a strings.Builder in the first field,names behind it:what its methods do. The machine's runs:what a round comes to,attempted. The machine's runs:to the end,answer by answer. -/
import Derived.Test.YtdgpmpccfjmmcaaGreatDoorKJAu
import Derived.Test.YtdgpmpccfjmmcaaGreatDoorKShelf
import Derived.Test.YtdgpmpccfjmmcaaGreatDoorKJAa
import Derived.Lib.Builder
import Derived.Lib.AppendStr
import Derived.Lib.UnsafeStr
import Derived.WalkKit
import Derived.Laws.Externs
import Derived.Lib.Hide
import Derived.Lib.OwnKind
import Derived.Test.YtdgpmpccfjmmcaaGreatDoorKJBd
import Derived.Test.YtdgpmpccfjmmcaaGreatDoorKJAt
import Derived.Deep.LoopGhost
set_option linter.unusedVariables false
set_option linter.unusedSimpArgs false
namespace Go.Proofs.YtdgpmpccfjmmcaaGreatDoor
open Go.RowKit
abbrev TW:TypeId:=194
def WrAt (B b:Nat) (p nv:Value) (bs:List Value) (w:World):Prop:=
 B≤b∧∃ v,w.heap[b]? =some (.cells #[p,v,nv] TW (0,0))∧w.ownsRow B 5 1 v bs.length bs∧v.ownBlock≠some b
def IsW (B b:Nat) (nv:Value) (bs:List Value) (w:World):Prop:=WrAt B b (.pointer none) nv bs w∨WrAt B b (.pointer (some ⟨b,0,none⟩)) nv bs w
theorem IsW.at {B b:Nat} {nv:Value} {bs:List Value} {w:World} (h:IsW B b nv bs w):∃ p,WrAt B b p nv bs w:=h.elim (fun h => ⟨_,h⟩) fun h => ⟨_,h⟩
theorem WrAt.names {B b:Nat} {p nv:Value} {bs:List Value} {w:World} (h:WrAt B b p nv bs w):w.cell? ⟨b,2,none⟩=some nv:=by
 obtain ⟨_,v,hb,_⟩:=h
 simp [World.cell?,hb]
theorem WrAt.lt {B b:Nat} {p nv:Value} {bs:List Value} {w:World} (h:WrAt B b p nv bs w):b < w.heap.size:=by
 obtain ⟨_,v,hb,_⟩:=h
 exact bld_lt hb
theorem WrAt.below {B b:Nat} {p nv:Value} {bs:List Value} {w w':World} (h:WrAt B b p nv bs w) (hb:Below w.heap.size w w'):WrAt B b p nv bs w':=by
 have hl:=h.lt
 obtain ⟨h1,v,h2,h3,h4⟩:=h
 exact ⟨h1,v,(hb.block b hl).trans h2,own_below h3 hb,h4⟩
theorem IsW.below {B b:Nat} {nv:Value} {bs:List Value} {w w':World} (h:IsW B b nv bs w) (hb:Below w.heap.size w w'):IsW B b nv bs w':=h.imp (·.below hb) (·.below hb)
structure Kw (B:Nat) (w w':World):Prop where
 low:Below B w w'
 keep:∀ (b:Nat) (cs:Array Value) (t:TypeId) (m:Nat × Nat),w.heap[b]? =some (.cells cs t m)→t≠TW→t≠5→w'.heap[b]? =some (.cells cs t m)
theorem Kw.of {B:Nat} {w w':World} (h:Below w.heap.size w w') (hB:B≤w.heap.size):Kw B w w':=⟨h.mono hB,fun b _ _ _ hb _ _ => (h.block b (heap_lt hb)).trans hb⟩
theorem Kw.refl (B:Nat) (w:World):Kw B w w:=⟨Below.refl _ _,fun _ _ _ _ h _ _ => h⟩
theorem Kw.trans {B:Nat} {w w1 w2:World} (h:Kw B w w1) (k:Kw B w1 w2):Kw B w w2:=⟨h.low.trans k.low,fun b cs t m hb h1 h2 => k.keep b cs t m (h.keep b cs t m hb h1 h2) h1 h2⟩
theorem Kw.size {B:Nat} {w w':World} (h:Kw B w w'):w.heap.size≤w'.heap.size:=h.low.size
theorem Kw.on {B:Nat} {w w1 w2:World} (h:Kw B w w1) (hb:Below w1.heap.size w1 w2) (hB:B≤w.heap.size):Kw B w w2:=h.trans (.of hb (Nat.le_trans hB h.size))
theorem Kw.drew {B:Nat} {w w':World} (h:Kw B w w'):Kw B w w'.drew:=⟨h.low.drew,h.keep⟩
theorem Kw.set {B b:Nat} {cs:Array Value} {f:Nat × Nat} {w w':World} (h:Kw B w w') (hb:w'.heap[b]? =some (.cells cs TW f)) (hB:B≤b) (i:Nat) (x:Value):Kw B w (w'.setCell ⟨b,i,none⟩ x):=
 ⟨h.low.setCell (p:=⟨b,i,none⟩) hB x,fun k ds t m hk h1 h2 => (Below.heap_setCell _ _ _ k fun e => by
  have:=h.keep k ds t m hk h1 h2
  rw [show k=b from e,hb] at this
  injection this with this
  injection this with _ this
  exact h1 this.symm).trans (h.keep k ds t m hk h1 h2)⟩
theorem Kw.grown {B:Nat} {w X w':World} {v:Value} {n:Nat} {xs:List Value} (h:Kw B w X) (hg:X.grownBy w' v.ownBlock) (ho:X.ownsRow B 5 1 v n xs) (hB:B≤w.heap.size):Kw B w w':=
 ⟨h.low.grown hg (Nat.le_trans hB h.low.size) (ownBlock_ge ho),fun b cs t m hb h1 h2 => by
  have h3:=h.keep b cs t m hb h1 h2
  refine (hg.block b (heap_lt h3) fun e => ?_).trans h3
  obtain ⟨cs',f,hh⟩:=Go.Lib.ownsRow_kind ho _ e.symm
  rw [h3] at hh
  injection hh with hh
  injection hh with _ hh
  exact h2 hh⟩
theorem lies_wr:liesAt Tryz.prog Tryz.prog.depth TW (3 / Tryz.prog.cellsOf TW) 0 TB 1=true:=by kernel_rfl
theorem wcheck_used (b:Nat) (w:World) (h0:w.cell? ⟨b,0,none⟩=some (.pointer (some ⟨b,0,none⟩))) :
 Calls Tryz.prog 145 #[.pointer (some ⟨b,0,none⟩)] w fun e w' => e=.returned (.tuple #[])∧w'=w:=check_used b w h0
set_option maxHeartbeats 1000000 in
set_option maxRecDepth 100000 in
theorem wcheck_fresh (b:Nat) (w:World) (h0:w.cell? ⟨b,0,none⟩=some (.pointer none)) (hsh:w.shape? b=some (TW,3)) (hfz:w.frozen? ⟨b,0,none⟩=false) :
 Calls Tryz.prog 145 #[.pointer (some ⟨b,0,none⟩)] w fun e w' => e=.returned (.tuple #[])∧w'=w.setCell ⟨b,0,none⟩ (.pointer (some ⟨b,0,none⟩)):=by
 obtain ⟨j,hj,hjs⟩:=Option.map_eq_some_iff.1 Tryz.info_bld
 go_enter Tryz.func145,Tryz.ntmps145
 go_wp2
 rw [Lib.run_to_unsafe w ⟨b,0,none⟩ Tryz.underlying183 Tryz.underlying301 hj (by rw [hjs];decide) hsh (Nat.zero_lt_succ 2)]
 simp only [Result.andThen]
 rw [Oper.upon_value]
 go_wp2
 rw [run_callFunc_extern Tryz.func222 (by kernel_rfl) (by kernel_rfl) (by kernel_rfl) (e:=Extern.AbiNoEscape.same) (by kernel_rfl)]
 rw [Lib.run_noEscape]
 simp only [Result.andThen]
 rw [Oper.upon_value]
 go_wp2
 rw [Lib.run_from_unsafe w ⟨b,0,none⟩ Tryz.underlying301 Tryz.underlying183 hj hsh lies_wr]
 simp only [Result.andThen]
 rw [Oper.upon_value]
 go_wp2
 go_end0
 exact ⟨rfl,rfl⟩
theorem wcheck_any (B b:Nat) (nv:Value) (bs:List Value) (w:World) (h:IsW B b nv bs w) :
 Calls Tryz.prog 145 #[.pointer (some ⟨b,0,none⟩)] w fun e w' => e=.returned (.tuple #[])∧(WrAt B b (.pointer (some ⟨b,0,none⟩)) nv bs w'∧Kw B w w'):=by
 rcases h with h | h
 ·obtain ⟨hB,v,hb,hown,hne⟩:=h
  refine (wcheck_fresh b w (by simp [World.cell?,hb]) (by simp [World.shape?,hb]) (by simp [World.frozen?,hb])).mono ?_
  rintro e w' ⟨rfl,rfl⟩
  refine ⟨rfl,⟨hB,v,?_,?_,hne⟩,(Kw.refl B w).set hb hB 0 _⟩
  ·simp [World.setCell,Array.getElem?_modify,hb]
  ·exact hown.kept (row:=some b) ⟨rfl,rfl,rfl,by simp [World.setCell],fun k _ hk => Below.heap_setCell _ _ _ _ (fun e => hk (by simp [e]))⟩ (Or.inr hne)
 ·refine (wcheck_used b w (by obtain ⟨_,v,hb,_⟩:=h;simp [World.cell?,hb])).mono ?_
  rintro e w' ⟨rfl,rfl⟩
  exact ⟨rfl,h,Kw.refl B _⟩
set_option maxHeartbeats 2000000 in
set_option maxRecDepth 100000 in
theorem wrstr_any (B b:Nat) (nv:Value) (bs:List Value) (s:ByteArray) (w:World) (h:IsW B b nv bs w) (hlen:bs.length+s.size≤140737488355328) (hBw:B≤w.heap.size) :
 Calls Tryz.prog 98 #[.pointer (some ⟨b,0,none⟩),.string s] w fun e w' => e=.returned (.tuple #[.int .i64 s.size,.nilIface])∧(IsW B b nv (bs++Lib.strCells s) w'∧Kw B w w'):=by
 obtain ⟨i0,hi,hz0,hz1,hz2⟩:=info_parts Tryz.info_byte
 go_enter Tryz.func98,Tryz.ntmps98
 go_wp2_with (go_at_call 145;refine (wcheck_any B b nv bs _ h).mono ?_)
 rintro e w1 ⟨rfl,h1,hb1⟩
 obtain ⟨hB,v,hbk,hown,hne⟩:=h1
 have c0:w1.cell? ⟨b,0,none⟩=some (.pointer (some ⟨b,0,none⟩)):=by rw [Lib.cell_of_heap hbk];rfl
 have c1:w1.cell? ⟨b,1,none⟩=some v:=by rw [Lib.cell_of_heap hbk];rfl
 go_wp2_with (at_builtin;refine Lib.wpList_append_own_string _ rfl _ _ 184 9 rfl B 5 i0 Tryz.underlying184 Tryz.underlying9 hi hz0 hz1 hz2 _ _ _ rfl hown s rfl ?c3 ?c4 ?c5 ?_)
 case c3 => unfold maxLen;omega
 case c4 => omega
 case c5 => have:=hb1.size;omega
 intro v' w2 hown' hgrow _
 have hlt:=bld_lt hbk
 have hb2:w2.heap[b]? =some (.cells #[.pointer (some ⟨b,0,none⟩),v,nv] TW (0,0)):=by
  rw [hgrow.block b hlt (fun e => hne e.symm)]
  exact hbk
 have d0:w2.cell? ⟨b,0,none⟩=some (.pointer (some ⟨b,0,none⟩)):=by rw [Lib.cell_of_heap hb2];rfl
 have d1:w2.cell? ⟨b,1,none⟩=some v:=by rw [Lib.cell_of_heap hb2];rfl
 have f1:w2.frozen? ⟨b,1,none⟩=false:=Lib.frozen_of_heap hb2 1
 obtain ⟨ao,n',cap,rfl⟩:∃ ao n' cap,v'=.slice ao n' cap:=by
  rcases hown'.2 with ⟨h0,_⟩ | ⟨g,cap,cur,hv,_⟩
  ·exact ⟨_,_,_,h0⟩
  ·exact ⟨_,_,_,hv⟩
 go_wp2
 refine bodyPost_ret (v:=.tuple #[.int .i64 s.size,.nilIface]) (by simp [results,go_sem]) rfl ?_
 refine ⟨rfl,.inr ?_,?_⟩
 ·have hne2:=Lib.ownBlock_ne hown' hb2 (by decide)
  refine ⟨hB,_,?_,?_,hne2⟩
  ·simp [World.setCell,Array.getElem?_modify,hb2]
  ·rw [List.length_append,Lib.strCells_length]
   exact hown'.kept (row:=some b) ⟨rfl,rfl,rfl,by simp [World.setCell],fun k _ hk => Below.heap_setCell _ _ _ _ (fun e => hk (by simp [e]))⟩ (Or.inr hne2)
 ·exact (hb1.grown hgrow hown hBw).set hb2 hB 1 _
theorem IsW.le {B b:Nat} {nv:Value} {bs:List Value} {w:World} (h:IsW B b nv bs w):B≤w.heap.size:=by
 obtain ⟨p,h⟩:=h.at
 have:=h.lt
 have:=h.1
 omega
theorem IsW.nm {B b:Nat} {nv:Value} {bs:List Value} {w:World} (h:IsW B b nv bs w):w.cell? ⟨b,2,none⟩=some nv:=h.at.elim fun _ h => h.names
theorem IsW.lt {B b:Nat} {nv:Value} {bs:List Value} {w:World} (h:IsW B b nv bs w):b < w.heap.size:=h.at.elim fun _ h => h.lt
theorem wrb_any (B b:Nat) (nv:Value) (l r:List UInt8) (s:ByteArray) (w:World) (h:IsW B b nv (Lib.byteCells l) w) (hs:s.data.toList=r) (hlen:l.length+r.length≤140737488355328) :
 Calls Tryz.prog 98 #[.pointer (some ⟨b,0,none⟩),.string s] w fun e w' => e=.returned (.tuple #[.int .i64 s.size,.nilIface])∧(IsW B b nv (Lib.byteCells (l++r)) w'∧Kw B w w'):=by
 have e:Lib.byteCells (l++r)=Lib.byteCells l++Lib.strCells s:=by rw [Lib.strCells_eq,hs];simp [Lib.byteCells]
 rw [e]
 refine wrstr_any B b nv _ s w h ?_ h.le
 rw [Lib.byteCells_length]
 have:s.size=r.length:=by rw [← hs];exact Array.length_toList.symm
 omega
set_option maxHeartbeats 1000000 in
set_option maxRecDepth 100000 in
theorem wrtext_any (B b:Nat) (nv:Value) (l:List UInt8) (w:World) (h:IsW B b nv (Lib.byteCells l) w) (h0:l≠[]) :
 Calls Tryz.prog 99 #[.pointer (some ⟨b,0,none⟩)] w fun e w' => e=.returned (.string ⟨l.toArray⟩)∧Below B w w':=by
 obtain ⟨p,hB,v,hbk,hown,hne⟩:=h.at
 have hl0:l.length≠0:=by simpa using h0
 rw [Lib.byteCells_length] at hown
 obtain ⟨g,cap,cur,rfl,hbg,hg,hnc,hcm,hcs,htake⟩:∃ g cap cur,v=.slice (some ⟨g,0,none⟩) l.length cap∧B≤g∧w.heap[g]? =some (.cells cur 5 (0,0))∧l.length≤cap∧cap≤maxLen∧cur.size=cap*1∧cur.toList.take (l.length*1)=Lib.byteCells l:=by
  rcases hown.2 with ⟨_,hz⟩ | ⟨g,cap,cur,hv,r⟩
  ·exact absurd hz hl0
  ·exact ⟨g,cap,cur,hv,r⟩
 have c1:w.drew.cell? ⟨b,1,none⟩=some (.slice (some ⟨g,0,none⟩) l.length cap):=by
  have:w.drew.heap[b]? =some (.cells #[p,.slice (some ⟨g,0,none⟩) l.length cap,nv] TW (0,0)):=hbk
  rw [Lib.cell_of_heap this];rfl
 have hSD:(Builtin.unsafeSliceData_ #[184] 235 #[.slice (some ⟨g,0,none⟩) l.length cap]).run Tryz.prog w.drew=.ok (.pointer (some ⟨g,0,none⟩)) w.drew:=
  Lib.run_unsafeSliceData_row _ _ _ _ _ _ (by omega)
 have hUS:(Builtin.unsafeString_ #[235,3] 9 #[.pointer (some ⟨g,0,none⟩),.int .i64 l.length]).run Tryz.prog w.drew=.ok (.string ⟨l.toArray⟩) (w.drew.freeze ⟨g,0,none⟩ l.length):=by
  refine Lib.run_unsafeString_row w.drew 235 3 9 5 Tryz.underlying235 (by kernel_rfl) g cur.size (by have hg':w.drew.heap[g]? =some (.cells cur 5 (0,0)):=hg;simp [World.shape?,hg']) l h0 (by omega) (by unfold maxLen at hcm;omega) ?_
  intro j x hx
  have:=hown.cells (g:=g) rfl j (.int .u8 x.toNat) (by simp [Lib.byteCells,hx])
  exact this
 go_enter Tryz.func99,Tryz.ntmps99
 go_wp2
 go_region
 all_goals (go_wp2;go_ret;exact ⟨rfl,Lib.below_freeze (Below.drew (Below.refl B w)) (p:=⟨g,0,none⟩) hbg _⟩)
theorem wr_new (w:World) (nv:Value):IsW w.heap.size w.heap.size nv [] (w.alloc (.cells #[.pointer none,.slice none 0 0,nv] TW)):=
 .inl ⟨Nat.le_refl _,.slice none 0 0,heap_alloc_new _ _,World.ownsRow_nil _ _ _ _,by simp [Value.ownBlock]⟩
end Go.Proofs.YtdgpmpccfjmmcaaGreatDoor
namespace Go.Proofs.YtdgpmpccfjmmcaaGreatDoor
open Go.RowKit
def wrT (t:TypeId):Bool:=t == 121 || t == 220 || t == 222 || t == 276 || t == 169
structure KG (X:MX) (ex:Nat→TypeId→Bool) (w w':World):Prop where
 low:Below X.B w w'
 far:∀ (b:Nat) (cs:Array Value) (t:TypeId) (f:Nat × Nat),w.heap[b]? =some (.cells cs t f)→b≠X.mb→b≠X.sp→wrT t=false→ex b t=false→w'.heap[b]? =some (.cells cs t f)
abbrev KI (X:MX):=KG X fun _ t => t == 20
abbrev KO (X:MX) (ob:Nat):=KG X fun b t => b == ob || t == 31
section
variable {X:MX} {ex:Nat→TypeId→Bool} {w w' w1:World}
theorem KG.refl (X:MX) (ex:Nat→TypeId→Bool) (w:World):KG X ex w w:=⟨Below.refl _ _,fun _ _ _ _ h _ _ _ _ => h⟩
theorem KG.trans (h:KG X ex w w1) (k:KG X ex w1 w'):KG X ex w w':=⟨h.low.trans k.low,fun b cs t f hb h2 h3 h4 h5 => k.far b cs t f (h.far b cs t f hb h2 h3 h4 h5) h2 h3 h4 h5⟩
theorem KX.kg (h:KX X w w') (ex:Nat→TypeId→Bool):KG X ex w w':=⟨h.low,fun b cs t f hb h2 h3 h4 _ => h.kd hb h2 h3 (by unfold wrT at h4;simp at h4 ⊢;simp [h4])⟩
end
theorem MSt.putI {X:MX} {S:Ms} {w w':World} (h:MSt X S w) {b:Nat} {cs:Array Value} {f:Nat × Nat} (hb:w.heap[b]? =some (.cells cs 20 f)) (hw:∀ k,k≠b→w'.heap[k]? =w.heap[k]?):MSt X S w':=by
 have key:∀ {k:Nat} {cs':Array Value} {t:TypeId} {f':Nat × Nat},w.heap[k]? =some (.cells cs' t f')→t≠20→w'.heap[k]? =some (.cells cs' t f'):=fun {k cs' t f'} hk ht => (hw k fun e => by
  subst e
  rw [hb] at hk
  injection hk with hk
  injection hk with _ hk
  exact ht hk.symm).trans hk
 obtain ⟨fv,cv,h1,h2,h3⟩:=h.box
 have k:KeepT X.sp w w':=fun b cs t f hb' ht => key hb' (by rcases ht with rfl | rfl | rfl | rfl | rfl | ⟨rfl,_⟩ <;> decide)
 exact ⟨⟨fv,cv,key h1 (by decide),k.fl h2,h3.keep k fun g cs f hh => key hh (by decide)⟩,key h.steps (by decide),h.st.keep fun b cs t f hb' ht => key hb' (by rcases ht with rfl | rfl | rfl | rfl | rfl <;> decide),h.pr.keep k,h.geo,h.clq,h.frq,h.chq⟩
section
variable {α:Type}
def AnsC (X:MX) (ans:Ms→Option α) (J:List α→World→Prop) (caps:Array Value) (ob:Nat):Prop:=∀ (S:Ms) (w:World) (l:List α) (t:α),MSt X S w→GX X w→S.fr=[]→ans S=some t→l.length+1≠X.lim.answers→J l w→
 Calls Tryz.prog 27 caps w fun e w' => e=.returned (.tuple #[])∧MSt X S w'∧J (l++[t]) w'∧KO X ob w w'
def RdQ (X:MX) (J:List α→World→Prop) (ob:Nat) (o:Oc) (l:List α) (w:World) (e:Ending) (w':World):Prop:=OcM X o e w'∧J l w'∧KO X ob w w'
set_option maxRecDepth 100000 in
set_option maxHeartbeats 8000000 in
theorem runf_any {X:MX} {ans:Ms→Option α} {J:List α→World→Prop} {caps:Array Value} {ob:Nat} (hA:AnsC X ans J caps ob) (hJ:∀ l w w',J l w→KI X w w'→J l w') {S:Ms} {w:World} {l:List α} (h:MSt X S w) (gx:GX X w) (hfa:∀ c ∈ X.pr,c.goals=[])
 (hl:X.lim.fuel≤100000∧0 < X.lim.room∧X.lim.room≤1000∧X.lim.stack≤1000) (hj:J l w) {tb ab:Nat} (ht:w.heap[tb]? =some (.cells #[mP X] 71 (0,0))) (ha:w.heap[ab]? =some (.cells #[.func (.func 27) #[] caps] 1 (0,0)))
 {o:Oc} {l':List α} (hr:rdM (goalF X.pr) ans X.pr X.lim S .step l=some (o,l')) (hp:plO o=true) (hn:S.fr=[]→l.length+1≠X.lim.answers) (hk:S.M.length≤100000∧S.ch.length≤100000∧S.fr.length≤100000) :
 Calls Tryz.prog 45 #[.pointer (some ⟨tb,0,none⟩),.pointer (some ⟨ab,0,none⟩)] w fun e w' => RdQ X J ob o l' w e w':=by
 obtain ⟨fv,cv,hbx,hfl,-⟩:=h.box
 have t0:w.cell? ⟨tb,0,none⟩=some (.pointer (some ⟨X.mb,0,none⟩)):=cell_of_row _ _ 0 _ _ _ ht
 have a0:w.cell? ⟨ab,0,none⟩=some (.func (.func 27) #[] caps):=cell_of_row _ _ 0 _ _ _ ha
 have m0:w.cell? ⟨X.mb,0,none⟩=some fv:=cell_of_row _ _ 0 _ _ _ hbx
 have hen:∀ (args:Array Value) (W:World),Sem.run Tryz.prog (callFunc 27 args) W=.ok (.enter 27 args) W:=fun _ _ => by kernel_rfl
 unfold rdM at hr
 simp only at hr
 rcases hfr:S.fr with _ | ⟨f0,r0⟩
 ·rw [hfr] at hfl hr
  simp only [List.isEmpty_nil,if_true] at hr
  obtain rfl:fv=.pointer none:=hfl
  cases hans:ans S with
  | none => rw [hans] at hr;cases hr
  | some t =>
   rw [hans] at hr
   injection hr with hr
   injection hr with e1 e2
   subst e1;subst e2
   have AC:=Lib.hid (hA S w l t h gx hfr hans (hn hfr) hj)
   clear h gx hbx ht ha hn hA hans hfr
   go_enter Tryz.func45,Tryz.ntmps45
   go_wp2_with fail
   refine AC.out.mono ?_
   rintro e w2 ⟨rfl,m2,j2,k2⟩
   have M2:=Lib.hid m2
   have J2:=Lib.hid j2
   have K2:=Lib.hid k2
   clear m2 j2 k2
   go_wp2_with fail
   refine (mfail_any _).mono ?_
   rintro e w3 ⟨rfl,rfl⟩
   go_wp2_with fail
   exact ⟨rfl,⟨rfl,M2.out⟩,J2.out,K2.out⟩
 ·have hfe:S.fr.isEmpty=false:=by rw [hfr];rfl
  rw [hfe] at hr
  simp only [Bool.false_eq_true,if_false] at hr
  rw [hfr] at hfl
  obtain ⟨b,cs,nx,rfl,_⟩:=hfl
  cases hst:stepM (goalF X.pr) X.lim S with
  | none => rw [hst] at hr;cases hr
  | some o' =>
   rw [hst] at hr
   injection hr with hr
   injection hr with e1 e2
   subst e1;subst e2
   have ST:=Lib.hid (step_any h hfa gx hl hst hp hk.1 hk.2.1 hk.2.2)
   have HJJ:=Lib.hid hj
   clear h gx hbx ht ha hn hA hst hfr hj hfe
   unfold mP at ST
   go_enter Tryz.func45,Tryz.ntmps45
   go_wp2_with fail
   refine ST.out.mono ?_
   cases o' with
   | go S' =>
    rintro e w9 ⟨⟨rfl,m9⟩,k9⟩
    have M9:=Lib.hid m9
    have K9:=Lib.hid k9
    clear m9 k9
    go_wp2_with fail
    go_end0
    exact ⟨⟨rfl,M9.out⟩,hJ _ _ _ HJJ.out (K9.out.kg _),K9.out.kg _⟩
   | fail S' =>
    rintro e w9 ⟨⟨rfl,m9⟩,k9⟩
    go_wp2_with fail
    exact ⟨rfl,⟨rfl,m9⟩,hJ _ _ _ HJJ.out (k9.kg _),k9.kg _⟩
   | ball S' t => cases hp
   | out S' k => cases hp
end
end Go.Proofs.YtdgpmpccfjmmcaaGreatDoor
namespace Go.Proofs.YtdgpmpccfjmmcaaGreatDoor
open Go.RowKit
def NXv (X:MX) (w:World) (tb ab:Nat):Nx→Value→Prop
 | .step,v => v=.func (.func 45) #[] #[.pointer (some ⟨tb,0,none⟩),.pointer (some ⟨ab,0,none⟩)]
 | .more g rest bar,v => ∃ (tb' cb mark:Nat) (fr:List Fr0) (us:List Value),v=.func (.func 80) #[] #[.pointer (some ⟨tb',0,none⟩),.pointer (some ⟨cb,0,none⟩)]∧w.heap[tb']? =some (.cells #[mP X] 71 (0,0))∧w.heap[cb]? =some (.cells us.toArray 169 (0,0))∧
  ChM w X.sp (.more mark fr g rest bar) us∧g.lq∧rest.length≤100000
 | .caught _,_ => False
def oB:Oc→Bool
 | .go _ => true
 | _ => false
def oS:Oc→Ms
 | .go S => S
 | .fail S => S
 | .ball S _ => S
 | .out S _ => S
theorem OcM.ends {X:MX} {o:Oc} {e:Ending} {w:World} (h:OcM X o e w):e=(if oB o then .returned (.tuple #[]) else .panicked [failP])∧MSt X (oS o) w:=by
 cases o with
 | go S => exact h
 | fail S => exact h
 | ball S t => exact h.elim
 | out S k => exact h.elim
section
variable {α:Type}
def AtQ (X:MX) (J:List α→World→Prop) (ob:Nat) (o:Oc) (l:List α) (w:World) (e:Ending) (w':World):Prop:=e=.returned (endV (oB o))∧MSt X (oS o) w'∧J l w'∧KO X ob w w'
theorem att_core {X:MX} {J:List α→World→Prop} {ob:Nat} (hJ:∀ l w w',J l w→KI X w w'→J l w') {w:World} {F:Nat} {caps:Array Value} {o:Oc} {l:List α} (hB:X.B≤w.heap.size∧X.mb < w.heap.size∧X.sp < w.heap.size) (hob:ob < w.heap.size)
 (hen:∀ (args:Array Value) (W:World),Sem.run Tryz.prog (callFunc F args) W=.ok (.enter F args) W)
 (hC:Calls Tryz.prog F caps (w.alloc (Obj.cells #[.nilIface] 20)) fun e w' => RdQ X J ob o l (w.alloc (Obj.cells #[.nilIface] 20)) e w') :
 Calls Tryz.prog 24 #[.func (.func F) #[] caps] w fun e w' => AtQ X J ob o l w e w':=by
 have B0:Below w.heap.size w (w.alloc (Obj.cells #[.nilIface] 20)):=belA (Below.refl _ _) _
 refine (attempt_any (Q:=fun b w2 => b=oB o∧MSt X (oS o) w2∧J l w2∧KO X ob (w.alloc (Obj.cells #[.nilIface] 20)) w2∧w2.heap[w.heap.size]? =some (Obj.cells #[.nilIface] 20 (0,0))) hen (hC.mono ?_)).mono ?_
 ·rintro e w2 ⟨hoc,hj2,hk2⟩
  obtain ⟨rfl,hm⟩:=hoc.ends
  have hbx:=hk2.far w.heap.size _ _ _ (heap_alloc_new _ _) (by omega) (by omega) rfl (by simp;omega)
  exact ⟨oB o,rfl,⟨rfl,hm,hj2,hk2,hbx⟩,hbx⟩
 ·rintro e w' ⟨b,w2,⟨rfl,hm,hj2,hk2,hbx⟩,rfl,hx,hlow,hoth⟩
  refine ⟨rfl,hm.putI hbx hoth,hJ _ _ _ hj2 ⟨hlow.mono hB.1,fun b cs t f hb _ _ _ h5 => (hoth b fun e => ?_).trans hb⟩,⟨(B0.mono hB.1).trans (hk2.low.trans (hlow.mono hB.1)),fun b cs t f hb h2 h3 h4 h5 => (hoth b (by have:=heap_lt hb;omega)).trans (hk2.far b cs t f ((B0.block b (heap_lt hb)).trans hb) h2 h3 h4 h5)⟩⟩
  subst e
  rw [hbx] at hb
  injection hb with hb
  injection hb with _ hb
  subst hb
  simp at h5
theorem att_any {X:MX} {ans:Ms→Option α} {J:List α→World→Prop} {caps:Array Value} {ob:Nat} (hA:AnsC X ans J caps ob) (hJ:∀ l w w',J l w→KI X w w'→J l w') {S:Ms} {w:World} {l:List α} (h:MSt X S w) (gx:GX X w) (hfa:∀ c ∈ X.pr,c.goals=[])
 (hl:X.lim.fuel≤100000∧0 < X.lim.room∧X.lim.room≤1000∧X.lim.stack≤1000) (hj:J l w) {tb ab:Nat} (ht:w.heap[tb]? =some (.cells #[mP X] 71 (0,0))) (ha:w.heap[ab]? =some (.cells #[.func (.func 27) #[] caps] 1 (0,0))) (hob:ob < w.heap.size)
 {nx:Nx} {v:Value} (hv:NXv X w tb ab nx v) {o:Oc} {l':List α} (hr:rdM (goalF X.pr) ans X.pr X.lim S nx l=some (o,l')) (hp:plO o=true) (hn:S.fr=[]→nx=.step→l.length+1≠X.lim.answers) (hk:S.M.length≤100000∧S.ch.length≤100000∧S.fr.length≤100000) :
 Calls Tryz.prog 24 #[v] w fun e w' => AtQ X J ob o l' w e w':=by
 have B0:Below w.heap.size w (w.alloc (Obj.cells #[.nilIface] 20)):=belA (Below.refl _ _) _
 have hlt:=h.lt
 have st:∀ {b:Nat} {o:Obj},w.heap[b]? =some o→(w.alloc (Obj.cells #[.nilIface] 20)).heap[b]? =some o:=fun {b o} hb => (B0.block b (heap_lt hb)).trans hb
 have hj0:J l (w.alloc (Obj.cells #[.nilIface] 20)):=hJ _ _ _ hj ((KX.of hlt.1 B0).kg _)
 cases nx with
 | step =>
  subst hv
  exact att_core hJ ⟨hlt.1,hlt.2.1,hlt.2.2.1⟩ hob (fun _ _ => by kernel_rfl) (runf_any hA hJ (h.below B0) (gx.low (B0.mono hlt.1)) hfa hl hj0 (st ht) (st ha) hr hp (fun e => hn e rfl) hk)
 | more g rest bar =>
  obtain ⟨tb',cb,mark,fr,us,rfl,h1,h2,h3,h4,h5⟩:=hv
  refine att_core hJ ⟨hlt.1,hlt.2.1,hlt.2.2.1⟩ hob (fun _ _ => by kernel_rfl) ?_
  unfold rdM at hr
  simp only at hr
  cases htr:tryM X.pr S g rest bar with
  | none => rw [htr] at hr;cases hr
  | some o' =>
   rw [htr] at hr
   injection hr with hr
   injection hr with e1 e2
   subst e1;subst e2
   refine (backf_any (h.below B0) hfa (st h1) (st h2) (h3.keep (KeepT.of B0)) h4 h5 htr hp hk.1 hk.2.1 hk.2.2).mono ?_
   rintro e w' ⟨hoc,hkx⟩
   exact ⟨hoc,hJ _ _ _ hj0 (hkx.kg _),hkx.kg _⟩
 | caught t => exact hv.elim
theorem ta_fail (W:World):Sem.run Tryz.prog (Instr.typeAssert (.iface 130 (.agg #[])) 20 130 true) W=.ok (.tuple #[.agg #[],.bool true]) W:=by kernel_rfl
theorem tryF_fail {pr:List Cl0} {mark:Nat} {g:P} {bar:Nat}:∀ (l:List Nat) (S S':Ms),tryF pr mark g bar S l=some (.fail S')→S'.M.length≤S.M.length∧S'.ch=S.ch
 | [],S,S',h => by
  injection h with h
  injection h with h
  subst h
  exact ⟨Nat.le_refl _,rfl⟩
 | k ::l,S,S',h => by
  obtain ⟨c,_,_,_,_,r,_,hr⟩:=try_open h rfl
  cases r with
  | many => exact hr.elim
  | unlike =>
   obtain ⟨S1,hu,ht⟩:=hr
   obtain ⟨m,_,rfl⟩:=undo_open hu
   obtain ⟨h1,h2⟩:=tryF_fail l _ S' ht
   refine ⟨Nat.le_trans h1 ?_,h2⟩
   simp
   omega
  | ok L f => cases hr
theorem fail_len {pr:List Cl0} {ans:Ms→Option α} {lim:Lim0} {S S':Ms} {nx:Nx} {l l':List α} (h:rdM (goalF pr) ans pr lim S nx l=some (.fail S',l')):S'.M.length≤S.M.length+1∧S'.ch.length≤S.ch.length:=by
 have tr:∀ {T:Ms} {g:P} {rest:List Nat} {bar:Nat},tryM pr T g rest bar=some (.fail S')→T.M.length≤S.M.length→T.ch.length≤S.ch.length→S'.M.length≤S.M.length+1∧S'.ch.length≤S.ch.length:=fun {T g rest bar} h h1 h2 => by
  obtain ⟨e1,e2⟩:=tryF_fail _ _ _ h
  rw [e2]
  simp [Ms.mark] at e1 ⊢
  omega
 cases nx with
 | step =>
  unfold rdM at h
  simp only at h
  split at h
  ·cases ha:ans S with
   | none => rw [ha] at h;cases h
   | some t =>
    rw [ha] at h
    injection h with h
    injection h with e1 e2
    injection e1 with e1
    subst e1
    exact ⟨Nat.le_succ _,Nat.le_refl _⟩
  ·cases hs:stepM (goalF pr) lim S with
   | none => rw [hs] at h;cases h
   | some o =>
    rw [hs] at h
    injection h with h
    injection h with e1 e2
    subst e1
    obtain ⟨bar,g,r,z,g',hfr,_,_,_,_,_,_,hg⟩:=step_open (X:=⟨0,0,0,0,0,0,lim,pr⟩) hs rfl
    unfold goalF at hg
    split at hg
    ·cases hg
    ·split at hg
     ·unfold user at hg
      split at hg
      ·cases hg
      ·exact tr hg (Nat.le_refl _) (Nat.le_refl _)
     ·split at hg
      ·split at hg
       ·cases hg
       ·split at hg
        ·unfold Ms.doB at hg
         split at hg
         ·cases hg
         ·split at hg
          ·cases hg
          ·cases hg
        ·cases hg
       ·cases hg
      ·cases hg
 | more g rest bar =>
  unfold rdM at h
  simp only at h
  cases ht:tryM pr S g rest bar with
  | none => rw [ht] at h;cases h
  | some o =>
   rw [ht] at h
   injection h with h
   injection h with e1 e2
   subst e1
   exact tr ht (Nat.le_refl _) (Nat.le_refl _)
 | caught t => cases h
theorem nil_ne (W:World):Sem.run Tryz.prog (binOp BinOp.neq 1 .nilFunc .nilFunc) W=.ok (.bool false) W:=by kernel_rfl
theorem func_ne (F:Nat) (cc:Array Value) (W:World):Sem.run Tryz.prog (binOp BinOp.neq 1 (.func (.func F) #[] cc) .nilFunc) W=.ok (.bool true) W:=by kernel_rfl
def RunR (X:MX) (ans:Ms→Option α) (J:List α→World→Prop) (ob tb ab:Nat) (ro:Ro α) (w:World) (k:Nat) (v:Value) (wr:World):Prop:=KO X ob w wr∧((v=.nilFunc∧(∃ S,MSt X S wr)∧J ro.outs wr)∨
 ∃ (S:Ms) (nx:Nx) (l:List α) (F:Nat) (cc:Array Value),v=.func (.func F) #[] cc∧runM (goalF X.pr) ans X.pr X.lim k S nx l=some ro∧MSt X S wr∧J l wr∧NXv X wr tb ab nx v)
theorem NXv.fn {X:MX} {w:World} {tb ab:Nat} {nx:Nx} {v:Value} (h:NXv X w tb ab nx v):∃ (F:Nat) (cc:Array Value),v=.func (.func F) #[] cc:=by
 cases nx with
 | step => exact ⟨_,_,h⟩
 | more g rest bar => obtain ⟨_,_,_,_,_,h,_⟩:=h;exact ⟨_,_,h⟩
 | caught t => exact h.elim
set_option maxRecDepth 100000 in
set_option maxHeartbeats 8000000 in
theorem run_any {X:MX} {ans:Ms→Option α} {J:List α→World→Prop} {caps:Array Value} {ob:Nat} (hA:AnsC X ans J caps ob) (hJ:∀ l w w',J l w→KI X w w'→J l w') {S:Ms} {w:World} (h:MSt X S w) (gx:GX X w) (hfa:∀ c ∈ X.pr,c.goals=[])
 (hl:X.lim.fuel≤100000∧0 < X.lim.room∧X.lim.room≤1000∧X.lim.stack≤1000) (hj:J [] w) (hob:ob < w.heap.size) {n:Nat} {ro:Ro α} (hr:runM (goalF X.pr) ans X.pr X.lim n S .step []=some ro) (hno:ro.en.isNo=true) :
 Calls Tryz.prog 26 #[mP X,.func (.func 27) #[] caps] w fun e w' => e=.returned (.tuple #[])∧(∃ S',MSt X S' w')∧J ro.outs w'∧KO X ob w w':=by
 have hmf:∀ (fn:Fn) (first cap:Array Value) (w:World),(Instr.makeFunc fn first cap).run Tryz.prog w=.ok (.func fn first cap) w:=fun _ _ _ _ => rfl
 have hlt:=h.lt
 have hlt0:=hlt.1
 obtain ⟨W0,hW0⟩:∃ W0,W0=(w.alloc (Obj.cells #[mP X] 71)).alloc (Obj.cells #[.func (.func 27) #[] caps] 1):=⟨_,rfl⟩
 have B0:=Lib.hid (show Below w.heap.size w W0 by rw [hW0];exact belA (belA (Below.refl _ _) _) _)
 have TB:=Lib.hid (show W0.heap[w.heap.size]? =some (Obj.cells #[mP X] 71 (0,0)) by rw [hW0];exact (Below.heap_alloc _ _ _ (by simp)).trans (heap_alloc_new _ _))
 have AB:=Lib.hid (show W0.heap[w.heap.size+1]? =some (Obj.cells #[.func (.func 27) #[] caps] 1 (0,0)) by rw [hW0];exact heap_at _ _ (by simp))
 have R0:=Lib.hid (show RunR X ans J ob w.heap.size (w.heap.size+1) ro W0 n (.func (.func 45) #[] #[.pointer (some ⟨w.heap.size,0,none⟩),.pointer (some ⟨w.heap.size+1,0,none⟩)]) W0 from
  ⟨KG.refl _ _ _,.inr ⟨S,.step,[],_,_,rfl,hr,h.below B0.out,hJ _ _ _ hj ((KX.of hlt0 B0.out).kg _),rfl⟩⟩)
 have GG:=Lib.hid (gx.low (B0.out.mono hlt0))
 unfold mP at hW0 ⊢
 clear h gx hj hr
 go_enter Tryz.func26,Tryz.ntmps26
 go_wp2_with fail
 rw [← hW0]
 clear hW0
 go_loopg [5] n (fun k v wr => Hid (RunR X ans J ob w.heap.size (w.heap.size+1) ro W0 k v wr))
 case atStart => exact R0
 case round =>
  obtain ⟨hko,hrel⟩:=hrel.out
  have hs0:=B0.out.size
  have hob':ob≠w.heap.size∧ob≠w.heap.size+1:=by omega
  have hsz:=hko.low.size
  have TBr:=Lib.hid (hko.far _ _ _ _ TB.out (by omega) (by omega) rfl (by simp;omega))
  have ABr:=Lib.hid (hko.far _ _ _ _ AB.out (by omega) (by omega) rfl (by simp;omega))
  have KO0:=Lib.hid hko
  rcases hrel with ⟨rfl,⟨S',hm⟩,hj⟩ | ⟨S',nx,l,F,cc,rfl,hr,hm,hj,hv⟩
  ·have HM:=Lib.hid hm
   have HJ:=Lib.hid hj
   have hnn:=nil_ne
   clear hm hj hko
   go_wp2_with fail
   go_end0
   exact ⟨rfl,⟨S',HM.out⟩,HJ.out,((KX.of hlt0 B0.out).kg _).trans KO0.out⟩
  ·rcases gk with _ | f
   ·cases hr
   obtain ⟨hk,o,l',hrd,hn,hbh⟩:=run_open hr hno
   have hp:plO o=true:=by
    cases o with
    | go S2 => rfl
    | fail S2 => rfl
    | ball S2 t => exact hbh.elim
    | out S2 k => exact hbh.elim
   have AT:=Lib.hid (att_any hA hJ hm (GG.out.low hko.low) hfa hl hj TBr.out ABr.out (by omega) hv hrd hp hn hk)
   have HR:=Lib.hid hrd
   have HBH:=Lib.hid hbh
   have hfn:=func_ne F cc
   clear hr hm hj hv hko hrd hbh hn
   go_wp2_with fail
   refine AT.out.mono ?_
   cases o with
   | go S2 =>
    rintro e w2 ⟨rfl,m2,j2,k2⟩
    have R2:=Lib.hid (show RunR X ans J ob w.heap.size (w.heap.size+1) ro W0 f (.func (.func 45) #[] #[.pointer (some ⟨w.heap.size,0,none⟩),.pointer (some ⟨w.heap.size+1,0,none⟩)]) w2 from
     ⟨KO0.out.trans k2,.inr ⟨S2,.step,l',_,_,rfl,HBH.out,m2,j2,rfl⟩⟩)
    clear m2 j2 k2
    simp only [endV,oB]
    go_wp2_with fail
    go_roundg f
    case measure => omega
    case rel => exact R2
   | fail S2 =>
    rintro e w2 ⟨rfl,m2,j2,k2⟩
    have M2:=Lib.hid m2
    have J2:=Lib.hid j2
    have K2:=Lib.hid (KO0.out.trans k2)
    clear m2 j2 k2
    obtain ⟨r,hb,hrr⟩:=HBH.out
    have HRR:=Lib.hid hrr
    have HTA:=ta_fail
    have TB2:=K2.out.far _ _ _ _ TB.out (by omega) (by omega) rfl (by simp;omega)
    have hl2:=heap_lt TB2
    have x2:w2.cell? ⟨w.heap.size,0,none⟩=some (.pointer (some ⟨X.mb,0,none⟩)):=cell_of_row _ _ 0 _ _ _ TB2
    have B2:=Lib.hid (show Below w2.heap.size w2 (w2.alloc (Obj.cells #[] 130)) from belA (Below.refl _ _) _)
    obtain ⟨hf1,hf2⟩:=fail_len HR.out
    have BK:=Lib.hid (back_any (M2.out.below B2.out) hb (by show (oS (.fail S2)).M.length≤_;simp only [oS];omega) (by show (oS (.fail S2)).ch.length≤_;simp only [oS];omega) (.func (.func 45) #[] #[.pointer (some ⟨w.heap.size,0,none⟩),.pointer (some ⟨w.heap.size+1,0,none⟩)]))
    unfold mP at BK
    clear hrr hb TB2
    simp only [endV,oB]
    go_wp2_with fail
    refine BK.out.mono ?_
    cases r with
    | none =>
     rintro e w3 ⟨rfl,b3⟩
     have b23:=B2.out.trans (b3.mono B2.out.size)
     have R3:=Lib.hid (show RunR X ans J ob w.heap.size (w.heap.size+1) ro W0 f .nilFunc w3 from
      ⟨K2.out.trans ((KX.of M2.out.lt.1 b23).kg _),.inl ⟨rfl,⟨_,M2.out.below b23⟩,by rw [HRR.out];exact hJ _ _ _ J2.out ((KX.of M2.out.lt.1 b23).kg _)⟩⟩)
     clear b3 b23
     go_wp2_with fail
     go_roundg f
     case measure => omega
     case rel => exact R3
    | some x =>
     rintro e w3 ⟨g,rest,bar,tb',cb,mark,fr,us,hx,rfl,h1,h2,h3,h4,h5,m3,k3⟩
     have k23:=(KX.of M2.out.lt.1 B2.out).trans k3
     have R3:=Lib.hid (show RunR X ans J ob w.heap.size (w.heap.size+1) ro W0 f (.func (.func 80) #[] #[.pointer (some ⟨tb',0,none⟩),.pointer (some ⟨cb,0,none⟩)]) w3 from
      ⟨K2.out.trans (k23.kg _),.inr ⟨x.1,x.2,l',_,_,rfl,HRR.out,m3,hJ _ _ _ J2.out (k23.kg _),by rw [hx];exact ⟨tb',cb,mark,fr,us,rfl,h1,h2,h3,h4,h5⟩⟩⟩)
     clear h1 h2 h3 h4 h5 m3 k3 k23 hx
     go_wp2_with fail
     go_roundg f
     case measure => omega
     case rel => exact R3
   | ball S2 t => cases hp
   | out S2 k => cases hp
end
end Go.Proofs.YtdgpmpccfjmmcaaGreatDoor
