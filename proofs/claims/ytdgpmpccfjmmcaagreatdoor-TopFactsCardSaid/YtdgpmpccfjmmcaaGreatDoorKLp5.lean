/- The program's lexer:one token. -/
import Derived.Test.YtdgpmpccfjmmcaaGreatDoorKOrd
import Derived.Test.YtdgpmpccfjmmcaaGreatDoorKLp4
import Derived.Test.YtdgpmpccfjmmcaaGreatDoorKJAb
import Derived.Deep.DeepCutAuto
import Derived.Deep.CutRange
import Derived.Deep.CutBlock
import Derived.Deep.RegionWith
import Derived.Deep.RegionLaw
import Derived.Deep.AppendLies
import Derived.Lib.OwnKind
set_option linter.unusedVariables false
set_option linter.unusedSimpArgs false
namespace Go.Proofs.YtdgpmpccfjmmcaaGreatDoor
open Go.RowKit
theorem of_other:∀ n:Nat,n < 256→(ofN n == 0)= !(smallB n || greatB n || digitB n || signB n || blankB n || (n:Int) == 33 || (n:Int) == 59 || markB n || (n:Int) == 39):=by decide+kernel
theorem head_none {s:ByteArray} {f:Nat} {o:Option Tk} (h:(ofN (bn s f) == 0)=true):headN s f o=none:=by
 rw [of_other _ (bn_lt s f)] at h
 simp only [Bool.not_eq_true',Bool.or_eq_false_iff] at h
 obtain ⟨⟨⟨⟨⟨⟨⟨⟨h1,h2⟩,h3⟩,h4⟩,h5⟩,h6⟩,h7⟩,h8⟩,h9⟩:=h
 have h46:((bn s f:Int) == 46)=false:=by
  refine Bool.eq_false_iff.2 fun e => ?_
  have e':(bn s f:Int)=46:=by simpa using e
  rw [e'] at h4
  exact absurd h4 (by decide+kernel)
 unfold headN
 rw [h46,h1,h2,h3,h4,h6,h7,h8,h9]
 rfl
theorem head_some {s:ByteArray} {f:Nat} {o:Option Tk} (h:(ofN (bn s f) == 0)=false) (hnb:blankB (bn s f)=false):∃ q,headN s f o=some q:=by
 rw [of_other _ (bn_lt s f),Bool.not_eq_false'] at h
 simp only [Bool.or_eq_true] at h
 cases hh:headN s f o with
 | some q => exact ⟨q,rfl⟩
 | none =>
  exfalso
  unfold headN at hh
  repeat' split at hh
  all_goals first | cases hh | skip
  simp_all
def OneQ (s:ByteArray) (X:Nat) (w:World) (l:List Tk) (r:OneR) (e:Ending) (w':World):Prop:=
 (match r with
   | .ok x => e=.returned (.tuple #[])∧∃ v',Sc w' X s x.b v'∧w'.ownsRow X 116 4 v' (l.length+1) (tkCells (l++[x]))
   | .bad p er => e=.panicked [wrongE p er])∧Below X w w'
def lastB (s:ByteArray) (f:Nat):Bool:=decide (f+1=s.size) || blankB (bn s (f+1)) || (bn s (f+1):Int) == 37
structure St (W0:World) (X T:Nat) (s:ByteArray) (f:Nat) (v:Value) (l:List Tk) (K:Int) (tx:ByteArray) (j:Nat) (w:World):Prop where
 sc:Sc w X s j v
 own:w.ownsRow X 116 4 v l.length (tkCells l)
 tb:w.heap[T]? =some (.cells #[.int .i64 K,.string tx,.int .i64 (f:Int),.int .i64 0] 116 (0,0))
 far:∀ g,v.ownBlock=some g→g < T
 gt:X < T
 low:Below X W0 w
section
variable {W0 w w':World} {X T f j:Nat} {s tx:ByteArray} {v:Value} {l:List Tk} {K:Int}
theorem St.drew (h:St W0 X T s f v l K tx j w):St W0 X T s f v l K tx j w.drew:=⟨h.sc,h.own,h.tb,h.far,h.gt,h.low.drew⟩
theorem St.ne (h:St W0 X T s f v l K tx j w) {g:Nat} (hg:v.ownBlock=some g):g≠X:=by
 rintro rfl
 obtain ⟨cs,f',hh⟩:=Go.Lib.ownsRow_kind h.own _ hg
 have:=h.sc
 unfold Sc at this
 rw [this] at hh
 injection hh with hh
 injection hh with _ hh
 exact absurd hh (by decide)
theorem St.onx (h:St W0 X T s f v l K tx j w) {j':Nat} (ho:OnX X w w') (hs:Sc w' X s j' v):St W0 X T s f v l K tx j' w':=
 ⟨hs,own_keep h.own fun g hg => ho.far g (h.own.lt g hg).2 (h.ne hg),(ho.far T (heap_lt h.tb) (by have:=h.gt;omega)).trans h.tb,h.far,h.gt,h.low.trans ho.low⟩
theorem St.at_ (h:St W0 X T s f v l K tx j w) (j':Nat):St W0 X T s f v l K tx j' (w.setCell ⟨X,1,none⟩ (.int .i64 (j':Int))):=h.onx (h.sc.at_ j').2 (h.sc.at_ j').1
theorem St.setT (h:St W0 X T s f v l K tx j w) {i:Nat} {u:Value} {K':Int} {tx':ByteArray} (hi:(#[.int .i64 K,.string tx,.int .i64 (f:Int),.int .i64 0]:Array Value).setIfInBounds i u= #[.int .i64 K',.string tx',.int .i64 (f:Int),.int .i64 0]):St W0 X T s f v l K' tx' j (w.setCell ⟨T,i,none⟩ u):=by
 have hb:=blk_set h.tb i u
 rw [hi] at hb
 have hk:∀ g,g≠T→(w.setCell ⟨T,i,none⟩ u).heap[g]? =w.heap[g]?:=fun g hg => Below.heap_setCell _ _ _ _ hg
 exact ⟨(hk X (by have:=h.gt;omega)).trans h.sc,own_keep h.own fun g hg => hk g (by have:=h.far g hg;omega),hb,h.far,h.gt,h.low.setCell (p:=⟨T,i,none⟩) (by show X≤T;have:=h.gt;omega) u⟩
theorem St.k (h:St W0 X T s f v l K tx j w) (K':Int):St W0 X T s f v l K' tx j (w.setCell ⟨T,0,none⟩ (.int .i64 K')):=h.setT rfl
theorem St.t (h:St W0 X T s f v l K tx j w) (tx':ByteArray):St W0 X T s f v l K tx' j (w.setCell ⟨T,1,none⟩ (.string tx')):=h.setT rfl
theorem St.below (h:St W0 X T s f v l K tx j w) (hb:Below w.heap.size w w'):St W0 X T s f v l K tx j w':=h.onx (OnX.below h.sc.lt hb) (h.sc.below hb)
end
theorem keepSc {w1 w2:World} {B n X:Nat} {v:Value} {xs:List Value} {cs:Array Value} {f:Nat × Nat} (hb:w1.heap[X]? =some (.cells cs 161 f)) (hx:w1.ownsRow B 116 4 v n xs) (hg:w1.grownBy w2 v.ownBlock):w2.heap[X]? =some (.cells cs 161 f):=by
 refine (hg.block X (heap_lt hb) fun h => ?_).trans hb
 obtain ⟨cs',f',hh'⟩:=Go.Lib.ownsRow_kind hx X h.symm
 rw [hb] at hh'
 injection hh' with hh'
 injection hh' with _ hh'
 exact absurd hh' (by decide)
theorem unfrozenT {w:World} {g:Nat} {cs:Array Value} {t:TypeId} (h:w.heap[g]? =some (.cells cs t (0,0))):∀ i,w.frozen? ⟨g,i,none⟩=false:=fun i => by simp [World.frozen?,h]
theorem scStore {w:World} {X j n:Nat} {s:ByteArray} {v v':Value} {xs:List Value} (h:w.heap[X]? =some (.cells #[.string s,.int .i64 (j:Int),v] 161 (0,0))) (ho:w.ownsRow X 116 4 v' n xs) :
 Sc (w.setCell ⟨X,2,none⟩ v') X s j v'∧(w.setCell ⟨X,2,none⟩ v').ownsRow X 116 4 v' n xs:=by
 refine ⟨by simpa [Sc] using blk_set h 2 v',own_keep ho fun g hg => Below.heap_setCell _ _ _ _ ?_⟩
 rintro rfl
 obtain ⟨cs',f',hh'⟩:=Go.Lib.ownsRow_kind ho _ hg
 rw [h] at hh'
 injection hh' with hh'
 injection hh' with _ hh'
 exact absurd hh' (by decide)
theorem cls_cells {w:World} {t:TypeId} (cs:List Int):∀ (i:Nat) (u:Int),cs[i]? =some u→(w.alloc (.cells (cs.map (Value.int .i64)).toArray t)).cell? ⟨w.heap.size,i,none⟩=some (.int .i64 u):=by
 intro i u hu
 rw [cell_of_row _ _ i _ _ _ (heap_alloc_new _ _)]
 simp [hu]
theorem ext_one (s:ByteArray) (f:Nat) (hf:f < s.size):(s.extract f (f+1)).data.toList=[bu s f]:=by
 rw [list_extract,show f+1 - f=1 by omega]
 have h0:=List.getElem?_drop (xs:=s.data.toList) (i:=f) (j:=0)
 rw [Nat.add_zero,list_at s hf] at h0
 match hd:s.data.toList.drop f,h0 with
 | x ::l,h0 => simp at h0;subst h0;rfl
theorem ext_lit (s:ByteArray) (f:Nat) (hf:f < s.size) {c:UInt8} (h:(bn s f:Int)=(c.toNat:Int)):s.extract f (f+1)=⟨#[c]⟩:=by
 have h1:=ext_one s f hf
 rw [bu_of h rfl] at h1
 apply ByteArray.ext
 exact Array.ext' h1
set_option maxHeartbeats 16000000 in
set_option maxRecDepth 100000 in
theorem one_any' (s:ByteArray) (hs:s.size≤4096) {w:World} {X f:Nat} {v:Value} {l:List Tk} (h:Sc w X s f v) (ho:w.ownsRow X 116 4 v l.length (tkCells l)) (hf:f < s.size) (hnb:blankB (bn s f)=false) (hl:l.length≤1000) :
 Calls Tryz.prog 69 #[.pointer (some ⟨X,0,none⟩)] w fun e w' => OneQ s X w l (oneN s f l) e w':=by
 have hb:∀ (i:Nat) (h:i < s.size),(s[i]'h).toNat=bn s i:=bn_eq s
 have HS:=Lib.hid h
 have HO:=Lib.hid ho
 have hX:=h.lt
 have HNB:=Lib.hid hnb
 obtain ⟨x0,x1,x2,xf⟩:=h.cells
 obtain ⟨A,cp,rfl,hcp,hA,hcm,hx⟩:=own_open ho
 have HXO:=Lib.hid hx
 have HFAR:=Lib.hid (fun g hg => (HO.out.lt g hg).2)
 clear h ho hx hnb
 obtain ⟨T,hT⟩:∃ T,T=w.heap.size:=⟨_,rfl⟩
 obtain ⟨W,hW⟩:∃ W,W=w.alloc (.cells #[.int .i64 0,.string ⟨#[]⟩,.int .i64 (f:Int),.int .i64 0] 116):=⟨_,rfl⟩
 have hWb:Below w.heap.size w W:=by rw [hW];exact (Below.refl _ _).alloc (Nat.le_refl _) _
 have TB0:=Lib.hid (show W.heap[T]? =some (.cells #[.int .i64 0,.string ⟨#[]⟩,.int .i64 (f:Int),.int .i64 0] 116 (0,0)) by rw [hW,hT];exact heap_alloc_new _ _)
 have SW:=Lib.hid (HS.out.below hWb)
 have OW:=Lib.hid (own_below HO.out hWb)
 have BW:=Lib.hid hWb
 have hTX:X < T:=by omega
 have CO:=Lib.hid (fun V => of_any (bn s f) (bn_lt s f) V)
 obtain ⟨cv,hcv⟩:∃ cv,cv=ofN (bn s f):=⟨_,rfl⟩
 rw [← hcv] at CO
 have HCV:=Lib.hid hcv
 clear hcv hWb
 have hff:(f:Int) < (s.size:Int):=by omega
 go_enter Tryz.func69,Tryz.ntmps69
 go_wp2_with fail
 rw [← hW,← hT]
 rw [← hT] at HFAR
 clear hW hT
 obtain ⟨y0,y1,y2,yf⟩:=SW.out.cells
 have hXW:=SW.out.lt
 clear x0 x1 x2 xf
 have Y:=Lib.hid (And.intro y0 (And.intro y1 y2))
 go_region_held3 (fun w' => w'.cell? ⟨X,0,none⟩=some (.string s)∧w'.cell? ⟨X,1,none⟩=some (.int .i64 (f:Int)))
  ((exact ⟨Y.out.1,Y.out.2.1⟩))
  ((go_at_call 105;(with_reducible refine (CO.out _).mono ?_);rintro e w1 ⟨rfl,rfl⟩))
 cases hc0:(cv == 0)
 case true =>
  have HQ:=Lib.hid (show oneN s f l=.bad f 30 by unfold oneN;rw [head_none (by rw [← HCV.out];exact hc0)])
  go_wp2_with fail
  refine ⟨rfl,?_⟩
  rw [HQ.out]
  exact ⟨rfl,by first | exact (BW.out.mono (Nat.le_of_lt hX)) | exact (BW.out.mono (Nat.le_of_lt hX)).drew⟩
 obtain ⟨hq,hhq⟩:=head_some (o:=l.getLast?) (by rw [← HCV.out];exact hc0) HNB.out
 have HHQ:=Lib.hid hhq
 clear hhq
 by_cases hmany:l.length=1000
 ·have hmany':((l.length:Int) == 1000)=true:=by simp;omega
  have HQ:=Lib.hid (show oneN s f l=.bad f 34 by unfold oneN;rw [HHQ.out];dsimp only;rw [if_pos hmany])
  go_wp2_with fail
  refine ⟨rfl,?_⟩
  rw [HQ.out]
  exact ⟨rfl,by first | exact (BW.out.mono (Nat.le_of_lt hX)) | exact (BW.out.mono (Nat.le_of_lt hX)).drew⟩
 have hmany':((l.length:Int) == 1000)=false:=by simp;omega
 go_wp2_with fail
 go_cut [4] (fun lv wx => lv=.bool (lastB s f)∧wx=W.drew.drew)
 case first =>
  as_aux_lemma =>
   by_cases hend:f+1=s.size
   ·have hend':((f:Int)+1 == (s.size:Int))=true:=by simp;omega
    have HLA:=Lib.hid (show lastB s f=true by unfold lastB;rw [decide_eq_true hend];rfl)
    go_region
    go_wp2_with fail
    go_meet
    case rel => exact ⟨by rw [HLA.out],rfl⟩
   have hf1:f+1 < s.size:=by omega
   have hf1':(f:Int)+1 < (s.size:Int):=by omega
   have hf2:((f:Int)+1).toNat=f+1:=by omega
   have hend':((f:Int)+1 == (s.size:Int))=false:=by simp;omega
   have hf0:(0:Int)≤(f:Int)+1:=by omega
   have hwf:IntKind.i64.wrap ((f:Int)+1)=(f:Int)+1:=by rw [IntKind.wrap_i64];omega
   cases h37:((bn s (f+1):Int) == 37)
   case true =>
    have HLA:=Lib.hid (show lastB s f=true by unfold lastB;rw [h37,Bool.or_true])
    go_region
    go_wp2_with fail
    go_meet
    case rel => exact ⟨by rw [HLA.out],rfl⟩
   have CP:=Lib.hid (fun V => of_any (bn s (f+1)) (bn_lt s (f+1)) V)
   obtain ⟨dv,hdv⟩:∃ dv,dv=ofN (bn s (f+1)):=⟨_,rfl⟩
   rw [← hdv] at CP
   have hbl:=of_blank (bn s (f+1)) (bn_lt s (f+1))
   rw [← hdv] at hbl
   clear hdv
   cases hbb:blankB (bn s (f+1))
   case true =>
    rw [hbb] at hbl
    have HLA:=Lib.hid (show lastB s f=true by unfold lastB;rw [decide_eq_false hend,hbb,h37];rfl)
    clear hbb
    refine wp_region_held_drew (S:=fun w1 => w1.cell? ⟨X,0,none⟩=some (.string s)∧w1.cell? ⟨X,1,none⟩=some (.int .i64 (f:Int))) (by kernel_rfl) ?Sqa (fun hH0 => ?Bqa)
    case Sqa => (exact ⟨Y.out.1,Y.out.2.1⟩)
    refine tkH 0 ?_
    try simp only [opD,Act.put,sA,sB,sC]
    refine tkH 1 ?_
    try simp only [opD,Act.put,sA,sB,sC]
    refine tkH 2 ?_
    try simp only [opD,Act.put,sA,sB,sC]
    refine tkH 3 ?_
    try simp only [opD,Act.put,sA,sB,sC]
    refine tkH 4 ?_
    try simp only [opD,Act.put,sA,sB,sC]
    refine tkH 5 ?_
    try simp only [opD,Act.put,sA,sB,sC]
    refine tkH 6 ?_
    try simp only [opD,Act.put,sA,sB,sC]
    refine tkH 7 ?_
    try simp only [opD,Act.put,sA,sB,sC]
    refine tkH 8 ?_
    try simp only [opD,Act.put,sA,sB,sC]
    refine tkH 9 ?_
    try simp only [opD,Act.put,sA,sB,sC]
    refine tkH 10 ?_
    try simp only [opD,Act.put,sA,sB,sC]
    refine tkH 11 ?_
    try simp only [opD,Act.put,sA,sB,sC]
    refine tkH 12 ?_
    try simp only [opD,Act.put,sA,sB,sC]
    refine tkH 13 ?_
    try simp only [opD,Act.put,sA,sB,sC]
    refine tkH 14 ?_
    try simp only [opD,Act.put,sA,sB,sC]
    refine tkH 15 ?_
    try simp only [opD,Act.put,sA,sB,sC]
    refine tkH 16 ?_
    try simp only [opD,Act.put,sA,sB,sC]
    refine tkH 17 ?_
    try simp only [opD,Act.put,sA,sB,sC]
    refine tkH 18 ?_
    try simp only [opD,Act.put,sA,sB,sC]
    refine tkH 19 ?_
    try simp only [opD,Act.put,sA,sB,sC]
    refine tkH 20 ?_
    try simp only [opD,Act.put,sA,sB,sC]
    refine tkH 21 ?_
    try simp only [opD,Act.put,sA,sB,sC]
    refine tkH 22 ?_
    try simp only [opD,Act.put,sA,sB,sC]
    refine tkH 23 ?_
    try simp only [opD,Act.put,sA,sB,sC]
    refine tkH 24 ?_
    try simp only [opD,Act.put,sA,sB,sC]
    refine tkH 25 ?_
    try simp only [opD,Act.put,sA,sB,sC]
    refine tkH 26 ?_
    try simp only [opD,Act.put,sA,sB,sC]
    refine tkH 27 ?_
    try simp only [opD,Act.put,sA,sB,sC]
    refine tkH 28 ?_
    try simp only [opD,Act.put,sA,sB,sC]
    refine tkH 29 ?_
    try simp only [opD,Act.put,sA,sB,sC]
    refine tkH 30 ?_
    try simp only [opD,Act.put,sA,sB,sC]
    refine tkH 31 ?_
    try simp only [opD,Act.put,sA,sB,sC]
    refine tkH 32 ?_
    try simp only [opD,Act.put,sA,sB,sC]
    refine tkH 33 ?_
    try simp only [opD,Act.put,sA,sB,sC]
    refine tkH 34 ?_
    try simp only [opD,Act.put,sA,sB,sC]
    refine wpAnyH_ready (rs:=[35]) (by kernel_rfl) (by simp) ?_
    refine rdH (fun K hK => ?_) ?nilqa35
    case nilqa35 => exact AllReadyH.nil
    go_simp
    (with_reducible refine (CP.out _).mono ?_)
    rintro e w1 ⟨rfl,rfl⟩
    go_wp2_with fail
    refine hK.out _ _ ?Sqa35 (fun hH1 => ?restqa35)
    case Sqa35 => (exact hH0)
    clear hK K
    try simp only [Act.put,sA,sB,sC]
    refine tkH 36 ?_
    try simp only [opD,Act.put,sA,sB,sC]
    refine tkH 37 ?_
    try simp only [opD,Act.put,sA,sB,sC]
    refine tkH 38 ?_
    try simp only [opD,Act.put,sA,sB,sC]
    refine wpAnyH_done (by kernel_rfl) ?_ _
    go_wp2_with fail
    go_meet
    case rel => exact ⟨by rw [HLA.out],rfl⟩
   case false =>
    rw [hbb] at hbl
    have HLA:=Lib.hid (show lastB s f=false by unfold lastB;rw [decide_eq_false hend,hbb,h37];rfl)
    clear hbb
    refine wp_region_held_drew (S:=fun w1 => w1.cell? ⟨X,0,none⟩=some (.string s)∧w1.cell? ⟨X,1,none⟩=some (.int .i64 (f:Int))) (by kernel_rfl) ?Sqb (fun hH0 => ?Bqb)
    case Sqb => (exact ⟨Y.out.1,Y.out.2.1⟩)
    refine tkH 0 ?_
    try simp only [opD,Act.put,sA,sB,sC]
    refine tkH 1 ?_
    try simp only [opD,Act.put,sA,sB,sC]
    refine tkH 2 ?_
    try simp only [opD,Act.put,sA,sB,sC]
    refine tkH 3 ?_
    try simp only [opD,Act.put,sA,sB,sC]
    refine tkH 4 ?_
    try simp only [opD,Act.put,sA,sB,sC]
    refine tkH 5 ?_
    try simp only [opD,Act.put,sA,sB,sC]
    refine tkH 6 ?_
    try simp only [opD,Act.put,sA,sB,sC]
    refine tkH 7 ?_
    try simp only [opD,Act.put,sA,sB,sC]
    refine tkH 8 ?_
    try simp only [opD,Act.put,sA,sB,sC]
    refine tkH 9 ?_
    try simp only [opD,Act.put,sA,sB,sC]
    refine tkH 10 ?_
    try simp only [opD,Act.put,sA,sB,sC]
    refine tkH 11 ?_
    try simp only [opD,Act.put,sA,sB,sC]
    refine tkH 12 ?_
    try simp only [opD,Act.put,sA,sB,sC]
    refine tkH 13 ?_
    try simp only [opD,Act.put,sA,sB,sC]
    refine tkH 14 ?_
    try simp only [opD,Act.put,sA,sB,sC]
    refine tkH 15 ?_
    try simp only [opD,Act.put,sA,sB,sC]
    refine tkH 16 ?_
    try simp only [opD,Act.put,sA,sB,sC]
    refine tkH 17 ?_
    try simp only [opD,Act.put,sA,sB,sC]
    refine tkH 18 ?_
    try simp only [opD,Act.put,sA,sB,sC]
    refine tkH 19 ?_
    try simp only [opD,Act.put,sA,sB,sC]
    refine tkH 20 ?_
    try simp only [opD,Act.put,sA,sB,sC]
    refine tkH 21 ?_
    try simp only [opD,Act.put,sA,sB,sC]
    refine tkH 22 ?_
    try simp only [opD,Act.put,sA,sB,sC]
    refine tkH 23 ?_
    try simp only [opD,Act.put,sA,sB,sC]
    refine tkH 24 ?_
    try simp only [opD,Act.put,sA,sB,sC]
    refine tkH 25 ?_
    try simp only [opD,Act.put,sA,sB,sC]
    refine tkH 26 ?_
    try simp only [opD,Act.put,sA,sB,sC]
    refine tkH 27 ?_
    try simp only [opD,Act.put,sA,sB,sC]
    refine tkH 28 ?_
    try simp only [opD,Act.put,sA,sB,sC]
    refine tkH 29 ?_
    try simp only [opD,Act.put,sA,sB,sC]
    refine tkH 30 ?_
    try simp only [opD,Act.put,sA,sB,sC]
    refine tkH 31 ?_
    try simp only [opD,Act.put,sA,sB,sC]
    refine tkH 32 ?_
    try simp only [opD,Act.put,sA,sB,sC]
    refine tkH 33 ?_
    try simp only [opD,Act.put,sA,sB,sC]
    refine tkH 34 ?_
    try simp only [opD,Act.put,sA,sB,sC]
    refine wpAnyH_ready (rs:=[35]) (by kernel_rfl) (by simp) ?_
    refine rdH (fun K hK => ?_) ?nilqb35
    case nilqb35 => exact AllReadyH.nil
    go_simp
    (with_reducible refine (CP.out _).mono ?_)
    rintro e w1 ⟨rfl,rfl⟩
    go_wp2_with fail
    refine hK.out _ _ ?Sqb35 (fun hH1 => ?restqb35)
    case Sqb35 => (exact hH0)
    clear hK K
    try simp only [Act.put,sA,sB,sC]
    refine tkH 36 ?_
    try simp only [opD,Act.put,sA,sB,sC]
    refine tkH 37 ?_
    try simp only [opD,Act.put,sA,sB,sC]
    refine tkH 38 ?_
    try simp only [opD,Act.put,sA,sB,sC]
    refine wpAnyH_done (by kernel_rfl) ?_ _
    go_wp2_with fail
    go_meet
    case rel => exact ⟨by rw [HLA.out],rfl⟩
 case rest =>
  obtain ⟨rfl,rfl⟩:=hcut
  obtain ⟨lb,hlb⟩:∃ lb,lastB s f=lb:=⟨_,rfl⟩
  have HLB:=Lib.hid hlb
  rw [hlb]
  clear hlb CO Y y0 y1 y2 yf
  have S0:=Lib.hid (show St W X T s f (.slice A l.length cp) l 0 ⟨#[]⟩ f W from ⟨SW.out,OW.out,TB0.out,fun g hg => HFAR.out g hg,hTX,Below.refl _ _⟩)
  go_upto_block 0 with fail
  go_cut [] (fun wx => ∃ (K:Int) (tx:ByteArray) (j:Nat),St W X T s f (.slice A l.length cp) l K tx j wx∧Hid (oneN s f l=.ok ⟨K,tx,f,j⟩))
  case first =>
   as_aux_lemma =>
    have hl1000:¬ l.length=1000:=hmany
    obtain ⟨y0,y1,y2,yf⟩:=S0.out.sc.cells
    have hXl:=S0.out.sc.lt
    have hTl:=heap_lt S0.out.tb
    obtain ⟨t0,t1,t2,t3⟩:=box4t S0.out.tb
    have hXT:X≠T:=by omega
    have hTX':T≠X:=by omega
    have tf:∀ i,W.frozen? ⟨T,i,none⟩=false:=fun i => by simp [World.frozen?,S0.out.tb]
    have hfj:(f:Int)≤(f:Int)+1:=by omega
    have hjs:(f:Int)+1≤(s.size:Int):=by omega
    have hwf:IntKind.i64.wrap ((f:Int)+1)=(f:Int)+1:=by rw [IntKind.wrap_i64];omega
    have hcast:((f+1:Nat):Int)=(f:Int)+1:=by omega
    cases h46:((bn s f:Int) == 46)
    case true =>
     have hv:(bn s f:Int)=46:=by simpa using h46
     have HV:=Lib.hid hv
     clear hv
     cases lb
     case true =>
      as_aux_lemma =>
       have hhd:headN s f l.getLast? =some (6,f+1):=by unfold headN;rw [h46,show (decide (f+1=s.size) || blankB (bn s (f+1)) || (bn s (f+1):Int) == 37)=true from HLB.out];rfl
       have hq39:((bn s f:Int) == 39)=false:=by rw [HV.out];rfl
       have HONE:=Lib.hid (show oneN s f l=.ok ⟨6,s.extract f (f+1),f,f+1⟩ by unfold oneN;rw [hhd];dsimp only;rw [if_neg hl1000,hq39];rfl)
       clear hhd hq39
       have r0:=(S0.out.k 6).t ⟨#[46]⟩
       have r1:=r0.at_ (f+1)
       rw [hcast] at r1
       clear r0
       have R1:=Lib.hid r1
       clear r1
       go_wp2_with fail
       go_region
       go_wp2_with fail
       go_meet
       case rel => exact ⟨6,⟨#[46]⟩,f+1,(by first | exact R1.out | exact R1.out.drew | exact R1.out.drew.drew | exact R1.out.drew.drew.drew | exact R1.out.drew.drew.drew.drew | exact R1.out.drew.drew.drew.drew.drew),by rw [← ext_lit s f hf (c:=46) HV.out];exact HONE⟩
     case false =>
      have hsm:smallB (bn s f)=false:=by rw [HV.out];decide
      have hgr:greatB (bn s f)=false:=by rw [HV.out];decide
      have hdi:digitB (bn s f)=false:=by rw [HV.out];decide
      have hsi:signB (bn s f)=true:=by rw [HV.out];decide+kernel
      as_aux_lemma =>
       have hhd:headN s f l.getLast? =some (1,runN 3 s f):=by unfold headN;rw [h46,show (decide (f+1=s.size) || blankB (bn s (f+1)) || (bn s (f+1):Int) == 37)=false from HLB.out,hsm,hgr,hdi,hsi];rfl
       have hq39:((bn s f:Int) == 39)=false:=by rw [HV.out];rfl
       have HONE:=Lib.hid (show oneN s f l=.ok ⟨1,s.extract f (runN 3 s f),f,runN 3 s f⟩ by unfold oneN;rw [hhd];dsimp only;rw [if_neg hl1000,hq39];rfl)
       clear hhd hq39
       obtain rfl:cv=4:=by rw [HCV.out];unfold ofN;rw [hsm,hgr,hdi,hsi];rfl
       have S2:=Lib.hid (S0.out.below (Below.refl _ _))
       clear S2
       go_wp2_with fail
       go_region
       go_wp2_with fail
       have SA:=Lib.hid (S0.out.below ((Below.refl _ _).alloc (Nat.le_refl _) (.cells #[.int .i64 4] 196))).drew.drew.drew
       refine (while_any 3 [4] (by decide+kernel) s (by omega) SA.out.sc (by omega) (b:=W.heap.size) (by omega) (by simp) (by decide) (cls_cells (w:=W) (t:=196) [4])).mono ?_
       rintro e w1 ⟨rfl,hsc,hon⟩
       have r0:=SA.out.onx hon hsc
       have r1:=((r0.k 1).t (s.extract f (runN 3 s f)))
       have R1:=Lib.hid r1
       obtain ⟨z0,z1,z2,zf⟩:=r0.sc.cells
       obtain ⟨t0,t1,t2,t3⟩:=box4t r0.tb
       have tf1:∀ i,w1.frozen? ⟨T,i,none⟩=false:=fun i => by simp [World.frozen?,r0.tb]
       have hT1:=heap_lt r0.tb
       clear r0 r1 hsc hon
       go_wp2_with fail
       go_meet
       case rel => exact ⟨1,s.extract f (runN 3 s f),runN 3 s f,(by first | exact R1.out | exact R1.out.drew | exact R1.out.drew.drew | exact R1.out.drew.drew.drew | exact R1.out.drew.drew.drew.drew | exact R1.out.drew.drew.drew.drew.drew),HONE⟩
    cases hsm:smallB (bn s f)
    case true =>
     have q39:((bn s f:Int) == 39)=false:=by
      refine Bool.eq_false_iff.2 fun h => ?_
      rw [show (bn s f:Int)=39 from by simpa using h] at hsm
      exact absurd hsm (by decide)
     as_aux_lemma =>
      have hhd:headN s f l.getLast? =some (1,runN 1 s f):=by unfold headN;rw [h46,hsm];rfl
      have hq39:((bn s f:Int) == 39)=false:=by exact q39
      have HONE:=Lib.hid (show oneN s f l=.ok ⟨1,s.extract f (runN 1 s f),f,runN 1 s f⟩ by unfold oneN;rw [hhd];dsimp only;rw [if_neg hl1000,hq39];rfl)
      clear hhd hq39
      obtain rfl:cv=1:=by rw [HCV.out];unfold ofN;rw [hsm];rfl
      have S2:=Lib.hid (S0.out.below (Below.refl _ _))
      clear S2
      go_wp2_with fail
      go_region
      go_wp2_with fail
      have SA:=Lib.hid (S0.out.below ((Below.refl _ _).alloc (Nat.le_refl _) (.cells #[.int .i64 1,.int .i64 2,.int .i64 3] 196))).drew.drew.drew
      refine (while_any 1 [1,2,3] (by decide+kernel) s (by omega) SA.out.sc (by omega) (b:=W.heap.size) (by omega) (by simp) (by decide) (cls_cells (w:=W) (t:=196) [1,2,3])).mono ?_
      rintro e w1 ⟨rfl,hsc,hon⟩
      have r0:=SA.out.onx hon hsc
      have r1:=((r0.k 1).t (s.extract f (runN 1 s f)))
      have R1:=Lib.hid r1
      obtain ⟨z0,z1,z2,zf⟩:=r0.sc.cells
      obtain ⟨t0,t1,t2,t3⟩:=box4t r0.tb
      have tf1:∀ i,w1.frozen? ⟨T,i,none⟩=false:=fun i => by simp [World.frozen?,r0.tb]
      have hT1:=heap_lt r0.tb
      clear r0 r1 hsc hon
      go_wp2_with fail
      go_meet
      case rel => exact ⟨1,s.extract f (runN 1 s f),runN 1 s f,(by first | exact R1.out | exact R1.out.drew | exact R1.out.drew.drew | exact R1.out.drew.drew.drew | exact R1.out.drew.drew.drew.drew | exact R1.out.drew.drew.drew.drew.drew),HONE⟩
    cases hgr:greatB (bn s f)
    case true =>
     have q39:((bn s f:Int) == 39)=false:=by
      refine Bool.eq_false_iff.2 fun h => ?_
      rw [show (bn s f:Int)=39 from by simpa using h] at hgr
      exact absurd hgr (by decide)
     as_aux_lemma =>
      have hhd:headN s f l.getLast? =some (2,runN 1 s f):=by unfold headN;rw [h46,hsm,hgr];rfl
      have hq39:((bn s f:Int) == 39)=false:=by exact q39
      have HONE:=Lib.hid (show oneN s f l=.ok ⟨2,s.extract f (runN 1 s f),f,runN 1 s f⟩ by unfold oneN;rw [hhd];dsimp only;rw [if_neg hl1000,hq39];rfl)
      clear hhd hq39
      obtain rfl:cv=2:=by rw [HCV.out];unfold ofN;rw [hsm,hgr];rfl
      have S2:=Lib.hid (S0.out.below (Below.refl _ _))
      clear S2
      go_wp2_with fail
      go_region
      go_wp2_with fail
      have SA:=Lib.hid (S0.out.below ((Below.refl _ _).alloc (Nat.le_refl _) (.cells #[.int .i64 1,.int .i64 2,.int .i64 3] 196))).drew.drew.drew
      refine (while_any 1 [1,2,3] (by decide+kernel) s (by omega) SA.out.sc (by omega) (b:=W.heap.size) (by omega) (by simp) (by decide) (cls_cells (w:=W) (t:=196) [1,2,3])).mono ?_
      rintro e w1 ⟨rfl,hsc,hon⟩
      have r0:=SA.out.onx hon hsc
      have r1:=((r0.k 2).t (s.extract f (runN 1 s f)))
      have R1:=Lib.hid r1
      obtain ⟨z0,z1,z2,zf⟩:=r0.sc.cells
      obtain ⟨t0,t1,t2,t3⟩:=box4t r0.tb
      have tf1:∀ i,w1.frozen? ⟨T,i,none⟩=false:=fun i => by simp [World.frozen?,r0.tb]
      have hT1:=heap_lt r0.tb
      clear r0 r1 hsc hon
      go_wp2_with fail
      go_meet
      case rel => exact ⟨2,s.extract f (runN 1 s f),runN 1 s f,(by first | exact R1.out | exact R1.out.drew | exact R1.out.drew.drew | exact R1.out.drew.drew.drew | exact R1.out.drew.drew.drew.drew | exact R1.out.drew.drew.drew.drew.drew),HONE⟩
    cases hdi:digitB (bn s f)
    case true =>
     have q39:((bn s f:Int) == 39)=false:=by
      refine Bool.eq_false_iff.2 fun h => ?_
      rw [show (bn s f:Int)=39 from by simpa using h] at hdi
      exact absurd hdi (by decide)
     as_aux_lemma =>
      have hhd:headN s f l.getLast? =some (3,runN 2 s f):=by unfold headN;rw [h46,hsm,hgr,hdi];rfl
      have hq39:((bn s f:Int) == 39)=false:=by exact q39
      have HONE:=Lib.hid (show oneN s f l=.ok ⟨3,s.extract f (runN 2 s f),f,runN 2 s f⟩ by unfold oneN;rw [hhd];dsimp only;rw [if_neg hl1000,hq39];rfl)
      clear hhd hq39
      obtain rfl:cv=3:=by rw [HCV.out];unfold ofN;rw [hsm,hgr,hdi];rfl
      have S2:=Lib.hid (S0.out.below (Below.refl _ _))
      clear S2
      go_wp2_with fail
      go_region
      go_wp2_with fail
      have SA:=Lib.hid (S0.out.below ((Below.refl _ _).alloc (Nat.le_refl _) (.cells #[.int .i64 3] 196))).drew.drew.drew
      refine (while_any 2 [3] (by decide+kernel) s (by omega) SA.out.sc (by omega) (b:=W.heap.size) (by omega) (by simp) (by decide) (cls_cells (w:=W) (t:=196) [3])).mono ?_
      rintro e w1 ⟨rfl,hsc,hon⟩
      have r0:=SA.out.onx hon hsc
      have r1:=((r0.k 3).t (s.extract f (runN 2 s f)))
      have R1:=Lib.hid r1
      obtain ⟨z0,z1,z2,zf⟩:=r0.sc.cells
      obtain ⟨t0,t1,t2,t3⟩:=box4t r0.tb
      have tf1:∀ i,w1.frozen? ⟨T,i,none⟩=false:=fun i => by simp [World.frozen?,r0.tb]
      have hT1:=heap_lt r0.tb
      clear r0 r1 hsc hon
      go_wp2_with fail
      go_meet
      case rel => exact ⟨3,s.extract f (runN 2 s f),runN 2 s f,(by first | exact R1.out | exact R1.out.drew | exact R1.out.drew.drew | exact R1.out.drew.drew.drew | exact R1.out.drew.drew.drew.drew | exact R1.out.drew.drew.drew.drew.drew),HONE⟩
    cases hsi:signB (bn s f)
    case true =>
     have q39:((bn s f:Int) == 39)=false:=by
      refine Bool.eq_false_iff.2 fun h => ?_
      rw [show (bn s f:Int)=39 from by simpa using h] at hsi
      exact absurd hsi (by decide+kernel)
     as_aux_lemma =>
      have hhd:headN s f l.getLast? =some (1,runN 3 s f):=by unfold headN;rw [h46,hsm,hgr,hdi,hsi];rfl
      have hq39:((bn s f:Int) == 39)=false:=by exact q39
      have HONE:=Lib.hid (show oneN s f l=.ok ⟨1,s.extract f (runN 3 s f),f,runN 3 s f⟩ by unfold oneN;rw [hhd];dsimp only;rw [if_neg hl1000,hq39];rfl)
      clear hhd hq39
      obtain rfl:cv=4:=by rw [HCV.out];unfold ofN;rw [hsm,hgr,hdi,hsi];rfl
      have S2:=Lib.hid (S0.out.below (Below.refl _ _))
      clear S2
      go_wp2_with fail
      go_region
      go_wp2_with fail
      have SA:=Lib.hid (S0.out.below ((Below.refl _ _).alloc (Nat.le_refl _) (.cells #[.int .i64 4] 196))).drew.drew.drew
      refine (while_any 3 [4] (by decide+kernel) s (by omega) SA.out.sc (by omega) (b:=W.heap.size) (by omega) (by simp) (by decide) (cls_cells (w:=W) (t:=196) [4])).mono ?_
      rintro e w1 ⟨rfl,hsc,hon⟩
      have r0:=SA.out.onx hon hsc
      have r1:=((r0.k 1).t (s.extract f (runN 3 s f)))
      have R1:=Lib.hid r1
      obtain ⟨z0,z1,z2,zf⟩:=r0.sc.cells
      obtain ⟨t0,t1,t2,t3⟩:=box4t r0.tb
      have tf1:∀ i,w1.frozen? ⟨T,i,none⟩=false:=fun i => by simp [World.frozen?,r0.tb]
      have hT1:=heap_lt r0.tb
      clear r0 r1 hsc hon
      go_wp2_with fail
      go_meet
      case rel => exact ⟨1,s.extract f (runN 3 s f),runN 3 s f,(by first | exact R1.out | exact R1.out.drew | exact R1.out.drew.drew | exact R1.out.drew.drew.drew | exact R1.out.drew.drew.drew.drew | exact R1.out.drew.drew.drew.drew.drew),HONE⟩
    cases hso:((bn s f:Int) == 33 || (bn s f:Int) == 59)
    case true =>
     have q39:((bn s f:Int) == 39)=false:=by
      refine Bool.eq_false_iff.2 fun h => ?_
      rw [show (bn s f:Int)=39 from by simpa using h] at hso
      exact absurd hso (by decide)
     as_aux_lemma =>
      have hhd:headN s f l.getLast? =some (1,f+1):=by unfold headN;rw [h46,hsm,hgr,hdi,hsi,hso];rfl
      have hq39:((bn s f:Int) == 39)=false:=by exact q39
      have HONE:=Lib.hid (show oneN s f l=.ok ⟨1,s.extract f (f+1),f,f+1⟩ by unfold oneN;rw [hhd];dsimp only;rw [if_neg hl1000,hq39];rfl)
      clear hhd hq39
      obtain rfl:cv=6:=by rw [HCV.out];unfold ofN;rw [hsm,hgr,hdi,hsi,HNB.out,hso];rfl
      have r0:=(S0.out.k 1).t (s.extract f (f+1))
      have r1:=r0.at_ (f+1)
      rw [hcast] at r1
      clear r0
      have R1:=Lib.hid r1
      clear r1
      go_wp2_with fail
      go_region
      go_wp2_with fail
      go_region
      go_wp2_with fail
      go_meet
      case rel => exact ⟨1,s.extract f (f+1),f+1,(by first | exact R1.out | exact R1.out.drew | exact R1.out.drew.drew | exact R1.out.drew.drew.drew | exact R1.out.drew.drew.drew.drew | exact R1.out.drew.drew.drew.drew.drew),HONE⟩
    cases h39:((bn s f:Int) == 39)
    case true =>
     as_aux_lemma =>
      obtain ⟨h33,h59⟩:=Bool.or_eq_false_iff.1 hso
      have hhd:headN s f l.getLast? =some (1,0):=by unfold headN;rw [h46,hsm,hgr,hdi,hsi,h33,h59,h39];rfl
      have HON:=Lib.hid (show oneN s f l=(match quoN s f (f+1) [] with | .ok t p => .ok ⟨1,⟨t.toArray⟩,f,p⟩ | .bad p e => .bad p e) by unfold oneN;rw [hhd];dsimp only;rw [if_neg hl1000,h39];rfl)
      obtain rfl:cv=8:=by rw [HCV.out,show (bn s f:Int)=39 from by simpa using h39];decide+kernel
      clear hhd
      have SA:=Lib.hid S0.out.drew.drew.drew
      go_wp2_with fail
      go_region
      go_wp2_with fail
      refine (pquoted_any s hs SA.out.sc hf).mono ?_
      rintro e w1 ⟨hq1,hon⟩
      obtain ⟨qr,hqr⟩:∃ qr,quoN s f (f+1) []=qr:=⟨_,rfl⟩
      rw [hqr] at hq1 HON
      clear hqr
      cases qr with
      | ok t p =>
       obtain ⟨rfl,hsc⟩:=hq1
       have r0:=SA.out.onx hon hsc
       have r1:=((r0.k 1).t ⟨t.toArray⟩)
       have R1:=Lib.hid r1
       obtain ⟨t0,t1,t2,t3⟩:=box4t r0.tb
       have tf1:∀ i,w1.frozen? ⟨T,i,none⟩=false:=fun i => by simp [World.frozen?,r0.tb]
       have hT1:=heap_lt r0.tb
       clear r0 r1 hsc hon
       go_wp2_with fail
       go_meet
       case rel => exact ⟨1,⟨t.toArray⟩,p,(by first | exact R1.out | exact R1.out.drew | exact R1.out.drew.drew | exact R1.out.drew.drew.drew | exact R1.out.drew.drew.drew.drew | exact R1.out.drew.drew.drew.drew.drew),HON⟩
      | bad p er =>
       have hq2:e=.panicked [wrongE p er]:=hq1
       subst hq2
       have BF:=Lib.hid (BW.out.mono (Nat.le_of_lt hX) |>.trans ((S0.out.drew.drew.drew.low).trans hon.low))
       clear hon
       go_wp2_with fail
       refine ⟨rfl,?_⟩
       rw [HON.out]
       exact ⟨rfl,BF.out⟩
    cases hmk:markB (bn s f)
    case false =>
     obtain ⟨h33,h59⟩:=Bool.or_eq_false_iff.1 hso
     exfalso
     have:=HHQ.out
     unfold headN at this
     rw [h46,hsm,hgr,hdi,hsi,h33,h59,h39,hmk] at this
     cases this
    obtain ⟨h33,h59⟩:=Bool.or_eq_false_iff.1 hso
    obtain rfl:cv=7:=by rw [HCV.out];unfold ofN;rw [hsm,hgr,hdi,hsi,HNB.out,hso,hmk];rfl
    have HEX:=Lib.hid (fun K => show headN s f l.getLast? =some (K,f+1)→oneN s f l=.ok ⟨K,s.extract f (f+1),f,f+1⟩ from fun h => by unfold oneN;rw [h];dsimp only;rw [if_neg hl1000,h39];rfl)
    have hz:s.extract f (f+1)=⟨#[bu s f]⟩:=ByteArray.ext (Array.ext' (ext_one s f hf))
    have HZ:=Lib.hid hz
    clear hz
    obtain ⟨tx,htx⟩:∃ tx,s.extract f (f+1)=tx:=⟨_,rfl⟩
    have HTX:=Lib.hid htx
    as_aux_lemma =>
     have r1:=((S0.out.k 5).t tx)
     obtain ⟨u0,u1,u2,u3⟩:=box4t r1.tb
     have R0:=Lib.hid r1
     clear r1 htx
     go_wp2_with fail
     go_region
     go_wp2_with fail
     go_region
     rw [HTX.out]
     obtain ⟨V,hV⟩:∃ V,V=((W.setCell ⟨T,0,none⟩ (.int .i64 5)).setCell ⟨T,1,none⟩ (.string tx)).drew.drew.drew.drew:=⟨_,rfl⟩
     have R2:=Lib.hid (show St W X T s f (.slice A l.length cp) l 5 tx f V from by rw [hV];exact R0.out.drew.drew.drew.drew)
     rw [← hV]
     clear hV y0 y1 y2 yf t0 t1 t2 t3 tf u0 u1 u2 u3 hXl hTl R0
     obtain ⟨y0,y1,y2,yf⟩:=R2.out.sc.cells
     obtain ⟨t0,t1,t2,t3⟩:=box4t R2.out.tb
     have hXl:=R2.out.sc.lt
     have hTl:=heap_lt R2.out.tb
     have tf:∀ i,V.frozen? ⟨T,i,none⟩=false:=fun i => by simp [World.frozen?,R2.out.tb]
     have htl:tx.toList=[bu s f]:=by rw [← HTX.out,HZ.out,Lib.toList_data]
     have r1:=R2.out.at_ (f+1)
     rw [hcast] at r1
     have R1:=Lib.hid r1
     clear r1
     go_wp2_with fail
     cases h40:((bn s f:Int) == 40)
     case false =>
      have hbu:¬ bu s f=40:=fun h => by rw [bn_bu,h] at h40;exact absurd h40 (by decide)
      have hte:(tx.toList == [40])=false:=by
       rw [htl]
       refine Bool.eq_false_iff.2 fun h => ?_
       have:bu s f=40:=by simpa using h
       rw [bn_bu,this] at h40
       exact absurd h40 (by decide)
      have HONE:=Lib.hid (HEX.out 5 (by unfold headN;rw [h46,hsm,hgr,hdi,hsi,h33,h59,h39,hmk,h40];rfl))
      refine wp_region_held_drew (S:=fun w1 => w1.cell? ⟨T,1,none⟩=some (.string tx)∧w1.cell? ⟨X,1,none⟩=some (.int .i64 (f:Int))∧w1.cell? ⟨X,2,none⟩=some (.slice A l.length cp)) (by kernel_rfl) ?Sm1 (fun hH0 => ?Bm1)
      case Sm1 => (exact ⟨t1,y1,y2⟩)
      refine tkH 0 ?_
      try simp only [opD,Act.put,sA,sB,sC]
      refine tkH 1 ?_
      try simp only [opD,Act.put,sA,sB,sC]
      refine tkH 2 (v:=(Value.bool false)) ?_ (hy:=?hym12)
      case hym12 => (intro w hSw;(try dsimp only at hSw);simp only [opD];go_simp;try exact hbu)
      try simp only [Act.put,sA,sB,sC]
      refine tkH 3 ?_
      try simp only [opD,Act.put,sA,sB,sC]
      refine tkN 4 ?_
      try simp only [opD,Act.put,sA,sB,sC]
      refine tkN 5 ?_
      try simp only [opD,Act.put,sA,sB,sC]
      refine tkH 6 ?_
      try simp only [opD,Act.put,sA,sB,sC]
      refine tkH 7 ?_
      try simp only [opD,Act.put,sA,sB,sC]
      refine tkN 8 ?_
      try simp only [opD,Act.put,sA,sB,sC]
      refine tkN 9 ?_
      try simp only [opD,Act.put,sA,sB,sC]
      refine tkN 10 ?_
      try simp only [opD,Act.put,sA,sB,sC]
      refine tkN 11 ?_
      try simp only [opD,Act.put,sA,sB,sC]
      refine tkN 12 ?_
      try simp only [opD,Act.put,sA,sB,sC]
      refine tkN 13 ?_
      try simp only [opD,Act.put,sA,sB,sC]
      refine tkN 14 ?_
      try simp only [opD,Act.put,sA,sB,sC]
      refine tkN 15 ?_
      try simp only [opD,Act.put,sA,sB,sC]
      refine tkN 16 ?_
      try simp only [opD,Act.put,sA,sB,sC]
      refine tkN 17 ?_
      try simp only [opD,Act.put,sA,sB,sC]
      refine tkH 18 ?_
      try simp only [opD,Act.put,sA,sB,sC]
      refine tkH 19 ?_
      try simp only [opD,Act.put,sA,sB,sC]
      refine tkN 20 ?_
      try simp only [opD,Act.put,sA,sB,sC]
      refine tkN 21 ?_
      try simp only [opD,Act.put,sA,sB,sC]
      refine tkN 22 ?_
      try simp only [opD,Act.put,sA,sB,sC]
      refine tkN 23 ?_
      try simp only [opD,Act.put,sA,sB,sC]
      refine tkN 24 ?_
      try simp only [opD,Act.put,sA,sB,sC]
      refine tkN 25 ?_
      try simp only [opD,Act.put,sA,sB,sC]
      refine tkN 26 ?_
      try simp only [opD,Act.put,sA,sB,sC]
      refine tkN 27 ?_
      try simp only [opD,Act.put,sA,sB,sC]
      refine tkN 28 ?_
      try simp only [opD,Act.put,sA,sB,sC]
      refine tkN 29 ?_
      try simp only [opD,Act.put,sA,sB,sC]
      refine tkN 30 ?_
      try simp only [opD,Act.put,sA,sB,sC]
      refine tkN 31 ?_
      try simp only [opD,Act.put,sA,sB,sC]
      refine tkN 32 ?_
      try simp only [opD,Act.put,sA,sB,sC]
      refine tkN 33 ?_
      try simp only [opD,Act.put,sA,sB,sC]
      refine tkH 34 ?_
      try simp only [opD,Act.put,sA,sB,sC]
      refine wpAnyH_done (by kernel_rfl) ?_ _
      go_wp2_with fail
      go_meet
      case rel => exact ⟨5,tx,f+1,(by first | exact R1.out | exact R1.out.drew | exact R1.out.drew.drew | exact R1.out.drew.drew.drew | exact R1.out.drew.drew.drew.drew | exact R1.out.drew.drew.drew.drew.drew),by rw [← HTX.out];exact HONE⟩
     have hbu:bu s f=40:=bu_of (c:=40) (show (bn s f:Int)=40 from by simpa using h40) rfl
     have hte:(tx.toList == [40])=true:=by rw [htl,hbu];rfl
     rcases Nat.eq_zero_or_pos l.length with hn0 | hn0
     ·have hng:¬ (l.length:Int) > 0:=by omega
      have HO:=Lib.hid (show l.getLast? =none by rw [List.eq_nil_of_length_eq_zero hn0];rfl)
      have HONE:=Lib.hid (HEX.out 5 (by unfold headN;rw [HO.out,h46,hsm,hgr,hdi,hsi,h33,h59,h39,hmk,h40];rfl))
      refine wp_region_held_drew (S:=fun w1 => w1.cell? ⟨T,1,none⟩=some (.string tx)∧w1.cell? ⟨X,1,none⟩=some (.int .i64 (f:Int))∧w1.cell? ⟨X,2,none⟩=some (.slice A l.length cp)) (by kernel_rfl) ?Sm2 (fun hH0 => ?Bm2)
      case Sm2 => (exact ⟨t1,y1,y2⟩)
      refine tkH 0 ?_
      try simp only [opD,Act.put,sA,sB,sC]
      refine tkH 1 ?_
      try simp only [opD,Act.put,sA,sB,sC]
      refine tkH 2 (v:=(Value.bool true)) ?_ (hy:=?hym22)
      case hym22 => (intro w hSw;(try dsimp only at hSw);simp only [opD];go_simp;try exact hbu)
      try simp only [Act.put,sA,sB,sC]
      refine tkH 3 ?_
      try simp only [opD,Act.put,sA,sB,sC]
      refine tkH 4 ?_
      try simp only [opD,Act.put,sA,sB,sC]
      refine tkH 5 ?_
      try simp only [opD,Act.put,sA,sB,sC]
      refine tkH 6 ?_
      try simp only [opD,Act.put,sA,sB,sC]
      refine tkH 7 ?_
      try simp only [opD,Act.put,sA,sB,sC]
      refine tkN 8 ?_
      try simp only [opD,Act.put,sA,sB,sC]
      refine tkN 9 ?_
      try simp only [opD,Act.put,sA,sB,sC]
      refine tkN 10 ?_
      try simp only [opD,Act.put,sA,sB,sC]
      refine tkN 11 ?_
      try simp only [opD,Act.put,sA,sB,sC]
      refine tkN 12 ?_
      try simp only [opD,Act.put,sA,sB,sC]
      refine tkN 13 ?_
      try simp only [opD,Act.put,sA,sB,sC]
      refine tkN 14 ?_
      try simp only [opD,Act.put,sA,sB,sC]
      refine tkN 15 ?_
      try simp only [opD,Act.put,sA,sB,sC]
      refine tkN 16 ?_
      try simp only [opD,Act.put,sA,sB,sC]
      refine tkN 17 ?_
      try simp only [opD,Act.put,sA,sB,sC]
      refine tkH 18 ?_
      try simp only [opD,Act.put,sA,sB,sC]
      refine tkH 19 ?_
      try simp only [opD,Act.put,sA,sB,sC]
      refine tkN 20 ?_
      try simp only [opD,Act.put,sA,sB,sC]
      refine tkN 21 ?_
      try simp only [opD,Act.put,sA,sB,sC]
      refine tkN 22 ?_
      try simp only [opD,Act.put,sA,sB,sC]
      refine tkN 23 ?_
      try simp only [opD,Act.put,sA,sB,sC]
      refine tkN 24 ?_
      try simp only [opD,Act.put,sA,sB,sC]
      refine tkN 25 ?_
      try simp only [opD,Act.put,sA,sB,sC]
      refine tkN 26 ?_
      try simp only [opD,Act.put,sA,sB,sC]
      refine tkN 27 ?_
      try simp only [opD,Act.put,sA,sB,sC]
      refine tkN 28 ?_
      try simp only [opD,Act.put,sA,sB,sC]
      refine tkN 29 ?_
      try simp only [opD,Act.put,sA,sB,sC]
      refine tkN 30 ?_
      try simp only [opD,Act.put,sA,sB,sC]
      refine tkN 31 ?_
      try simp only [opD,Act.put,sA,sB,sC]
      refine tkN 32 ?_
      try simp only [opD,Act.put,sA,sB,sC]
      refine tkN 33 ?_
      try simp only [opD,Act.put,sA,sB,sC]
      refine tkH 34 ?_
      try simp only [opD,Act.put,sA,sB,sC]
      refine wpAnyH_done (by kernel_rfl) ?_ _
      go_wp2_with fail
      go_meet
      case rel => exact ⟨5,tx,f+1,(by first | exact R1.out | exact R1.out.drew | exact R1.out.drew.drew | exact R1.out.drew.drew.drew | exact R1.out.drew.drew.drew.drew | exact R1.out.drew.drew.drew.drew.drew),by rw [← HTX.out];exact HONE⟩
     obtain ⟨m,hm⟩:∃ m,l.length=m+1:=⟨l.length - 1,by omega⟩
     obtain ⟨A',cp',he,_,_,_,hx2⟩:=own_open R2.out.own
     obtain ⟨g,cur,hA',hgX,hh,hcell⟩:=hx2 hn0
     injection he with he1 _ he3
     subst he1;subst he3
     subst hA'
     have hlm:m < l.length:=by omega
     have hc0:V.cell? ⟨g,m*4,none⟩=some (.int .i64 (l[m]'hlm).k):=by
      rw [Nat.mul_comm m 4,cell_of_row V g (4*m) _ _ _ hh,hcell (4*m) (by omega)]
      simpa [Tk.cells] using tkCells_at l m hlm 0 (by omega)
     have hc3:V.cell? ⟨g,m*4+3,none⟩=some (.int .i64 ((l[m]'hlm).b:Int)):=by
      rw [Nat.mul_comm m 4,cell_of_row V g (4*m+3) _ _ _ hh,hcell (4*m+3) (by omega)]
      simpa [Tk.cells] using tkCells_at l m hlm 3 (by omega)
     have hgw:=heap_lt hh
     have hwm2:IntKind.i64.wrap (m:Int)=(m:Int):=by rw [IntKind.wrap_i64];omega
     have hm0:(0:Int)≤(m:Int):=by omega
     have hng:(l.length:Int) > 0:=by omega
     have hsub:(l.length:Int) - 1=(m:Int):=by omega
     have hmlt:(m:Int) < (l.length:Int):=by omega
     have hwm:IntKind.i64.wrap ((l.length:Int) - 1)=(m:Int):=by rw [IntKind.wrap_i64];omega
     have HO:=Lib.hid (show l.getLast? =some (l[m]'hlm) by rw [List.getLast?_eq_getElem?,hm];exact List.getElem?_eq_getElem hlm)
     clear hm hh hcell hx2
     cases hk1:((l[m]'hlm).k == 1)
     case false =>
      have HOP:=Lib.hid (show opens l.getLast? f=false by rw [HO.out];show ((l[m]'hlm).k == 1 && (l[m]'hlm).b == f)=false;rw [hk1];rfl)
      have HONE:=Lib.hid (HEX.out 5 (by unfold headN;rw [h46,hsm,hgr,hdi,hsi,h33,h59,h39,hmk,h40,HOP.out];rfl))
      refine wp_region_held_drew (S:=fun w1 => w1.cell? ⟨T,1,none⟩=some (.string tx)∧w1.cell? ⟨X,1,none⟩=some (.int .i64 (f:Int))∧w1.cell? ⟨X,2,none⟩=some (.slice (some ⟨g,0,none⟩) l.length cp)∧w1.cell? ⟨g,m*4,none⟩=some (.int .i64 (l[m]'hlm).k)∧w1.cell? ⟨g,m*4+3,none⟩=some (.int .i64 ((l[m]'hlm).b:Int))) (by kernel_rfl) ?Sm3 (fun hH0 => ?Bm3)
      case Sm3 => (exact ⟨t1,y1,y2,hc0,hc3⟩)
      refine tkH 0 ?_
      try simp only [opD,Act.put,sA,sB,sC]
      refine tkH 1 ?_
      try simp only [opD,Act.put,sA,sB,sC]
      refine tkH 2 (v:=(Value.bool true)) ?_ (hy:=?hym32)
      case hym32 => (intro w hSw;(try dsimp only at hSw);simp only [opD];go_simp;try exact hbu)
      try simp only [Act.put,sA,sB,sC]
      refine tkH 3 ?_
      try simp only [opD,Act.put,sA,sB,sC]
      refine tkH 4 ?_
      try simp only [opD,Act.put,sA,sB,sC]
      refine tkH 5 ?_
      try simp only [opD,Act.put,sA,sB,sC]
      refine tkH 6 ?_
      try simp only [opD,Act.put,sA,sB,sC]
      refine tkH 7 ?_
      try simp only [opD,Act.put,sA,sB,sC]
      refine tkH 8 ?_
      try simp only [opD,Act.put,sA,sB,sC]
      refine tkH 9 ?_
      try simp only [opD,Act.put,sA,sB,sC]
      refine tkH 10 ?_
      try simp only [opD,Act.put,sA,sB,sC]
      refine tkH 11 ?_
      try simp only [opD,Act.put,sA,sB,sC]
      refine tkH 12 ?_
      try simp only [opD,Act.put,sA,sB,sC]
      refine tkH 13 ?_
      try simp only [opD,Act.put,sA,sB,sC]
      refine tkH 14 ?_
      try simp only [opD,Act.put,sA,sB,sC]
      refine tkH 15 ?_
      try simp only [opD,Act.put,sA,sB,sC]
      refine tkH 16 ?_
      try simp only [opD,Act.put,sA,sB,sC]
      refine tkH 17 ?_
      try simp only [opD,Act.put,sA,sB,sC]
      refine tkH 18 ?_
      try simp only [opD,Act.put,sA,sB,sC]
      refine tkH 19 ?_
      try simp only [opD,Act.put,sA,sB,sC]
      refine tkN 20 ?_
      try simp only [opD,Act.put,sA,sB,sC]
      refine tkN 21 ?_
      try simp only [opD,Act.put,sA,sB,sC]
      refine tkN 22 ?_
      try simp only [opD,Act.put,sA,sB,sC]
      refine tkN 23 ?_
      try simp only [opD,Act.put,sA,sB,sC]
      refine tkN 24 ?_
      try simp only [opD,Act.put,sA,sB,sC]
      refine tkN 25 ?_
      try simp only [opD,Act.put,sA,sB,sC]
      refine tkN 26 ?_
      try simp only [opD,Act.put,sA,sB,sC]
      refine tkN 27 ?_
      try simp only [opD,Act.put,sA,sB,sC]
      refine tkN 28 ?_
      try simp only [opD,Act.put,sA,sB,sC]
      refine tkN 29 ?_
      try simp only [opD,Act.put,sA,sB,sC]
      refine tkN 30 ?_
      try simp only [opD,Act.put,sA,sB,sC]
      refine tkN 31 ?_
      try simp only [opD,Act.put,sA,sB,sC]
      refine tkN 32 ?_
      try simp only [opD,Act.put,sA,sB,sC]
      refine tkN 33 ?_
      try simp only [opD,Act.put,sA,sB,sC]
      refine tkH 34 ?_
      try simp only [opD,Act.put,sA,sB,sC]
      refine wpAnyH_done (by kernel_rfl) ?_ _
      go_wp2_with fail
      go_meet
      case rel => exact ⟨5,tx,f+1,(by first | exact R1.out | exact R1.out.drew | exact R1.out.drew.drew | exact R1.out.drew.drew.drew | exact R1.out.drew.drew.drew.drew | exact R1.out.drew.drew.drew.drew.drew),by rw [← HTX.out];exact HONE⟩
     by_cases hbf:(l[m]'hlm).b=f
     ·have hbf':(((l[m]'hlm).b:Int) == (f:Int))=true:=by rw [hbf,beq_self_eq_true]
      have HOP:=Lib.hid (show opens l.getLast? f=true by rw [HO.out];show ((l[m]'hlm).k == 1 && (l[m]'hlm).b == f)=true;rw [hk1,hbf,beq_self_eq_true];rfl)
      clear hbf
      have r1:=(R2.out.k 4).at_ (f+1)
      rw [hcast] at r1
      have R1:=Lib.hid r1
      clear r1
      have HONE:=Lib.hid (HEX.out 4 (by unfold headN;rw [h46,hsm,hgr,hdi,hsi,h33,h59,h39,hmk,h40,HOP.out];rfl))
      refine wp_region_held_drew (S:=fun w1 => w1.cell? ⟨T,1,none⟩=some (.string tx)∧w1.cell? ⟨X,1,none⟩=some (.int .i64 (f:Int))∧w1.cell? ⟨X,2,none⟩=some (.slice (some ⟨g,0,none⟩) l.length cp)∧w1.cell? ⟨g,m*4,none⟩=some (.int .i64 (l[m]'hlm).k)∧w1.cell? ⟨g,m*4+3,none⟩=some (.int .i64 ((l[m]'hlm).b:Int))) (by kernel_rfl) ?Sm4 (fun hH0 => ?Bm4)
      case Sm4 => (exact ⟨t1,y1,y2,hc0,hc3⟩)
      refine tkH 0 ?_
      try simp only [opD,Act.put,sA,sB,sC]
      refine tkH 1 ?_
      try simp only [opD,Act.put,sA,sB,sC]
      refine tkH 2 (v:=(Value.bool true)) ?_ (hy:=?hym42)
      case hym42 => (intro w hSw;(try dsimp only at hSw);simp only [opD];go_simp;try exact hbu)
      try simp only [Act.put,sA,sB,sC]
      refine tkH 3 ?_
      try simp only [opD,Act.put,sA,sB,sC]
      refine tkH 4 ?_
      try simp only [opD,Act.put,sA,sB,sC]
      refine tkH 5 ?_
      try simp only [opD,Act.put,sA,sB,sC]
      refine tkH 6 ?_
      try simp only [opD,Act.put,sA,sB,sC]
      refine tkH 7 ?_
      try simp only [opD,Act.put,sA,sB,sC]
      refine tkH 8 ?_
      try simp only [opD,Act.put,sA,sB,sC]
      refine tkH 9 ?_
      try simp only [opD,Act.put,sA,sB,sC]
      refine tkH 10 ?_
      try simp only [opD,Act.put,sA,sB,sC]
      refine tkH 11 ?_
      try simp only [opD,Act.put,sA,sB,sC]
      refine tkH 12 ?_
      try simp only [opD,Act.put,sA,sB,sC]
      refine tkH 13 ?_
      try simp only [opD,Act.put,sA,sB,sC]
      refine tkH 14 ?_
      try simp only [opD,Act.put,sA,sB,sC]
      refine tkH 15 ?_
      try simp only [opD,Act.put,sA,sB,sC]
      refine tkH 16 ?_
      try simp only [opD,Act.put,sA,sB,sC]
      refine tkH 17 ?_
      try simp only [opD,Act.put,sA,sB,sC]
      refine tkH 18 ?_
      try simp only [opD,Act.put,sA,sB,sC]
      refine tkH 19 ?_
      try simp only [opD,Act.put,sA,sB,sC]
      refine tkH 20 ?_
      try simp only [opD,Act.put,sA,sB,sC]
      refine tkH 21 ?_
      try simp only [opD,Act.put,sA,sB,sC]
      refine tkH 22 ?_
      try simp only [opD,Act.put,sA,sB,sC]
      refine tkH 23 ?_
      try simp only [opD,Act.put,sA,sB,sC]
      refine tkH 24 ?_
      try simp only [opD,Act.put,sA,sB,sC]
      refine tkH 25 ?_
      try simp only [opD,Act.put,sA,sB,sC]
      refine tkH 26 ?_
      try simp only [opD,Act.put,sA,sB,sC]
      refine tkH 27 ?_
      try simp only [opD,Act.put,sA,sB,sC]
      refine tkH 28 ?_
      try simp only [opD,Act.put,sA,sB,sC]
      refine tkH 29 ?_
      try simp only [opD,Act.put,sA,sB,sC]
      refine tkH 30 ?_
      try simp only [opD,Act.put,sA,sB,sC]
      refine tkH 31 ?_
      try simp only [opD,Act.put,sA,sB,sC]
      refine tkH 32 ?_
      try simp only [opD,Act.put,sA,sB,sC]
      refine tkH 33 ?_
      try simp only [opD,Act.put,sA,sB,sC]
      refine tkH 34 ?_
      try simp only [opD,Act.put,sA,sB,sC]
      refine wpAnyH_done (by kernel_rfl) ?_ _
      go_wp2_with fail
      go_meet
      case rel => exact ⟨4,tx,f+1,(by first | exact R1.out | exact R1.out.drew | exact R1.out.drew.drew | exact R1.out.drew.drew.drew | exact R1.out.drew.drew.drew.drew | exact R1.out.drew.drew.drew.drew.drew),by rw [← HTX.out];exact HONE⟩
     have hbf':(((l[m]'hlm).b:Int) == (f:Int))=false:=beq_eq_false_iff_ne.mpr fun h => hbf (by omega)
     have HOP:=Lib.hid (show opens l.getLast? f=false by rw [HO.out];show ((l[m]'hlm).k == 1 && (l[m]'hlm).b == f)=false;rw [hk1,beq_eq_false_iff_ne.mpr hbf];rfl)
     clear hbf
     have HONE:=Lib.hid (HEX.out 5 (by unfold headN;rw [h46,hsm,hgr,hdi,hsi,h33,h59,h39,hmk,h40,HOP.out];rfl))
     refine wp_region_held_drew (S:=fun w1 => w1.cell? ⟨T,1,none⟩=some (.string tx)∧w1.cell? ⟨X,1,none⟩=some (.int .i64 (f:Int))∧w1.cell? ⟨X,2,none⟩=some (.slice (some ⟨g,0,none⟩) l.length cp)∧w1.cell? ⟨g,m*4,none⟩=some (.int .i64 (l[m]'hlm).k)∧w1.cell? ⟨g,m*4+3,none⟩=some (.int .i64 ((l[m]'hlm).b:Int))) (by kernel_rfl) ?Sm5 (fun hH0 => ?Bm5)
     case Sm5 => (exact ⟨t1,y1,y2,hc0,hc3⟩)
     refine tkH 0 ?_
     try simp only [opD,Act.put,sA,sB,sC]
     refine tkH 1 ?_
     try simp only [opD,Act.put,sA,sB,sC]
     refine tkH 2 (v:=(Value.bool true)) ?_ (hy:=?hym52)
     case hym52 => (intro w hSw;(try dsimp only at hSw);simp only [opD];go_simp;try exact hbu)
     try simp only [Act.put,sA,sB,sC]
     refine tkH 3 ?_
     try simp only [opD,Act.put,sA,sB,sC]
     refine tkH 4 ?_
     try simp only [opD,Act.put,sA,sB,sC]
     refine tkH 5 ?_
     try simp only [opD,Act.put,sA,sB,sC]
     refine tkH 6 ?_
     try simp only [opD,Act.put,sA,sB,sC]
     refine tkH 7 ?_
     try simp only [opD,Act.put,sA,sB,sC]
     refine tkH 8 ?_
     try simp only [opD,Act.put,sA,sB,sC]
     refine tkH 9 ?_
     try simp only [opD,Act.put,sA,sB,sC]
     refine tkH 10 ?_
     try simp only [opD,Act.put,sA,sB,sC]
     refine tkH 11 ?_
     try simp only [opD,Act.put,sA,sB,sC]
     refine tkH 12 ?_
     try simp only [opD,Act.put,sA,sB,sC]
     refine tkH 13 ?_
     try simp only [opD,Act.put,sA,sB,sC]
     refine tkH 14 ?_
     try simp only [opD,Act.put,sA,sB,sC]
     refine tkH 15 ?_
     try simp only [opD,Act.put,sA,sB,sC]
     refine tkH 16 ?_
     try simp only [opD,Act.put,sA,sB,sC]
     refine tkH 17 ?_
     try simp only [opD,Act.put,sA,sB,sC]
     refine tkH 18 ?_
     try simp only [opD,Act.put,sA,sB,sC]
     refine tkH 19 ?_
     try simp only [opD,Act.put,sA,sB,sC]
     refine tkH 20 ?_
     try simp only [opD,Act.put,sA,sB,sC]
     refine tkH 21 ?_
     try simp only [opD,Act.put,sA,sB,sC]
     refine tkH 22 ?_
     try simp only [opD,Act.put,sA,sB,sC]
     refine tkH 23 ?_
     try simp only [opD,Act.put,sA,sB,sC]
     refine tkH 24 ?_
     try simp only [opD,Act.put,sA,sB,sC]
     refine tkH 25 ?_
     try simp only [opD,Act.put,sA,sB,sC]
     refine tkH 26 ?_
     try simp only [opD,Act.put,sA,sB,sC]
     refine tkH 27 ?_
     try simp only [opD,Act.put,sA,sB,sC]
     refine tkH 28 ?_
     try simp only [opD,Act.put,sA,sB,sC]
     refine tkH 29 ?_
     try simp only [opD,Act.put,sA,sB,sC]
     refine tkH 30 ?_
     try simp only [opD,Act.put,sA,sB,sC]
     refine tkH 31 ?_
     try simp only [opD,Act.put,sA,sB,sC]
     refine tkH 32 ?_
     try simp only [opD,Act.put,sA,sB,sC]
     refine tkH 33 ?_
     try simp only [opD,Act.put,sA,sB,sC]
     refine tkH 34 ?_
     try simp only [opD,Act.put,sA,sB,sC]
     refine wpAnyH_done (by kernel_rfl) ?_ _
     go_wp2_with fail
     go_meet
     case rel => exact ⟨5,tx,f+1,(by first | exact R1.out | exact R1.out.drew | exact R1.out.drew.drew | exact R1.out.drew.drew.drew | exact R1.out.drew.drew.drew.drew | exact R1.out.drew.drew.drew.drew.drew),by rw [← HTX.out];exact HONE⟩
  case rest =>
   obtain ⟨K,tx,j,hst,hone⟩:=hcut
   have HBW:=Lib.hid (BW.out.mono (Nat.le_of_lt hX))
   clear S0 SW OW TB0 BW HS HO HXO HFAR HNB HCV HHQ HLB
   obtain ⟨y0,y1,y2,yf⟩:=hst.sc.cells
   obtain ⟨t0,t1,t2,t3⟩:=box4t hst.tb
   have hXl:=hst.sc.lt
   have hTl:=heap_lt hst.tb
   have hXT:X≠T:=by omega
   have tf:∀ i,wc.frozen? ⟨T,i,none⟩=false:=fun i => by simp [World.frozen?,hst.tb]
   have hTk:∀ g,g≠T→(wc.setCell ⟨T,3,none⟩ (.int .i64 (j:Int))).heap[g]? =wc.heap[g]?:=fun g hg => Below.heap_setCell _ _ _ _ hg
   obtain ⟨V,hV⟩:∃ V,V=wc.setCell ⟨T,3,none⟩ (.int .i64 (j:Int)):=⟨_,rfl⟩
   have TV:=Lib.hid (show V.heap[T]? =some (.cells #[.int .i64 K,.string tx,.int .i64 (f:Int),.int .i64 (j:Int)] 116 (0,0)) by rw [hV];simpa using blk_set hst.tb 3 (.int .i64 (j:Int)))
   have SV:=Lib.hid (show Sc V X s j (.slice A l.length cp) from by rw [hV];exact (hTk X hXT).trans hst.sc)
   have OV:=Lib.hid (show V.ownsRow X 116 4 (.slice A l.length cp) l.length (tkCells l) by rw [hV];exact own_keep hst.own fun g hg => hTk g (by have:=hst.far g hg;omega))
   have BV:=Lib.hid (show Below X W V by rw [hV];exact hst.low.setCell (p:=⟨T,3,none⟩) (by show X≤T;omega) _)
   obtain ⟨item,ii1,ii2,ii3,ii4⟩:=elTok.hi
   clear hst hTk
   go_wp2_with fail
   rw [← hV]
   clear hV y0 y1 y2 yf t0 t1 t2 t3 tf hXl hTl
   obtain ⟨y0,y1,y2,yf⟩:=SV.out.cells
   obtain ⟨t0,t1,t2,t3⟩:=box4t TV.out
   have hXl:=SV.out.lt
   have hTl:=heap_lt TV.out
   go_region_law (refine step_append_lies _ rfl _ _ _ rfl X 116 item (.agg #[.int .i64 0,.string ⟨#[]⟩,.int .i64 0,.int .i64 0]) 4 40 Tryz.underlying97 ii1 ii2 ii3 ii4 rfl (by omega) _ l.length _ rfl (own_below OV.out (by first | exact ((Below.refl _ _).drew).alloc (Nat.le_refl _) _ | exact ((Below.refl _ _).alloc (Nat.le_refl _) _).drew | exact (Below.refl _ _).alloc (Nat.le_refl _) _)) ⟨V.heap.size,0,none⟩ 1 1 [.int .i64 K,.string tx,.int .i64 (f:Int),.int .i64 (j:Int)] rfl rfl (World.news_of_block (heap_alloc_new _ _)) (one4 ⟨K,tx,f,j⟩) (by omega) (by unfold maxLen;omega) (by omega) (by simp;omega) _ rfl ?_;intro g1 cap1 w10 hown1 hg1 hat1 hlt1;have Z10:=keepSc (((by first | exact ((Below.refl _ _).drew).alloc (Nat.le_refl _) _ | exact ((Below.refl _ _).alloc (Nat.le_refl _) _).drew | exact (Below.refl _ _).alloc (Nat.le_refl _) _):Below V.heap.size V _).block _ hXl |>.trans SV.out) (own_below OV.out (by first | exact ((Below.refl _ _).drew).alloc (Nat.le_refl _) _ | exact ((Below.refl _ _).alloc (Nat.le_refl _) _).drew | exact (Below.refl _ _).alloc (Nat.le_refl _) _)) hg1;have z2:=cell_of_row w10 X 2 _ _ _ Z10;have zl:=heap_lt Z10;have zf:=unfrozenT Z10)
   all_goals
    have FB:=Lib.hid ((BV.out.trans (((by first | exact ((Below.refl _ _).drew).alloc (Nat.le_refl _) _ | exact ((Below.refl _ _).alloc (Nat.le_refl _) _).drew | exact (Below.refl _ _).alloc (Nat.le_refl _) _):Below V.heap.size V _).mono (Nat.le_of_lt hXl))).grown hg1 (by simp;omega) (fun k hk => (OV.out.lt k hk).1))
    have FS:=Lib.hid (scStore Z10 hown1)
    have HON:=Lib.hid hone
    clear hown1 hg1 hat1 hlt1 Z10 y0 y1 y2 yf t0 t1 t2 t3
    go_wp2_with fail
    go_end0
    rw [HON.out.out]
    have h:=FB.out.setCell (p:=⟨X,2,none⟩) (Nat.le_refl _) (.slice (some ⟨g1,0,none⟩) (l.length+1) cap1)
    exact ⟨⟨rfl,_,FS.out.1,by rw [← tkCells_snoc];exact FS.out.2⟩,HBW.out.trans h⟩
end Go.Proofs.YtdgpmpccfjmmcaaGreatDoor
