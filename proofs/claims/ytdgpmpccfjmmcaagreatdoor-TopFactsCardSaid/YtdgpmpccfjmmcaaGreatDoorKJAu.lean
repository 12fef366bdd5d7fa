/- strings.Builder:what its writing methods do (the shelf's contracts are not laid where the dump has left out copyCheck's panic:walked anew,over the shelf's own words). The program's lexer:a byte's class;what 'while' takes. The program's lexer:the scanner in memory;'while'. The program's lexer: 'skip'. -/
import Derived.Test.YtdgpmpccfjmmcaaGreatDoorKShelf
import Derived.Test.YtdgpmpccfjmmcaaGreatDoorKJAa
import Derived.Lib.Builder
import Derived.Lib.AppendStr
import Derived.Lib.UnsafeStr
import Derived.WalkKit
import Derived.Laws.Externs
import Derived.Lib.Hide
import Derived.Deep.RegionLaw
import Derived.WalkMore
import Derived.Deep.LoopGhost
import Derived.Deep.RegionHeld3
import Derived.WalkLawsBesides
set_option linter.unusedVariables false
set_option linter.unusedSimpArgs false
namespace Go.Proofs.YtdgpmpccfjmmcaaGreatDoor
open Go.RowKit
abbrev TB:TypeId:=186
theorem Tryz.info_bld:(Tryz.prog.info? TB).map (fun i => i.size)=some 2:=by kernel_rfl
theorem lies_bld:liesAt Tryz.prog Tryz.prog.depth TB (2 / Tryz.prog.cellsOf TB) 0 TB 1=true:=by kernel_rfl
theorem Tryz.info_byte:(Tryz.prog.info? 5).map (fun i => (i.zero,i.size,i.bytes))=some (some (.int .u8 0),1,1):=by kernel_rfl
set_option maxHeartbeats 1000000 in
set_option maxRecDepth 100000 in
theorem check_used (b:Nat) (w:World) (h0:w.cell? ⟨b,0,none⟩=some (.pointer (some ⟨b,0,none⟩))) :
 Calls Tryz.prog 145 #[.pointer (some ⟨b,0,none⟩)] w fun e w' => e=.returned (.tuple #[])∧w'=w:=by
 obtain ⟨j,hj,_⟩:=Option.map_eq_some_iff.1 Tryz.info_bld
 go_enter Tryz.func145,Tryz.ntmps145
 go_wp2
 rw [Lib.run_neq_ptr_same w _ Tryz.underlying183 hj]
 go_wp2
 go_end0
 exact ⟨rfl,rfl⟩
set_option maxHeartbeats 1000000 in
set_option maxRecDepth 100000 in
theorem check_fresh (b:Nat) (w:World) (h0:w.cell? ⟨b,0,none⟩=some (.pointer none)) (hsh:w.shape? b=some (TB,2)) (hfz:w.frozen? ⟨b,0,none⟩=false) :
 Calls Tryz.prog 145 #[.pointer (some ⟨b,0,none⟩)] w fun e w' => e=.returned (.tuple #[])∧w'=w.setCell ⟨b,0,none⟩ (.pointer (some ⟨b,0,none⟩)):=by
 obtain ⟨j,hj,hjs⟩:=Option.map_eq_some_iff.1 Tryz.info_bld
 go_enter Tryz.func145,Tryz.ntmps145
 go_wp2
 rw [Lib.run_to_unsafe w ⟨b,0,none⟩ Tryz.underlying183 Tryz.underlying301 hj (by rw [hjs];decide) hsh (Nat.zero_lt_succ 1)]
 simp only [Result.andThen]
 rw [Oper.upon_value]
 go_wp2
 rw [run_callFunc_extern Tryz.func222 (by kernel_rfl) (by kernel_rfl) (by kernel_rfl) (e:=Extern.AbiNoEscape.same) (by kernel_rfl)]
 rw [Lib.run_noEscape]
 simp only [Result.andThen]
 rw [Oper.upon_value]
 go_wp2
 rw [Lib.run_from_unsafe w ⟨b,0,none⟩ Tryz.underlying301 Tryz.underlying183 hj hsh lies_bld]
 simp only [Result.andThen]
 rw [Oper.upon_value]
 go_wp2
 go_end0
 exact ⟨rfl,rfl⟩
theorem check_any (B b:Nat) (bs:List Value) (w:World) (h:Lib.IsBuilder TB 5 B b bs w) :
 Calls Tryz.prog 145 #[.pointer (some ⟨b,0,none⟩)] w fun e w' => e=.returned (.tuple #[])∧(Lib.BuilderAt TB 5 B b (.pointer (some ⟨b,0,none⟩)) bs w'∧Below B w w'):=by
 rcases h with h | h
 ·refine (check_fresh b w h.cell0 h.shape h.frozen0).mono ?_
  rintro e w' ⟨rfl,rfl⟩
  exact ⟨rfl,h.used _,(Below.refl B w).setCell (p:=⟨b,0,none⟩) h.1 _⟩
 ·refine (check_used b w h.cell0).mono ?_
  rintro e w' ⟨rfl,rfl⟩
  exact ⟨rfl,h,Below.refl B _⟩
theorem bld_lt {w:World} {b:Nat} {cs:Array Value} {T:TypeId} {f:Nat × Nat} (h:w.heap[b]? =some (.cells cs T f)):b < w.heap.size:=by
 rcases Nat.lt_or_ge b w.heap.size with h' | h'
 ·exact h'
 ·rw [Array.getElem?_eq_none h'] at h;cases h
set_option maxHeartbeats 2000000 in
set_option maxRecDepth 100000 in
theorem wbyte_any (B b:Nat) (bs:List Value) (c:Int) (w:World) (h:Lib.IsBuilder TB 5 B b bs w) (hlen:bs.length+1≤140737488355328) (hBw:B≤w.heap.size) :
 Calls Tryz.prog 157 #[.pointer (some ⟨b,0,none⟩),.int .u8 c] w fun e w' => e=.returned .nilIface∧(Lib.IsBuilder TB 5 B b (bs++[.int .u8 c]) w'∧Below B w w'):=by
 obtain ⟨i0,hi,hz0,hz1,hz2⟩:=info_parts Tryz.info_byte
 go_enter Tryz.func157,Tryz.ntmps157
 go_wp2_with (go_at_call 145;refine (check_any B b bs _ h).mono ?_)
 rintro e w1 ⟨rfl,h1,hb1⟩
 obtain ⟨hB,v,hbk,hown,hne⟩:=h1
 have c0:w1.cell? ⟨b,0,none⟩=some (.pointer (some ⟨b,0,none⟩)):=by rw [Lib.cell_of_heap hbk];rfl
 have c1:w1.cell? ⟨b,1,none⟩=some v:=by rw [Lib.cell_of_heap hbk];rfl
 go_wp2_with (at_builtin;refine wpList_append_own _ rfl _ _ 184 rfl B 5 i0 (.int .u8 0) 1 1 Tryz.underlying184 hi hz0 hz1 hz2 rfl (by decide) _ _ _ rfl (hown.alloc _) ⟨w1.heap.size,0,none⟩ 1 1 [.int .u8 c] rfl rfl ?c1 ?c2 ?c3 ?c4 ?c5 ?_)
 case c1 =>
  intro j u hj
  match j,hj with
  | 0,hj => simp at hj;subst hj;simp [Addr.add]
 case c2 => intro u hu;simp at hu;subst hu;rfl
 case c3 => unfold maxLen;omega
 case c4 => omega
 case c5 => have:=hb1.size;simp;omega
 intro v' w2 hown' hgrow _
 have hlt:=bld_lt hbk
 have hb2:w2.heap[b]? =some (.cells #[.pointer (some ⟨b,0,none⟩),v] TB (0,0)):=by
  rw [hgrow.block b (by simp;omega) (fun e => hne e.symm),Below.heap_alloc _ _ _ hlt]
  exact hbk
 have d0:w2.cell? ⟨b,0,none⟩=some (.pointer (some ⟨b,0,none⟩)):=by rw [Lib.cell_of_heap hb2];rfl
 have d1:w2.cell? ⟨b,1,none⟩=some v:=by rw [Lib.cell_of_heap hb2];rfl
 have f1:w2.frozen? ⟨b,1,none⟩=false:=Lib.frozen_of_heap hb2 1
 obtain ⟨g,cap,rfl⟩:∃ g cap,v'=.slice (some ⟨g,0,none⟩) (bs.length+1) cap:=by
  rcases hown'.2 with ⟨_,h0⟩ | ⟨g,cap,cur,hv,_⟩
  ·omega
  ·exact ⟨g,cap,hv⟩
 go_wp2
 go_ret
 refine ⟨rfl,.inr ?_,?_⟩
 ·exact Lib.BuilderAt.put (T:=TB) (e:=5) hB hb2 (bs':=bs++[.int .u8 c]) (by simpa using hown') (by decide)
 ·exact ((hb1.alloc (by have:=hb1.size;omega) _).grown hgrow (by have:=hb1.size;simp;omega) (fun k hk => (hown.lt k hk).1)).setCell (p:=⟨b,1,none⟩) hB _
theorem bld_new (w:World):Lib.IsBuilder TB 5 w.heap.size w.heap.size [] (w.alloc (.cells #[.pointer none,.slice none 0 0] TB)):=
 .inl ⟨Nat.le_refl _,.slice none 0 0,heap_alloc_new _ _,World.ownsRow_nil _ _ _ _,by simp [Value.ownBlock]⟩
end Go.Proofs.YtdgpmpccfjmmcaaGreatDoor
namespace Go.Proofs.YtdgpmpccfjmmcaaGreatDoor
open Go.RowKit
def ofN (c:Int):Int:=
 if smallB c then 1 else if greatB c then 2 else if digitB c then 3 else if signB c then 4 else if blankB c then 5 else if c == 33 || c == 59 then 6 else if markB c then 7 else if c == 39 then 8 else 0
theorem idx_sign:∀ n:Nat,n < 256→decide (0≤Lib.indexByte [43,45,42,47,92,94,60,62,61,58,46,63,64,35,36,38,126] (n:Int).toNat.toUInt8)=signB (n:Int):=by decide+kernel
theorem idx_mark:∀ n:Nat,n < 256→decide (0≤Lib.indexByte [40,41,91,93,123,125,44,124] (n:Int).toNat.toUInt8)=markB (n:Int):=by decide+kernel
set_option maxRecDepth 100000 in
set_option maxHeartbeats 4000000 in
theorem of_any (n:Nat) (hn:n < 256) (w:World):Calls Tryz.prog 105 #[.int .u8 (n:Int)] w fun e w' => e=.returned (.int .i64 (ofN n))∧w'=w:=by
 have hs:=idx_sign n hn
 have hm:=idx_mark n hn
 obtain ⟨vs,hvs⟩:∃ v,Lib.indexByte [43,45,42,47,92,94,60,62,61,58,46,63,64,35,36,38,126] (n:Int).toNat.toUInt8=v:=⟨_,rfl⟩
 obtain ⟨vm,hvm⟩:∃ v,Lib.indexByte [40,41,91,93,123,125,44,124] (n:Int).toNat.toUInt8=v:=⟨_,rfl⟩
 rw [hvs] at hs
 rw [hvm] at hm
 obtain ⟨c,hc⟩:∃ c:Int,c=(n:Int):=⟨_,rfl⟩
 rw [← hc] at hs hm ⊢
 have CS:=Lib.hid (Tryz.strings_IndexByte ⟨#[43,45,42,47,92,94,60,62,61,58,46,63,64,35,36,38,126]⟩ c w)
 have CM:=Lib.hid (Tryz.strings_IndexByte ⟨#[40,41,91,93,123,125,44,124]⟩ c w)
 have h1:Lib.indexByte (⟨#[43,45,42,47,92,94,60,62,61,58,46,63,64,35,36,38,126]⟩:ByteArray).data.toList c.toNat.toUInt8=vs:=by rw [hc];exact hvs
 have h2:Lib.indexByte (⟨#[40,41,91,93,123,125,44,124]⟩:ByteArray).data.toList c.toNat.toUInt8=vm:=by rw [hc];exact hvm
 rw [h1] at CS
 rw [h2] at CM
 clear h1 h2 hvs hvm hc
 have HS:=Lib.hid hs
 have HM:=Lib.hid hm
 clear hs hm
 go_enter Tryz.func105,Tryz.ntmps105
 go_wp2_with (first | (refine CS.out.mono ?_;rintro e w1 ⟨rfl,rfl⟩) | (refine CM.out.mono ?_;rintro e w1 ⟨rfl,rfl⟩))
 all_goals
  go_ret
  refine ⟨?_,rfl⟩
  refine congrArg (fun x => Ending.returned (Value.int .i64 x)) ?_
  have hs:=HS.out.symm
  have hm:=HM.out.symm
  unfold ofN
  rw [hs,hm]
  clear HS HM CS CM hs hm
  simp only [beq_iff_eq,beq_eq_false_iff_ne,ne_eq] at*
  simp only [smallB,greatB,digitB,blankB,Bool.and_eq_true,Bool.or_eq_true,decide_eq_true_eq,beq_iff_eq]
  repeat' split
  all_goals first | rfl | (exfalso;omega)
end Go.Proofs.YtdgpmpccfjmmcaaGreatDoor
namespace Go.Proofs.YtdgpmpccfjmmcaaGreatDoor
open Go.RowKit
def Sc (w:World) (X:Nat) (s:ByteArray) (k:Nat) (v:Value):Prop:=w.heap[X]? =some (.cells #[.string s,.int .i64 (k:Int),v] 161 (0,0))
structure OnX (X:Nat) (w w':World):Prop where
 low:Below X w w'
 far:∀ b,b < w.heap.size→b≠X→w'.heap[b]? =w.heap[b]?
theorem OnX.refl (X:Nat) (w:World):OnX X w w:=⟨Below.refl _ _,fun _ _ _ => rfl⟩
theorem OnX.trans {X:Nat} {a b c:World} (h:OnX X a b) (k:OnX X b c):OnX X a c:=⟨h.low.trans k.low,fun g hg hx => (k.far g (Nat.lt_of_lt_of_le hg h.low.size) hx).trans (h.far g hg hx)⟩
theorem OnX.drew {X:Nat} {a b:World} (h:OnX X a b):OnX X a b.drew:=⟨h.low.drew,h.far⟩
theorem OnX.below {X:Nat} {a b:World} (hX:X < a.heap.size) (h:Below a.heap.size a b):OnX X a b:=⟨h.mono (Nat.le_of_lt hX),fun g hg _ => h.block g hg⟩
theorem OnX.cell {X:Nat} {a b:World} (h:OnX X a b) {p:Addr} {u:Value} (hp:p.block≠X) (hc:a.cell? p=some u):b.cell? p=some u:=by
 have hl:=World.block_lt_of_cell? a p hc
 rw [World.cell?_of_block (h.far _ hl hp)]
 exact hc
theorem Sc.lt {w:World} {X:Nat} {s:ByteArray} {k:Nat} {v:Value} (h:Sc w X s k v):X < w.heap.size:=heap_lt h
theorem Sc.cells {w:World} {X:Nat} {s:ByteArray} {k:Nat} {v:Value} (h:Sc w X s k v):w.cell? ⟨X,0,none⟩=some (.string s)∧w.cell? ⟨X,1,none⟩=some (.int .i64 (k:Int))∧w.cell? ⟨X,2,none⟩=some v∧(∀ i,w.frozen? ⟨X,i,none⟩=false):=
 ⟨cell_of_row w X 0 _ _ _ h,cell_of_row w X 1 _ _ _ h,cell_of_row w X 2 _ _ _ h,fun i => by simp [World.frozen?,show w.heap[X]? =_ from h]⟩
theorem Sc.at_ {w:World} {X:Nat} {s:ByteArray} {k:Nat} {v:Value} (h:Sc w X s k v) (j:Nat):Sc (w.setCell ⟨X,1,none⟩ (.int .i64 (j:Int))) X s j v∧OnX X w (w.setCell ⟨X,1,none⟩ (.int .i64 (j:Int))):=
 ⟨by simpa [Sc] using blk_set h 1 (.int .i64 (j:Int)),⟨(Below.refl _ _).setCell (p:=⟨X,1,none⟩) (Nat.le_refl _) _,fun g _ hg => Below.heap_setCell _ _ _ _ hg⟩⟩
theorem Sc.drew {w:World} {X:Nat} {s:ByteArray} {k:Nat} {v:Value} (h:Sc w X s k v):Sc w.drew X s k v:=h
theorem Sc.below {w w':World} {X:Nat} {s:ByteArray} {k:Nat} {v:Value} (h:Sc w X s k v) (hb:Below w.heap.size w w'):Sc w' X s k v:=(hb.block X h.lt).trans h
def oneOf (cs:List Int) (c:Int):Bool:=cs.any fun k => c == k
set_option maxHeartbeats 8000000 in
set_option maxRecDepth 100000 in
theorem while_any (K:Int) (cs:List Int) (hcs:∀ n:Nat,n < 256→oneOf cs (ofN n)=kindB K n) (s:ByteArray) (hs:s.size≤100000) {w:World} {X b k:Nat} {v:Value} (h:Sc w X s k v) (hk:k≤s.size)
 (hbX:b≠X) (hbl:b < w.heap.size) (hm:cs.length≤10) (hc:∀ (i:Nat) (u:Int),cs[i]? =some u→w.cell? ⟨b,i,none⟩=some (.int .i64 u)) :
 Calls Tryz.prog 109 #[.pointer (some ⟨X,0,none⟩),.slice (some ⟨b,0,none⟩) cs.length cs.length] w fun e w' =>
  e=.returned (.string (s.extract k (runN K s k)))∧Sc w' X s (runN K s k) v∧OnX X w w':=by
 have hb:∀ (i:Nat) (h:i < s.size),(s[i]'h).toNat=bn s i:=bn_eq s
 obtain ⟨m,hmm⟩:∃ m,m=cs.length:=⟨_,rfl⟩
 rw [← hmm]
 have HM:=Lib.hid hmm
 have hm10:m≤10:=by omega
 have HC:=Lib.hid hc
 have HCS:=Lib.hid hcs
 have HS:=Lib.hid h
 have HBX:=Lib.hid hbX
 have hX:=h.lt
 obtain ⟨x0,x1,x2,xf⟩:=h.cells
 clear hc hcs h hmm hm hbX
 go_enter Tryz.func109,Tryz.ntmps109
 go_wp2_with fail
 go_step3
 go_wp2_with fail
 go_step3
 go_wp2_with fail
 go_loopg [] (s.size - k) (fun g wr => ∃ j,j+g=s.size∧k≤j∧runN K s k=runN K s j∧Sc wr X s j v∧OnX X w wr)
 case atStart => exact ⟨k,by omega,Nat.le_refl _,rfl,HS.out,OnX.refl _ _⟩
 case round =>
  obtain ⟨j,hjg,hkj,hr,hsc,hon⟩:=hrel
  have HR:=Lib.hid hr
  have SC:=Lib.hid hsc
  have ON:=Lib.hid hon
  have hXr:=hsc.lt
  obtain ⟨y0,y1,y2,yf⟩:=hsc.cells
  clear hr hsc hon x0 x1 x2 xf
  by_cases hj:j < s.size
  ·have hj':(j:Int) < (s.size:Int):=by omega
   have Y:=Lib.hid (And.intro y0 y1)
   have CO:=Lib.hid (fun W => of_any (bn s j) (bn_lt s j) W)
   obtain ⟨cv,hcv⟩:∃ cv,cv=ofN (bn s j):=⟨_,rfl⟩
   rw [← hcv] at CO
   have HCV:=Lib.hid hcv
   clear hcv
   go_wp2_with fail
   go_region
   go_wp2_with fail
   go_region_held3 (fun w' => w'.cell? ⟨X,0,none⟩=some (.string s)∧w'.cell? ⟨X,1,none⟩=some (.int .i64 (j:Int)))
    ((exact Y.out))
    ((go_at_call 105;(with_reducible refine (CO.out _).mono ?_);rintro e w1 ⟨rfl,rfl⟩))
   go_wp2_with fail
   obtain ⟨g0,hg0⟩:∃ g0,gk=g0+1:=⟨gk - 1,by omega⟩
   clear y0 y1 y2 yf
   go_loopg [35] m (fun g iv w2 => ∃ i:Nat,i+g=m∧iv=.int .i64 (i:Int)∧(∀ (x:Nat) (u:Int),x < i→cs[x]? =some u→(cv == u)=false)∧Sc w2 X s j v∧OnX X w w2)
   case atStart => exact ⟨0,by omega,rfl,fun x u hx => absurd hx (by omega),SC.out,ON.out.drew.drew⟩
   case round =>
    clear SC ON Y CO
    obtain ⟨i,hig,rfl,hno,hsc,hon⟩:=hrel
    have NO:=Lib.hid hno
    have SC:=Lib.hid hsc
    have ON:=Lib.hid hon
    have hXr:=hsc.lt
    obtain ⟨y0,y1,y2,yf⟩:=hsc.cells
    have hbr:=Nat.lt_of_lt_of_le hbl hon.low.size
    clear hno hsc hon
    by_cases hi:i < m
    ·have hi':(i:Int) < (m:Int):=by omega
     obtain ⟨u,hu⟩:∃ u,cs[i]? =some u:=⟨_,List.getElem?_eq_getElem (by have:=HM.out;omega)⟩
     have c0:=ON.out.cell (p:=⟨b,i,none⟩) HBX.out (HC.out i u hu)
     have HU:=Lib.hid hu
     clear hu
     cases he:(cv == u)
     ·go_wp2_with fail
      go_roundg (gk - 1)
      case measure => omega
      case rel =>
       refine ⟨i+1,by omega,by go_num,fun x z hx hz => ?_,SC.out,ON.out⟩
       by_cases hxi:x=i
       ·subst hxi
        rw [HU.out] at hz
        injection hz with hz
        subst hz
        exact he
       ·exact NO.out x z (by omega) hz
     ·have hk2:kindB K (bn s j)=true:=by
       rw [← HCS.out _ (bn_lt s j),← HCV.out]
       exact List.any_eq_true.2 ⟨u,List.mem_of_getElem? HU.out,he⟩
      have s2:=SC.out.at_ (j+1)
      rw [show ((j+1:Nat):Int)=(j:Int)+1 from by omega] at s2
      have S2:=Lib.hid s2
      clear s2
      have HR2:=Lib.hid (HR.out.trans (runN_step hj hk2))
      clear hk2
      go_wp2_with fail
      go_roundg g0
      case measure => omega
      case rel => exact ⟨j+1,by omega,by omega,HR2.out,S2.out.1,ON.out.trans S2.out.2⟩
    ·have hk2:kindB K (bn s j)=false:=by
      rw [← HCS.out _ (bn_lt s j),← HCV.out]
      refine Bool.eq_false_iff.2 fun h => ?_
      obtain ⟨u,hu,he⟩:=List.any_eq_true.1 h
      obtain ⟨x,hx⟩:=List.getElem?_of_mem hu
      have hxl:x < cs.length:=by
       rcases Nat.lt_or_ge x cs.length with h1 | h1
       ·exact h1
       ·rw [List.getElem?_eq_none h1] at hx;cases hx
      rw [NO.out x u (by have:=HM.out;omega) hx] at he
      cases he
     have HR2:=Lib.hid (HR.out.trans (runN_stop hk2))
     clear hk2
     have hkj':(k:Int)≤(j:Int):=by omega
     have hjs':(j:Int)≤(s.size:Int):=by omega
     go_wp2_with fail
     go_region
     go_wp2_with fail
     try rw [Exit.noGoto_ret]
     go_ret
     rw [HR2.out]
     exact ⟨rfl,SC.out,ON.out.drew⟩
  ·obtain rfl:j=s.size:=by omega
   have HR2:=Lib.hid (HR.out.trans (runN_end (Nat.le_refl _)))
   have hkj':(k:Int)≤(s.size:Int):=by omega
   go_wp2_with fail
   go_region
   go_wp2_with fail
   go_region
   go_wp2_with fail
   try rw [Exit.noGoto_ret]
   go_ret
   rw [HR2.out]
   exact ⟨rfl,SC.out,ON.out.drew.drew⟩
end Go.Proofs.YtdgpmpccfjmmcaaGreatDoor
namespace Go.Proofs.YtdgpmpccfjmmcaaGreatDoor
open Go.RowKit
def wrongE (p:Nat) (e:Int):PanicEntry:={v:=.iface 158 (.agg #[.int .i64 (p:Int),.int .i64 e]),recovered:=false}
theorem of_blank:∀ n:Nat,n < 256→(ofN n == 5)=blankB n:=by decide+kernel
theorem ext_ext (s:ByteArray) (a b:Nat):((s.extract a s.size).extract b (s.extract a s.size).size).data.toList=(s.extract (a+b) s.size).data.toList:=by
 rw [list_rest (s.extract a s.size) b,list_rest,list_rest,List.drop_drop]
def SkipQ (s:ByteArray) (X:Nat) (v:Value) (w:World) (r:Nat × Bool) (e:Ending) (w':World):Prop:=
 (if r.2 then e=.returned (.tuple #[])∧Sc w' X s r.1 v else e=.panicked [wrongE r.1 31])∧OnX X w w'
set_option maxHeartbeats 8000000 in
set_option maxRecDepth 100000 in
theorem skip_any (s:ByteArray) (hs:s.size≤4096) {w:World} {X k:Nat} {v:Value} (h:Sc w X s k v) (hk:k≤s.size) {mx:Int} (hX0:2 < X) (hmx:w.cell? ⟨2,0,none⟩=some (.int .i64 mx)) :
 Calls Tryz.prog 68 #[.pointer (some ⟨X,0,none⟩)] w fun e w' => SkipQ s X v w (betN s k) e w':=by
 have HS:=Lib.hid h
 have HMX:=Lib.hid hmx
 have hX:=h.lt
 obtain ⟨x0,x1,x2,xf⟩:=h.cells
 clear h hmx
 go_enter Tryz.func68,Tryz.ntmps68
 go_wp2_with fail
 go_step3
 go_wp2_with fail
 go_step3
 go_wp2_with fail
 go_loopg [] (s.size - k) (fun g wr => ∃ j,j+g=s.size∧betN s k=betN s j∧Sc wr X s j v∧OnX X w wr)
 case atStart => exact ⟨k,by omega,rfl,HS.out,OnX.refl _ _⟩
 case round =>
  obtain ⟨j,hjg,hr,hsc,hon⟩:=hrel
  have HR:=Lib.hid hr
  have SC:=Lib.hid hsc
  have ON:=Lib.hid hon
  have hXr:=hsc.lt
  have MX:=Lib.hid (hon.cell (p:=⟨2,0,none⟩) (by show (2 :Nat)≠X;omega) HMX.out)
  obtain ⟨y0,y1,y2,yf⟩:=hsc.cells
  clear hr hsc hon x0 x1 x2 xf
  by_cases hj:j < s.size
  ·have hj':(j:Int) < (s.size:Int):=by omega
   have hj2:(j:Int)≤(s.size:Int):=by omega
   have HE:=Lib.hid (HR.out.trans (betN_eq hj))
   obtain ⟨rest,hrest⟩:∃ rest,s.extract j s.size=rest:=⟨_,rfl⟩
   have hrs:0 < rest.size:=by rw [← hrest,ByteArray.size_extract];omega
   have hrn:rest.size=s.size - j:=by rw [← hrest,ByteArray.size_extract];omega
   have hb0:(rest[0]'hrs).toNat=bn s j:=by rw [bn_eq,← hrest,bn_extract s j s.size (by omega)];rfl
   have CO:=Lib.hid (fun W => of_any (bn s j) (bn_lt s j) W)
   have HRS:=Lib.hid hrest
   have HRN:=Lib.hid hrn
   clear HR hrest hrn
   have s1:=SC.out.at_ (j+1)
   rw [show ((j+1:Nat):Int)=(j:Int)+1 from by omega] at s1
   have S1:=Lib.hid s1
   clear s1
   obtain ⟨cv,hcv⟩:∃ cv,cv=ofN (bn s j):=⟨_,rfl⟩
   rw [← hcv] at CO
   have hbl:=of_blank (bn s j) (bn_lt s j)
   rw [← hcv] at hbl
   clear hcv
   go_wp2_with fail
   go_region
   go_wp2_with fail
   go_region
   rw [HRS.out]
   cases hb:blankB (bn s j)
   case true =>
    have HB:=Lib.hid (show betN s k=betN s (j+1) by rw [HE.out,hb];rfl)
    rw [hb] at hbl
    clear HE hb
    go_wp2_with fail
    refine (CO.out _).mono ?_
    rintro e w1 ⟨rfl,rfl⟩
    go_wp2_with fail
    go_roundg (gk - 1)
    case measure => omega
    case rel => exact ⟨j+1,by omega,HB.out,S1.out.1,(ON.out.trans S1.out.2).drew.drew⟩
   rw [hb] at hbl
   have HBL:=Lib.hid hb
   clear hb
   go_wp2_with fail
   refine (CO.out _).mono ?_
   rintro e w1 ⟨rfl,rfl⟩
   clear CO
   cases h37:((bn s j:Int) == 37)
   case true =>
    have HB:=Lib.hid (show betN s k=betN s (lineN s j) by rw [HE.out,HBL.out,h37];rfl)
    have CI:=Lib.hid (fun W => Tryz.strings_IndexByte rest 10 W)
    have hI:=idx_line s j (by omega)
    rw [HRS.out] at hI
    obtain ⟨vn,hvn⟩:∃ vn,Lib.indexByte rest.data.toList 10=vn:=⟨_,rfl⟩
    rw [hvn] at hI
    have CI:=Lib.hid (show ∀ W,Calls Tryz.prog 106 #[.string rest,.int .u8 10] W fun e w' => e=.returned (.int .i64 vn)∧w'=W from fun W => by rw [← hvn];exact CI.out W)
    have hlg:=line_gt hj h37
    clear HE hvn
    have H37:=Lib.hid h37
    rcases hI with ⟨hneg,hl⟩ | ⟨n,rfl,hl,hln⟩
    ·have HL:=Lib.hid hl
     clear hl
     have s2:=SC.out.at_ s.size
     rw [show ((s.size:Nat):Int)=(j:Int)+(rest.size:Int) from by have:=HRN.out;omega] at s2
     have S2:=Lib.hid s2
     clear s2
     have hw:IntKind.i64.wrap ((j:Int)+(rest.size:Int))=(j:Int)+(rest.size:Int):=by have:=HRN.out;rw [IntKind.wrap_i64];omega
     go_wp2_with fail
     refine (CI.out _).mono ?_
     rintro e w1 ⟨rfl,rfl⟩
     clear CI
     go_wp2_with fail
     go_roundg 0
     case measure => omega
     case rel => exact ⟨s.size,by omega,by rw [HB.out,HL.out],S2.out.1,(ON.out.trans S2.out.2).drew.drew⟩
    ·have HL:=Lib.hid hl
     have hjn:j < j+n:=by omega
     clear hl hlg
     have s2:=SC.out.at_ (j+n)
     rw [show ((j+n:Nat):Int)=(j:Int)+(n:Int) from by omega] at s2
     have S2:=Lib.hid s2
     clear s2
     have hw:IntKind.i64.wrap ((j:Int)+(n:Int))=(j:Int)+(n:Int):=by rw [IntKind.wrap_i64];omega
     go_wp2_with fail
     refine (CI.out _).mono ?_
     rintro e w1 ⟨rfl,rfl⟩
     clear CI
     go_wp2_with fail
     go_roundg (gk - n)
     case measure => omega
     case rel => exact ⟨j+n,by omega,by rw [HB.out,HL.out],S2.out.1,(ON.out.trans S2.out.2).drew.drew⟩
   have CP:=Lib.hid (show ∀ W,Calls Tryz.prog 107 #[.string rest,.string ⟨#[47,42]⟩] W fun e w' => e=.returned (.bool (twoB s j 47 42))∧w'=W from fun W => by
    have e:Lib.hasPrefix rest.data.toList [47,42]=twoB s j 47 42:=by have h:=has_two s j 47 42;rw [HRS.out] at h;exact h
    rw [← e];exact Tryz.strings_HasPrefix rest ⟨#[47,42]⟩ W)
   cases h2:twoB s j 47 42
   case false =>
    have HB:=Lib.hid (show betN s k=(j,true) by rw [HE.out,HBL.out,h37,h2];rfl)
    rw [h2] at CP
    clear HE
    go_wp2_with fail
    refine (CP.out _).mono ?_
    rintro e w1 ⟨rfl,rfl⟩
    clear CP
    go_wp2_with fail
    rw [Exit.noGoto_normal]
    go_end0
    rw [HB.out]
    exact ⟨by rw [if_pos rfl];exact ⟨rfl,SC.out⟩,ON.out.drew.drew⟩
   have hj2l:=twoB_lt h2
   have HB:=Lib.hid (show betN s k=(if endN s (j+2) < s.size then betN s (endN s (j+2)+2) else (j,false)) by rw [HE.out,HBL.out,h37,h2];rfl)
   rw [h2] at CP
   clear HE
   have hI:=idx_end s (j+2) (by omega)
   rw [← ext_ext s j 2,HRS.out] at hI
   obtain ⟨vn,hvn⟩:∃ vn,Lib.index (rest.extract 2 rest.size).data.toList [42,47]=vn:=⟨_,rfl⟩
   rw [hvn] at hI
   have CI:=Lib.hid (show ∀ W,W.cell? ⟨2,0,none⟩=some (.int .i64 mx)→Calls Tryz.prog 108 #[.string (rest.extract 2 rest.size),.string ⟨#[42,47]⟩] W fun e w' => e=.returned (.int .i64 vn)∧w'=W from fun W hW => by
    rw [← hvn];exact Tryz.strings_Index (rest.extract 2 rest.size) ⟨#[42,47]⟩ mx W (by have:=HRN.out;rw [ByteArray.size_extract];omega) hW)
   clear hvn
   have hr2:2≤rest.size:=by have:=HRN.out;omega
   rcases hI with ⟨hneg,hl⟩ | ⟨n,rfl,hl,hln⟩
   ·have HL:=Lib.hid (show betN s k=(j,false) by rw [HB.out,hl,if_neg (Nat.lt_irrefl _)])
    clear HB hl
    go_wp2_with fail
    refine (CP.out _).mono ?_
    rintro e w1 ⟨rfl,rfl⟩
    clear CP
    go_wp2_with fail
    refine (CI.out _ (by exact MX.out)).mono ?_
    rintro e w1 ⟨rfl,rfl⟩
    clear CI
    go_wp2_with fail
    refine ⟨rfl,?_⟩
    rw [HL.out]
    exact ⟨by rw [if_neg (show ¬ (j,false).2=true from fun h => by cases h)];rfl,ON.out.drew.drew⟩
   ·have HL:=Lib.hid (show betN s k=betN s (j+2+n+2) by rw [HB.out,hl,if_pos hln])
    have h4:j+(n+4)≤s.size:=by
     have h5:=endN_two (s:=s) (j:=j+2) (by rw [hl];exact hln)
     rw [hl] at h5
     have:=twoB_lt h5
     omega
    clear HB hl
    have s2:=SC.out.at_ (j+(n+4))
    rw [show ((j+(n+4):Nat):Int)=(j:Int)+((n:Int)+4) from by omega] at s2
    have S2:=Lib.hid s2
    clear s2
    have hw:IntKind.i64.wrap ((j:Int)+((n:Int)+4))=(j:Int)+((n:Int)+4):=by rw [IntKind.wrap_i64];omega
    have hw4:IntKind.i64.wrap ((n:Int)+4)=(n:Int)+4:=by rw [IntKind.wrap_i64];omega
    go_wp2_with fail
    refine (CP.out _).mono ?_
    rintro e w1 ⟨rfl,rfl⟩
    clear CP
    go_wp2_with fail
    refine (CI.out _ (by exact MX.out)).mono ?_
    rintro e w1 ⟨rfl,rfl⟩
    clear CI
    go_wp2_with fail
    go_roundg (gk - (n+4))
    case measure => omega
    case rel => exact ⟨j+(n+4),by omega,by rw [HL.out];congr 1;omega,S2.out.1,(ON.out.trans S2.out.2).drew.drew⟩
  ·obtain rfl:j=s.size:=by omega
   have HB:=Lib.hid (HR.out.trans (betN_end (Nat.le_refl _)))
   go_wp2_with fail
   go_region
   go_wp2_with fail
   rw [Exit.noGoto_normal]
   go_end0
   rw [HB.out]
   exact ⟨by rw [if_pos rfl];exact ⟨rfl,SC.out⟩,ON.out.drew⟩
end Go.Proofs.YtdgpmpccfjmmcaaGreatDoor
