/- The program's lexer:a quoted atom. -/
import Derived.Test.YtdgpmpccfjmmcaaGreatDoorKJAu
set_option linter.unusedVariables false
set_option linter.unusedSimpArgs false
namespace Go.Proofs.YtdgpmpccfjmmcaaGreatDoor
open Go.RowKit
theorem bld_keep {T e:TypeId} {B b:Nat} {bs:List Value} {w w':World} (h:Lib.IsBuilder T e B b bs w) (hk:∀ g,B≤g→g < w.heap.size→w'.heap[g]? =w.heap[g]?):Lib.IsBuilder T e B b bs w':=by
 have key:∀ {p},Lib.BuilderAt T e B b p bs w→Lib.BuilderAt T e B b p bs w':=fun {p} h => by
  have hlt:=h.lt
  obtain ⟨hB,v,hb,hown,hne⟩:=h
  exact ⟨hB,v,(hk b hB hlt).trans hb,own_keep hown fun g hg => hk g (hown.lt g hg).1 (hown.lt g hg).2,hne⟩
 rcases h with h | h
 ·exact .inl (key h)
 ·exact .inr (key h)
theorem bu_of {s:ByteArray} {i:Nat} {c:UInt8} {x:Int} (h:(bn s i:Int)=x) (hc:x=(c.toNat:Int)):bu s i=c:=UInt8.toNat_inj.1 (by rw [bn_bu] at h;omega)
theorem onx_call {X:Nat} {w wr W w1:World} (hX:X < w.heap.size) (h1:Below w.heap.size w wr) (h2:OnX X wr W) (h3:Below w.heap.size W w1):OnX X w w1:=
 ⟨((h1.mono (Nat.le_of_lt hX)).trans h2.low).trans (h3.mono (Nat.le_of_lt hX)),fun g hg hx => (h3.block g hg).trans ((h2.far g (Nat.lt_of_lt_of_le hg h1.size) hx).trans (h1.block g hg))⟩
theorem idx_esc:∀ n:Nat,n < 256→Lib.indexByte [110,116,92,39] (n:Int).toNat.toUInt8=(if (n:Int) == 110 then 0 else if (n:Int) == 116 then 1 else if (n:Int) == 92 then 2 else if (n:Int) == 39 then 3 else -1):=by decide+kernel
def QuotQ (s:ByteArray) (X:Nat) (v:Value) (w:World) (r:QuoR) (e:Ending) (w':World):Prop:=
 (match r with
   | .ok t p => e=.returned (.string ⟨t.toArray⟩)∧Sc w' X s p v
   | .bad p er => e=.panicked [wrongE p er])∧OnX X w w'
structure QL (s:ByteArray) (X i:Nat) (v:Value) (w wr:World) (iv:Value) (k:Nat) (l:List UInt8):Prop where
 hi:iv=.int .i64 (k:Int)
 sc:Sc wr X s i v
 bl:Lib.IsBuilder TB 5 w.heap.size w.heap.size (Lib.byteCells l) wr
 lo:i < k
 up:k≤s.size
 few:l.length≤k
 res:quoN s i (i+1) []=quoN s i k l
 below:Below w.heap.size w wr
theorem QL.step {s:ByteArray} {X i:Nat} {v:Value} {w wr w1 w':World} {iv iv':Value} {k k':Nat} {l:List UInt8} {c:UInt8} {x:Int} (h:QL s X i v w wr iv k l) (hX:X < w.heap.size) (hd:Below wr.heap.size wr w1) (hb:Lib.IsBuilder TB 5 w.heap.size w.heap.size (Lib.byteCells l++[.int .u8 x]) w') (hw:Below w.heap.size w1 w')
 (hi':iv'=.int .i64 (k':Int)) (hx:x=(c.toNat:Int)) (hk:k < k') (hk':k'≤s.size) (hr:quoN s i k l=quoN s i k' (l++[c])):QL s X i v w w' iv' k' (l++[c]):=by
 have hb2:Below w.heap.size wr w':=(hd.mono h.below.size).trans hw
 refine ⟨hi',(hb2.block X hX).trans h.sc,?_,by have:=h.lo;omega,hk',by have:=h.few;simp;omega,h.res.trans hr,h.below.trans hb2⟩
 subst hx
 simpa [Lib.byteCells] using hb
set_option maxHeartbeats 16000000 in
set_option maxRecDepth 100000 in
theorem pquoted_any (s:ByteArray) (hs:s.size≤4096) {w:World} {X i:Nat} {v:Value} (h:Sc w X s i v) (hi:i < s.size) :
 Calls Tryz.prog 110 #[.pointer (some ⟨X,0,none⟩)] w fun e w' => QuotQ s X v w (quoN s i (i+1) []) e w':=by
 have hb:∀ (i:Nat) (h:i < s.size),(s[i]'h).toNat=bn s i:=bn_eq s
 have HS:=Lib.hid h
 have hX:=h.lt
 obtain ⟨x0,x1,x2,xf⟩:=h.cells
 clear h
 go_enter Tryz.func110,Tryz.ntmps110
 go_wp2_with fail
 go_loopw [5] (fun iv wr => ∃ k l,QL s X i v w wr iv k l) (fun iv _ => s.size - (intOf iv).toNat)
 case atStart =>
  have hbel:Below w.heap.size w (w.alloc (.cells #[.pointer none,.slice none 0 0] TB)):=(Below.refl _ _).alloc (Nat.le_refl _) _
  exact ⟨i+1,[],by go_num,HS.out.below hbel,bld_new w,by omega,by omega,by simp,rfl,hbel⟩
 case round =>
  obtain ⟨k,l,hr⟩:=hrel
  obtain rfl:=hr.hi
  have R:=Lib.hid hr
  have hk:=hr.up
  have hlo:=hr.lo
  have hfew:=hr.few
  have hsz:=hr.below.size
  have hXr:=hr.sc.lt
  obtain ⟨y0,y1,y2,yf⟩:=hr.sc.cells
  clear hr x0 x1 x2 xf
  by_cases h7:k < s.size
  ·have h7':(k:Int) < (s.size:Int):=by omega
   have HE:=Lib.hid (quoN_eq (i:=i) (b:=l) h7)
   have CW:=Lib.hid (fun (x:Int) => wbyte_any w.heap.size w.heap.size (Lib.byteCells l) x wr R.out.bl (by rw [Lib.byteCells_length];omega) hsz)
   have CS:=Lib.hid (fun (W:World) (h:Lib.IsBuilder TB 5 w.heap.size w.heap.size (Lib.byteCells l) W) (h2:w.heap.size≤W.heap.size) => Tryz.Builder_String_any w.heap.size w.heap.size l W h h2)
   by_cases hk1:k+1 < s.size
   ·have hk1':(k:Int)+1 < (s.size:Int):=by omega
    have hk2:((k:Int)+1).toNat=k+1:=by omega
    have hke:((k:Int)+1 == (s.size:Int))=false:=by simp;omega
    have hks:¬ k+1=s.size:=by omega
    cases h39:((bn s k:Int) == 39)
    case true =>
     have h92:((bn s k:Int) == 92)=false:=by rw [show (bn s k:Int)=39 from by simpa using h39];rfl
     cases h39n:((bn s (k+1):Int) == 39)
     case true =>
      have h2:twoB s k 39 39=true:=by unfold twoB;rw [decide_eq_true hk1,h39,h39n];rfl
      have h39u:bu s k=39:=bu_of (show (bn s k:Int)=39 from by simpa using h39) rfl
      have HU:=Lib.hid h39u
      clear h39u
      have HQ:=Lib.hid (show quoN s i k l=quoN s i (k+2) (l++[39]) by rw [HE.out,h2];rfl)
      clear HE CS
      go_wp2_with fail
      refine (CW.out _).mono ?_
      rintro e w1 ⟨rfl,hb1,hb2⟩
      have R1:=Lib.hid (R.out.step (iv':=.int .i64 ((k:Int)+2)) hX (Below.refl _ _) hb1 hb2 (by go_num) (by rw [bn_bu,HU.out]) (by omega) (by omega) HQ.out)
      clear hb1 hb2 CW HQ
      go_wp2_with fail
      go_roundw
      case rel => exact ⟨_,_,R1.out⟩
      case measure => simp [intOf];omega
     have h2:twoB s k 39 39=false:=by unfold twoB;rw [h39n,Bool.and_false]
     have HQ:=Lib.hid (show quoN s i (i+1) []=.ok l (k+1) by rw [R.out.res,HE.out,h2,h39];rfl)
     have s2:=R.out.sc.at_ (k+1)
     rw [show ((k+1:Nat):Int)=(k:Int)+1 from by omega] at s2
     have B2:=Lib.hid (bld_keep (w':=wr.setCell ⟨X,1,none⟩ (.int .i64 ((k:Int)+1))) R.out.bl fun g hg _ => Below.heap_setCell _ _ _ _ (by show g≠X;omega))
     have S2:=Lib.hid s2
     clear s2 HE
     go_wp2_with fail
     refine (CS.out _ B2.out (by simp;omega)).mono ?_
     rintro e w1 ⟨rfl,hb1⟩
     have HB1:=Lib.hid hb1
     clear hb1
     go_wp2_with fail
     go_ret
     rw [HQ.out]
     exact ⟨⟨rfl,(HB1.out.block X hX).trans S2.out.1⟩,onx_call hX R.out.below S2.out.2 HB1.out⟩
    have h2:twoB s k 39 39=false:=by unfold twoB;rw [h39,Bool.and_false,Bool.false_and]
    cases h92:((bn s k:Int) == 92)
    case true =>
     obtain ⟨vi,hvi⟩:∃ vi,Lib.indexByte [110,116,92,39] (bn s (k+1):Int).toNat.toUInt8=vi:=⟨_,rfl⟩
     have CI:=Lib.hid (show ∀ W,Calls Tryz.prog 106 #[.string ⟨#[110,116,92,39]⟩,.int .u8 (bn s (k+1):Int)] W fun e w' => e=.returned (.int .i64 vi)∧w'=W from fun W => by rw [← hvi];exact Tryz.strings_IndexByte ⟨#[110,116,92,39]⟩ (bn s (k+1):Int) W)
     have hie:=idx_esc (bn s (k+1)) (bn_lt s (k+1))
     rw [hvi] at hie
     clear hvi
     cases e110:((bn s (k+1):Int) == 110)
     case true =>
      obtain rfl:vi=0:=by rw [hie,e110];rfl
      have hu:bu s (k+1)=110:=bu_of (show (bn s (k+1):Int)=110 from by simpa using e110) rfl
      have HU:=Lib.hid hu
      have HQ:=Lib.hid (show quoN s i k l=quoN s i (k+2) (l++[10]) by rw [HE.out,h2,h39,h92,if_neg hks,e110];rfl)
      clear HE CS hie hu
      go_wp2_with fail
      refine (CI.out _).mono ?_
      rintro e w0 ⟨rfl,rfl⟩
      clear CI
      go_wp2_with fail
      refine (CW.out _).mono ?_
      rintro e w1 ⟨rfl,hb1,hb2⟩
      have R1:=Lib.hid (R.out.step (iv':=.int .i64 ((k:Int)+2)) hX (Below.refl _ _) hb1 hb2 (by go_num) (by rfl) (by omega) (by omega) HQ.out)
      clear hb1 hb2 CW HQ
      go_wp2_with fail
      go_roundw
      case rel => exact ⟨_,_,R1.out⟩
      case measure => simp [intOf];omega
     cases e116:((bn s (k+1):Int) == 116)
     case true =>
      obtain rfl:vi=1:=by rw [hie,e110,e116];rfl
      have hu:bu s (k+1)=116:=bu_of (show (bn s (k+1):Int)=116 from by simpa using e116) rfl
      have HU:=Lib.hid hu
      have HQ:=Lib.hid (show quoN s i k l=quoN s i (k+2) (l++[9]) by rw [HE.out,h2,h39,h92,if_neg hks,e110,e116];rfl)
      clear HE CS hie hu
      go_wp2_with fail
      refine (CI.out _).mono ?_
      rintro e w0 ⟨rfl,rfl⟩
      clear CI
      go_wp2_with fail
      refine (CW.out _).mono ?_
      rintro e w1 ⟨rfl,hb1,hb2⟩
      have R1:=Lib.hid (R.out.step (iv':=.int .i64 ((k:Int)+2)) hX (Below.refl _ _) hb1 hb2 (by go_num) (by rfl) (by omega) (by omega) HQ.out)
      clear hb1 hb2 CW HQ
      go_wp2_with fail
      go_roundw
      case rel => exact ⟨_,_,R1.out⟩
      case measure => simp [intOf];omega
     cases e92:((bn s (k+1):Int) == 92)
     case true =>
      obtain rfl:vi=2:=by rw [hie,e110,e116,e92];rfl
      have hu:bu s (k+1)=92:=bu_of (show (bn s (k+1):Int)=92 from by simpa using e92) rfl
      have HU:=Lib.hid hu
      have HQ:=Lib.hid (show quoN s i k l=quoN s i (k+2) (l++[bu s (k+1)]) by rw [HE.out,h2,h39,h92,if_neg hks,e110,e116,e92];rfl)
      clear HE CS hie hu
      go_wp2_with fail
      refine (CI.out _).mono ?_
      rintro e w0 ⟨rfl,rfl⟩
      clear CI
      go_wp2_with fail
      refine (CW.out _).mono ?_
      rintro e w1 ⟨rfl,hb1,hb2⟩
      have R1:=Lib.hid (R.out.step (iv':=.int .i64 ((k:Int)+2)) hX (Below.refl _ _) hb1 hb2 (by go_num) (by rw [HU.out];rfl) (by omega) (by omega) HQ.out)
      clear hb1 hb2 CW HQ
      go_wp2_with fail
      go_roundw
      case rel => exact ⟨_,_,R1.out⟩
      case measure => simp [intOf];omega
     cases e39:((bn s (k+1):Int) == 39)
     case true =>
      obtain rfl:vi=3:=by rw [hie,e110,e116,e92,e39];rfl
      have hu:bu s (k+1)=39:=bu_of (show (bn s (k+1):Int)=39 from by simpa using e39) rfl
      have HU:=Lib.hid hu
      have HQ:=Lib.hid (show quoN s i k l=quoN s i (k+2) (l++[bu s (k+1)]) by rw [HE.out,h2,h39,h92,if_neg hks,e110,e116,e92,e39];rfl)
      clear HE CS hie hu
      go_wp2_with fail
      refine (CI.out _).mono ?_
      rintro e w0 ⟨rfl,rfl⟩
      clear CI
      go_wp2_with fail
      refine (CW.out _).mono ?_
      rintro e w1 ⟨rfl,hb1,hb2⟩
      have R1:=Lib.hid (R.out.step (iv':=.int .i64 ((k:Int)+2)) hX (Below.refl _ _) hb1 hb2 (by go_num) (by rw [HU.out];rfl) (by omega) (by omega) HQ.out)
      clear hb1 hb2 CW HQ
      go_wp2_with fail
      go_roundw
      case rel => exact ⟨_,_,R1.out⟩
      case measure => simp [intOf];omega
     obtain rfl:vi= -1:=by rw [hie,e110,e116,e92,e39];rfl
     have HQ:=Lib.hid (show quoN s i (i+1) []=.bad k 32 by rw [R.out.res,HE.out,h2,h39,h92,if_neg hks,e110,e116,e92,e39];rfl)
     clear HE CS CW hie
     go_wp2_with fail
     refine (CI.out _).mono ?_
     rintro e w0 ⟨rfl,rfl⟩
     clear CI
     go_wp2_with fail
     refine ⟨rfl,?_⟩
     rw [HQ.out]
     exact ⟨rfl,OnX.below hX R.out.below⟩
    by_cases hlow:(bn s k:Int) < 32
    ·have hlow2:=decide_eq_true hlow
     have HQ:=Lib.hid (show quoN s i (i+1) []=.bad k 30 by rw [R.out.res,HE.out,h2,h39,h92,hlow2];rfl)
     clear HE CS CW
     go_wp2_with fail
     refine ⟨rfl,?_⟩
     rw [HQ.out]
     exact ⟨rfl,OnX.below hX R.out.below⟩
    ·by_cases hgr:(126:Int) < (bn s k:Int)
     ·have hgr2:=decide_eq_true hgr
      have HQ:=Lib.hid (show quoN s i (i+1) []=.bad k 30 by rw [R.out.res,HE.out,h2,h39,h92,hgr2,Bool.or_true];rfl)
      clear HE CS CW
      go_wp2_with fail
      refine ⟨rfl,?_⟩
      rw [HQ.out]
      exact ⟨rfl,OnX.below hX R.out.below⟩
     ·have hlow2:=decide_eq_false hlow
      have hgr2:=decide_eq_false hgr
      have HQ:=Lib.hid (show quoN s i k l=quoN s i (k+1) (l++[bu s k]) by rw [HE.out,h2,h39,h92,hlow2,hgr2];rfl)
      clear HE CS
      go_wp2_with fail
      refine (CW.out _).mono ?_
      rintro e w1 ⟨rfl,hb1,hb2⟩
      have R1:=Lib.hid (R.out.step (iv':=.int .i64 ((k:Int)+1)) hX (Below.refl _ _) hb1 hb2 (by go_num) rfl (by omega) (by omega) HQ.out)
      clear hb1 hb2 CW HQ
      go_wp2_with fail
      go_roundw
      case rel => exact ⟨_,_,R1.out⟩
      case measure => simp [intOf];omega
   ·have hk1':¬ (k:Int)+1 < (s.size:Int):=by omega
    have hke:((k:Int)+1 == (s.size:Int))=true:=by simp;omega
    have hks:k+1=s.size:=by omega
    have h2:twoB s k 39 39=false:=by unfold twoB;rw [decide_eq_false hk1];rfl
    have HKS:=Lib.hid hks
    clear hks
    cases h39:((bn s k:Int) == 39)
    case true =>
     have h92:((bn s k:Int) == 92)=false:=by rw [show (bn s k:Int)=39 from by simpa using h39];rfl
     have HQ:=Lib.hid (show quoN s i (i+1) []=.ok l (k+1) by rw [R.out.res,HE.out,h2,h39];rfl)
     have s2:=R.out.sc.at_ (k+1)
     rw [show ((k+1:Nat):Int)=(k:Int)+1 from by omega] at s2
     have B2:=Lib.hid (bld_keep (w':=wr.setCell ⟨X,1,none⟩ (.int .i64 ((k:Int)+1))) R.out.bl fun g hg _ => Below.heap_setCell _ _ _ _ (by show g≠X;omega))
     have S2:=Lib.hid s2
     clear s2 HE
     go_wp2_with fail
     refine (CS.out _ B2.out (by simp;omega)).mono ?_
     rintro e w1 ⟨rfl,hb1⟩
     have HB1:=Lib.hid hb1
     clear hb1
     go_wp2_with fail
     go_ret
     rw [HQ.out]
     exact ⟨⟨rfl,(HB1.out.block X hX).trans S2.out.1⟩,onx_call hX R.out.below S2.out.2 HB1.out⟩
    cases h92:((bn s k:Int) == 92)
    case true =>
     have CI:=Lib.hid (fun W => Tryz.strings_IndexByte ⟨#[110,116,92,39]⟩ 0 W)
     have HQ:=Lib.hid (show quoN s i (i+1) []=.bad i 31 by rw [R.out.res,HE.out,h2,h39,h92,if_pos HKS.out];rfl)
     clear HE CS CW
     go_wp2_with fail
     refine (CI.out _).mono ?_
     rintro e w0 ⟨rfl,rfl⟩
     clear CI
     go_wp2_with fail
     refine ⟨rfl,?_⟩
     rw [HQ.out]
     exact ⟨rfl,OnX.below hX R.out.below⟩
    by_cases hlow:(bn s k:Int) < 32
    ·have hlow2:=decide_eq_true hlow
     have HQ:=Lib.hid (show quoN s i (i+1) []=.bad k 30 by rw [R.out.res,HE.out,h2,h39,h92,hlow2];rfl)
     clear HE CS CW
     go_wp2_with fail
     refine ⟨rfl,?_⟩
     rw [HQ.out]
     exact ⟨rfl,OnX.below hX R.out.below⟩
    ·by_cases hgr:(126:Int) < (bn s k:Int)
     ·have hgr2:=decide_eq_true hgr
      have HQ:=Lib.hid (show quoN s i (i+1) []=.bad k 30 by rw [R.out.res,HE.out,h2,h39,h92,hgr2,Bool.or_true];rfl)
      clear HE CS CW
      go_wp2_with fail
      refine ⟨rfl,?_⟩
      rw [HQ.out]
      exact ⟨rfl,OnX.below hX R.out.below⟩
     ·have hlow2:=decide_eq_false hlow
      have hgr2:=decide_eq_false hgr
      have HQ:=Lib.hid (show quoN s i k l=quoN s i (k+1) (l++[bu s k]) by rw [HE.out,h2,h39,h92,hlow2,hgr2];rfl)
      clear HE CS
      go_wp2_with fail
      refine (CW.out _).mono ?_
      rintro e w1 ⟨rfl,hb1,hb2⟩
      have R1:=Lib.hid (R.out.step (iv':=.int .i64 ((k:Int)+1)) hX (Below.refl _ _) hb1 hb2 (by go_num) rfl (by omega) (by omega) HQ.out)
      clear hb1 hb2 CW HQ
      go_wp2_with fail
      go_roundw
      case rel => exact ⟨_,_,R1.out⟩
      case measure => simp [intOf];omega
  ·obtain rfl:k=s.size:=by omega
   have HQ:=Lib.hid (show quoN s i (i+1) []=.bad i 31 from R.out.res.trans (quoN_end (Nat.le_refl _)))
   go_wp2_with fail
   refine ⟨rfl,?_⟩
   rw [HQ.out]
   exact ⟨rfl,OnX.below hX R.out.below⟩
end Go.Proofs.YtdgpmpccfjmmcaaGreatDoor
