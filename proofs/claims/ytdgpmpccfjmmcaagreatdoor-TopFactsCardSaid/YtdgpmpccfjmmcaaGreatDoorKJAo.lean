/- The program's store:the walk of Undo. The program's store as the machine has it:how many variables,bindings,marks;plainly,and in memory. -/
import Derived.Test.YtdgpmpccfjmmcaaGreatDoorKJAn
import Derived.Test.YtdgpmpccfjmmcaaGreatDoorKJAk
import Derived.Test.YtdgpmpccfjmmcaaGreatDoorKJAj
set_option linter.unusedVariables false
set_option linter.unusedSimpArgs false
namespace Go.Proofs.YtdgpmpccfjmmcaaGreatDoor
open Go.RowKit
theorem clear_none (A:Option Addr) (c:Nat) (ty:TypeId) (W:World):(Builtin.clear_ #[117] ty #[.slice A 0 c]).run Tryz.prog W=.ok (.tuple #[]) W:=by
 obtain ⟨item,hi,hz,hs,_⟩:=elCell.hi
 cases A <;> simp [Builtin.clear_,run_underlying elCell.ht]
set_option maxRecDepth 100000 in
set_option maxHeartbeats 4000000 in
theorem sundo_any {w:World} {B sb v k:Nat} {C:List CV} {R1 R2:List (CV × Nat)} {M:List (Nat × Nat)} (h:SM w B sb C (R1++R2) M) (hi:∀ e ∈ R2,e.2 < C.length) (hn:(R1++R2).length≤1000000) (hC:C.length≤1000000) (hM:M.length≤1000000)
 (hk:M[k]? =some (R1.length,v)) (hv:v≤C.length) :
 Calls Tryz.prog 125 #[.pointer (some ⟨sb,0,none⟩),.int .i64 (k:Int)] w fun e w' => e=.returned (.int .i64 0)∧SM w' B sb ((backC C R2).take v) R1 (M.take (k+1))∧SF B w w':=by
 have hkl:k < M.length:=by
  rcases Nat.lt_or_ge k M.length with h1 | h1
  ·exact h1
  ·rw [List.getElem?_eq_none h1] at hk;cases hk
 obtain ⟨A0,c0,A1,c1,A2,c2,hb,h0,h1,h2⟩:=h.ex
 obtain ⟨g2,rfl,hg2,⟨cs2,hh2,hz2⟩,hc2,hel⟩:=own_elem mvals_len h2 hk rfl
 have d0:=hel 0 _ rfl
 have d1:=hel 1 _ rfl
 have b2:=cell_of_row w sb 2 _ _ _ hb
 have hl:=heap_lt hb
 have hl2:=heap_lt hh2
 have hBs:B≤w.heap.size:=by have:=h.ge;omega
 have hneg:¬ ((k:Int) < 0):=by omega
 have hge':¬ ((k:Int)≥(M.length:Int)):=by omega
 have BX:=Lib.hid ((Below.refl w.heap.size w).alloc (Nat.le_refl _) (Obj.cells #[.int .i64 (R1.length:Int),.int .i64 (v:Int)] 276))
 have F0:=Lib.hid (SF.below hBs BX.out)
 have CB:=Lib.hid (sback_any (h.below BX.out) hi hn hC)
 simp only [Nat.add_zero] at d0 d1
 clear hb h0 h1 h2 hel hh2
 go_enter Tryz.func125,Tryz.ntmps125
 go_wp2_with fail
 refine CB.out.mono ?_
 rintro e w1 ⟨rfl,hs,hf,hkm⟩
 have S1:=Lib.hid hs
 have F1:=Lib.hid hf
 have hbx:=hkm w.heap.size _ _ (heap_alloc_new _ _)
 have m0:=cell_of_row w1 w.heap.size 0 _ _ _ hbx
 have m1:=cell_of_row w1 w.heap.size 1 _ _ _ hbx
 have ml:=heap_lt hbx
 obtain ⟨D,hD⟩:∃ D,backC C R2=D:=⟨_,rfl⟩
 have HD:=Lib.hid hD
 have hvD:v≤D.length:=by rw [← hD,backC_len];exact hv
 have hDl:D.length≤1000000:=by rw [← hD,backC_len];exact hC
 rw [hD] at hs
 clear hf hkm d0 d1 b2 hD
 obtain ⟨A0,c0,A1,c1,A2,c2,hb,h0,h1,h2⟩:=hs.ex
 have b0:=cell_of_row w1 sb 0 _ _ _ hb
 have b2:=cell_of_row w1 sb 2 _ _ _ hb
 have hl1:=heap_lt hb
 have hBs1:B≤w1.heap.size:=by have:=hs.ge;omega
 have zf:∀ j,w1.frozen? ⟨sb,j,none⟩=false:=fun j => by simp [World.frozen?,hb]
 have ST:=Lib.hid (fun (w2 W:World) => SM.struck (w1:=w2) (W:=W) hb h0 h1 h2 hs.ge hvD (k:=k+1) hkl)
 rcases Nat.lt_or_ge v D.length with hlt | hge2
 ·obtain ⟨g,rfl,hg,⟨cs0,hh0,hz0⟩,hc0,_⟩:=own_elem cvals_len h0 (i:=v) (List.getElem?_eq_getElem hlt) rfl
  obtain ⟨w2,hrun,hgr,hrow⟩:=clear_own (w:=w1.drew) h0 hlt
  obtain ⟨n,hn⟩:∃ n,D.length=n:=⟨_,rfl⟩
  have hvn:v≤n:=by omega
  have hb9:=keepBox (w1:=w1.drew) hb h0 (Below.refl _ _).drew hgr (by decide)
  have e0:=cell_of_row w2 sb 0 _ _ _ hb9
  have e2:=cell_of_row w2 sb 2 _ _ _ hb9
  have el:=heap_lt hb9
  have ef:∀ j,w2.frozen? ⟨sb,j,none⟩=false:=fun j => by simp [World.frozen?,hb9]
  have hbx2:=keepBox (w1:=w1.drew) hbx h0 (Below.refl _ _).drew hgr (by decide)
  have f0:=cell_of_row w2 w.heap.size 0 _ _ _ hbx2
  have f1:=cell_of_row w2 w.heap.size 1 _ _ _ hbx2
  have fl:=heap_lt hbx2
  have FIN:=Lib.hid (fun W => ST.out w2 W ⟨hgr.os,hgr.tape,hgr.output,hgr.size,hgr.block⟩ hrow)
  have hk1:k+1≤c2:=by have:=own_open h2;obtain ⟨_,_,e,hc,_⟩:=this;injection e with _ _ e;omega
  have hkl':(k:Int)+1≤(M.length:Int):=by omega
  rw [hn] at hrun b0 e0
  have HN:=Lib.hid hn
  have hrun2:=fun c => hrun 0 c
  have hlt':(v:Int) < (n:Int):=by omega
  have hvc:v≤c0:=by omega
  clear hn hb h0 h1 h2 hh0 hs hb9 hbx hbx2 hgr hrow
  go_wp2_with fail
  go_region
  go_wp2_with fail
  go_region
  go_wp2_with fail
  go_ret
  rw [HD.out]
  have Z:=FIN.out _ rfl
  exact ⟨rfl,Z.1.below (Below.refl _ _).drew,((F0.out.trans F1.out).trans Z.2).trans (SF.below (Nat.le_trans hBs1 Z.2.low.size) (Below.refl _ _).drew)⟩
 ·obtain rfl:v=D.length:=by omega
  have hb9:=keepBox (w1:=w1) hb h0 (Below.refl _ _) ⟨rfl,rfl,rfl,Nat.le_refl _,fun _ _ _ => rfl⟩ (by decide)
  have FIN:=Lib.hid (show ∀ (W:World) (n':Nat),D.length=n'→W=(w1.setCell ⟨sb,0,none⟩ (.slice A0 n' c0)).setCell ⟨sb,2,none⟩ (.slice A2 (k+1) c2)→SM W B sb (D.take D.length) R1 (M.take (k+1))∧SF B w1 W from fun W n' e hW => by
   subst e
   exact ST.out w1 W ⟨rfl,rfl,rfl,Nat.le_refl _,fun _ _ _ => rfl⟩ (by rw [List.take_length];exact h0) hW)
  have hk1:k+1≤c2:=by have:=own_open h2;obtain ⟨_,_,e,hc,_⟩:=this;injection e with _ _ e;omega
  have hkl':(k:Int)+1≤(M.length:Int):=by omega
  have hc0:D.length≤c0:=by have:=own_open h0;obtain ⟨_,_,e,hc,_⟩:=this;injection e with _ _ e;omega
  have hb2:=Lib.hid hb
  obtain ⟨n,hn⟩:∃ n,D.length=n:=⟨_,rfl⟩
  have HN:=Lib.hid hn
  rw [hn] at b0 hc0 hvD hDl m1
  have hrun2:=fun A c => clear_none A c
  clear hn hb h0 h1 h2 hs hb9 hbx hge2
  by_cases hcc:c0=n
  ·subst hcc
   go_wp2_with fail
   go_region_with fail
   all_goals
    go_wp2_with fail
    go_region
    go_wp2_with fail
    go_ret
    rw [HD.out]
    have Z:=FIN.out _ _ HN.out rfl
    have BZ:=Lib.hid (fun (WZ:World) => (Below.refl WZ.heap.size WZ).drew.drew)
    exact ⟨rfl,Z.1.below (BZ.out _),((F0.out.trans F1.out).trans Z.2).trans (SF.below (Nat.le_trans hBs1 Z.2.low.size) (BZ.out _))⟩
  ·have hcl:n < c0:=by omega
   go_wp2_with fail
   go_region_with fail
   all_goals
    go_wp2_with fail
    go_region
    go_wp2_with fail
    go_ret
    rw [HD.out]
    have Z:=FIN.out _ _ HN.out rfl
    have BZ:=Lib.hid (fun (WZ:World) => (Below.refl WZ.heap.size WZ).drew.drew)
    exact ⟨rfl,Z.1.below (BZ.out _),((F0.out.trans F1.out).trans Z.2).trans (SF.below (Nat.le_trans hBs1 Z.2.low.size) (BZ.out _))⟩
end Go.Proofs.YtdgpmpccfjmmcaaGreatDoor
namespace Go.Proofs.YtdgpmpccfjmmcaaGreatDoor
open Go.RowKit
theorem backC_take (C:List CV) (R:List (CV × Nat)) (v:Nat):(backC C R).take v=backC (C.take v) R:=by
 induction R with
 | nil => rfl
 | cons e R ih =>
  show ((backC C R).set e.2 e.1).take v=(backC (C.take v) R).set e.2 e.1
  rw [List.take_set,ih]
structure MH where
 r:Nat
 v:Nat
 C:List CV
def MH.m (h:MH):Nat × Nat:=(h.r,h.v)
structure Hp (C:List CV) (R:List (CV × Nat)) (h:MH):Prop where
 r:h.r≤R.length
 v:h.v≤C.length
 len:h.v=h.C.length
 back:backC (C.take h.v) (R.drop h.r)=h.C
 tr:∀ e ∈ R.take h.r,e.2 < h.v
theorem Hp.new (C:List CV) (R:List (CV × Nat)) (ht:∀ e ∈ R,e.2 < C.length):Hp C R ⟨R.length,C.length,C⟩:=
 ⟨Nat.le_refl _,Nat.le_refl _,rfl,by simp [backC],fun e he => ht e (List.mem_of_mem_take he)⟩
theorem Hp.fresh {C:List CV} {R:List (CV × Nat)} {h:MH} (hp:Hp C R h) (Z:List CV):Hp (C++Z) R h:=
 ⟨hp.r,by have:=hp.v;simp;omega,hp.len,by rw [List.take_append_of_le_length hp.v];exact hp.back,hp.tr⟩
theorem Hp.grow {C C':List CV} {R R2:List (CV × Nat)} {h:MH} (hp:Hp C R h) (hb:backC C' R2=C) (hl:C'.length=C.length):Hp C' (R++R2) h:=by
 refine ⟨by have:=hp.r;simp;omega,by have:=hp.v;omega,hp.len,?_,fun e he => hp.tr e ?_⟩
 ·rw [List.drop_append_of_le_length hp.r,backC_append,← backC_take,hb]
  exact hp.back
 ·rwa [List.take_append_of_le_length hp.r] at he
theorem Hp.undo {C:List CV} {R:List (CV × Nat)} {h h0:MH} (hp:Hp C R h) (h0p:Hp C R h0) (hr:h.r≤h0.r) (hv:h.v≤h0.v):Hp h0.C (R.take h0.r) h:=by
 have hr0:=h0p.r
 refine ⟨by simp;omega,by have:=h0p.len;omega,hp.len,?_,fun e he => ?_⟩
 ·rw [← h0p.back,backC_take,List.take_take,Nat.min_eq_left hv,← backC_append]
  have:(R.take h0.r).drop h.r++R.drop h0.r=R.drop h.r:=by
   conv => rhs;rw [← List.take_append_drop h0.r R]
   rw [List.drop_append_of_le_length (by simp;omega)]
  rw [this]
  exact hp.back
 ·rw [List.take_take,Nat.min_eq_left hr] at he
  exact hp.tr e he
def NoA (C:List CV):Prop:=∀ (i:Nat) (c:CV),C[i]? =some c→c.attr=TV.zero
structure ST (B:Nat) (w:World) (sb n:Nat) (L:Bp) (M:List (Nat × Nat)):Prop where
 ex:∃ (C:List CV) (R:List (CV × Nat)) (Hs:List MH),SM w B sb C R M∧CL w C (Bt L)∧C.length=n∧R.length=L.length∧NoA C∧(∀ e ∈ R,e.2 < C.length)∧M=Hs.map MH.m∧
  (∀ (k:Nat) (h:MH),Hs[k]? =some h→Hp C R h∧CL w h.C (Bt (L.take h.r))∧NoA h.C)∧
  (∀ (j k:Nat) (h h':MH),j≤k→Hs[j]? =some h→Hs[k]? =some h'→h.r≤h'.r∧h.v≤h'.v)
 hn:n≤1000
 lq:LQ L
theorem ST.keep {B:Nat} {w w':World} {sb n:Nat} {L:Bp} {M:List (Nat × Nat)} (h:ST B w sb n L M)
 (hk:∀ (k:Nat) (cs:Array Value) (ty:TypeId) (f:Nat × Nat),w.heap[k]? =some (.cells cs ty f)→(ty=121∨ty=220∨ty=222∨ty=276∨ty=51)→w'.heap[k]? =some (.cells cs ty f)):ST B w' sb n L M:=by
 obtain ⟨C,R,Hs,h1,h2,h3,h4,h5,h6,h7,h8,h9⟩:=h.ex
 have ht:∀ {t:T} {v:Value},TP w (fun _ => True) t v→TP w' (fun _ => True) t v:=fun ht => ht.keep fun b cs f hS hh => ⟨hk b cs _ f hh (.inr (.inr (.inr (.inr rfl)))),hS⟩
 exact ⟨⟨C,R,Hs,h1.keep fun k cs ty f hh ht => hk k cs ty f hh (ht.elim .inl fun ht => .inr (ht.elim .inl fun ht => .inr (ht.elim .inl fun ht => .inr (.inl ht)))),h2.keep ht,h3,h4,h5,h6,h7,fun k g hg => ⟨(h8 k g hg).1,(h8 k g hg).2.1.keep ht,(h8 k g hg).2.2⟩,h9⟩,h.hn,h.lq⟩
theorem ST.below {B:Nat} {w w':World} {sb n:Nat} {L:Bp} {M:List (Nat × Nat)} (h:ST B w sb n L M) (hb:Below w.heap.size w w'):ST B w' sb n L M:=
 h.keep fun k _ _ _ h1 _ => (hb.block k (heap_lt h1)).trans h1
theorem ST.lt {B:Nat} {w:World} {sb n:Nat} {L:Bp} {M:List (Nat × Nat)} (h:ST B w sb n L M):B≤sb∧sb < w.heap.size:=by
 obtain ⟨C,R,Hs,h1,-⟩:=h.ex
 obtain ⟨_,_,_,hl⟩:=h1.lenAt
 exact ⟨h1.ge,hl⟩
theorem st_new {w:World}:Calls Tryz.prog 20 #[] w fun e w' => e=.returned (.pointer (some ⟨w.heap.size,0,none⟩))∧ST w.heap.size w' w.heap.size 0 [] []∧Below w.heap.size w w':=by
 refine (snew_any w).mono ?_
 rintro e w' ⟨rfl,h1,h2⟩
 exact ⟨rfl,⟨⟨[],[],[],h1,⟨EnvOk.nil,fun p hp => (by cases hp),fun p hp => (by cases hp),fun i c hc => (by cases hc)⟩,rfl,rfl,fun i c hc => (by cases hc),fun e he => (by cases he),rfl,fun k h hk => (by cases hk),fun j k h h' _ hj => by cases hj⟩,by omega,fun x hx => (by cases hx)⟩,h2⟩
theorem st_fresh {B:Nat} {w:World} {sb n:Nat} {L:Bp} {M:List (Nat × Nat)} (h:ST B w sb n L M) (k:Nat) (hk:n+k≤1000) :
 Calls Tryz.prog 21 #[.pointer (some ⟨sb,0,none⟩),.int .i64 (k:Int)] w fun e w' => e=.returned (.int .i64 (n:Int))∧ST B w' sb (n+k) L M∧SF B w w':=by
 obtain ⟨C,R,Hs,h1,h2,h3,h4,h5,h6,h7,h8,h9⟩:=h.ex
 have hn:=h.hn
 refine (sfresh_any h1 (by omega) (k:Int)).mono ?_
 rintro e w' ⟨rfl,k1,kf⟩
 have hf:fresh (k:Int)=k:=by unfold fresh;omega
 rw [hf] at k1
 refine ⟨by rw [h3],⟨⟨C++List.replicate k CV.zero,R,Hs,k1,?_,by simp [h3],h4,?_,fun e he => by have:=h6 e he;simp;omega,h7,fun j g hg => ⟨((h8 j g hg).1).fresh _,((h8 j g hg).2.1).sf kf,(h8 j g hg).2.2⟩,h9⟩,hk,h.lq⟩,kf⟩
 ·have hc:=h2.sf kf
  refine ⟨hc.ok,fun q hq => by have:=hc.inn q hq;simp;omega,fun q hq v hv => by have:=hc.kn q hq v hv;simp;omega,fun i c hi => ?_⟩
  by_cases hlt:i < C.length
  ·rw [List.getElem?_append_left hlt] at hi
   exact hc.cell i c hi
  ·rw [List.getElem?_append_right (by omega),List.getElem?_replicate] at hi
   split at hi
   ·injection hi with hi
    subst hi
    have hn:findB (Bt L) (i:Int)=none:=hc.far (by omega)
    exact ⟨fun _ => rfl,fun t ht => by rw [hn] at ht;cases ht⟩
   ·cases hi
 ·intro i c hi
  by_cases hlt:i < C.length
  ·rw [List.getElem?_append_left hlt] at hi
   exact h5 i c hi
  ·rw [List.getElem?_append_right (by omega),List.getElem?_replicate] at hi
   split at hi
   ·injection hi with hi
    subst hi
    rfl
   ·cases hi
theorem st_mark {B:Nat} {w:World} {sb n:Nat} {L:Bp} {M:List (Nat × Nat)} (h:ST B w sb n L M) (hM:M.length≤1000000) :
 Calls Tryz.prog 126 #[.pointer (some ⟨sb,0,none⟩)] w fun e w' => e=.returned (.int .i64 (M.length:Int))∧ST B w' sb n L (M++[(L.length,n)])∧SF B w w':=by
 obtain ⟨C,R,Hs,h1,h2,h3,h4,h5,h6,h7,h8,h9⟩:=h.ex
 refine (smark_any h1 hM).mono ?_
 rintro e w' ⟨rfl,k1,kf⟩
 rw [h3,h4] at k1
 have hcl:=h2.sf kf
 have hnew:=Hp.new C R h6
 rw [h3,h4] at hnew
 have key:∀ (k:Nat) (g:MH),(Hs++[⟨L.length,n,C⟩])[k]? =some g→Hs[k]? =some g∨(k=Hs.length∧g=⟨L.length,n,C⟩):=fun k g hg => by
  by_cases hlt:k < Hs.length
  ·rw [List.getElem?_append_left hlt] at hg;exact .inl hg
  ·rw [List.getElem?_append_right (by omega)] at hg
   have h0:k=Hs.length:=by
    rcases Nat.eq_zero_or_pos (k - Hs.length) with h | h
    ·omega
    ·rw [List.getElem?_eq_none (by simp;omega)] at hg;cases hg
   subst h0
   simp at hg
   exact .inr ⟨rfl,hg.symm⟩
 refine ⟨rfl,⟨⟨C,R,Hs++[⟨L.length,n,C⟩],k1,hcl,h3,h4,h5,h6,by rw [List.map_append,← h7];rfl,fun k g hg => ?_,fun j k g g' hjk hj hk => ?_⟩,h.hn,h.lq⟩,kf⟩
 ·rcases key k g hg with h0 | ⟨_,rfl⟩
  ·exact ⟨(h8 k g h0).1,(h8 k g h0).2.1.sf kf,(h8 k g h0).2.2⟩
  ·exact ⟨hnew,by rw [List.take_length];exact hcl,h5⟩
 ·rcases key k g' hk with h0 | ⟨e0,rfl⟩
  ·rcases key j g hj with h3 | ⟨e3,rfl⟩
   ·exact h9 j k g g' hjk h3 h0
   ·have:=lt_of_at h0;omega
  ·rcases key j g hj with hj0 | ⟨e3,rfl⟩
   ·have hp:=(h8 j g hj0).1
    exact ⟨by have:=hp.r;simp only;omega,by have:=hp.v;simp only;omega⟩
   ·exact ⟨Nat.le_refl _,Nat.le_refl _⟩
theorem st_undo {B:Nat} {w:World} {sb n:Nat} {L:Bp} {M:List (Nat × Nat)} (h:ST B w sb n L M) (hM:M.length≤1000000) {k:Nat} {m:Nat × Nat} (hk:M[k]? =some m) :
 Calls Tryz.prog 125 #[.pointer (some ⟨sb,0,none⟩),.int .i64 (k:Int)] w fun e w' => e=.returned (.int .i64 0)∧ST B w' sb m.2 (L.take m.1) (M.take (k+1))∧SF B w w':=by
 obtain ⟨C,R,Hs,h1,h2,h3,h4,h5,h6,h7,h8,h9⟩:=h.ex
 have hn:=h.hn
 obtain ⟨g,hg,rfl⟩:∃ g,Hs[k]? =some g∧g.m=m:=by
  rw [h7,List.getElem?_map] at hk
  exact Option.map_eq_some_iff.1 hk
 obtain ⟨hp,hcl,hna⟩:=h8 k g hg
 have hR:R.take g.r++R.drop g.r=R:=List.take_append_drop _ _
 have hrl:(R.take g.r).length=g.r:=by have:=hp.r;simp;omega
 have hL:R.length≤1000:=by
  have hnd:=h2.ok.nd
  have:=nodup_few 1000 ((Bt L).map Prod.fst) hnd (fun x hx => by
   obtain ⟨p,hp,rfl⟩:=List.mem_map.1 hx
   have:=h2.ok.ok p hp
   exact ⟨this.1,this.2.1⟩)
  simp [Bt] at this
  omega
 have h1':SM w B sb C (R.take g.r++R.drop g.r) M:=by rw [hR];exact h1
 refine (sundo_any (v:=g.v) (k:=k) h1' (fun e he => h6 e (List.mem_of_mem_drop he)) (by rw [hR];omega) (by omega) hM (by rw [hrl];exact hk) hp.v).mono ?_
 rintro e w' ⟨rfl,k1,kf⟩
 have hC:(backC C (R.drop g.r)).take g.v=g.C:=by rw [backC_take];exact hp.back
 rw [hC] at k1
 have hLr:g.r≤L.length:=by have:=hp.r;omega
 refine ⟨rfl,⟨⟨g.C,R.take g.r,Hs.take (k+1),k1,hcl.sf kf,hp.len.symm,by rw [hrl];show g.r=(L.take g.r).length;simp;omega,hna,fun e he => by have:=hp.tr e he;rw [hp.len] at this;exact this,by rw [h7,List.map_take],fun j q hq => ?_,fun a b q q' hab ha hb => ?_⟩,by have:=hp.v;show g.v≤_;omega,h.lq.take _⟩,kf⟩
 ·have hjk:j < k+1:=by
   rcases Nat.lt_or_ge j (k+1) with h | h
   ·exact h
   ·rw [List.getElem?_eq_none (by simp;omega)] at hq;cases hq
  rw [List.getElem?_take_of_lt hjk] at hq
  obtain ⟨p1,p2,p3⟩:=h8 j q hq
  obtain ⟨m1,m2⟩:=h9 j k q g (by omega) hq hg
  refine ⟨p1.undo hp m1 m2,?_,p3⟩
  rw [show (L.take g.m.1).take q.r=L.take q.r by rw [List.take_take];show L.take (min q.r g.r)=_;rw [Nat.min_eq_left m1]]
  exact p2.sf kf
 ·have ha':a < k+1:=by
   rcases Nat.lt_or_ge a (k+1) with h | h
   ·exact h
   ·rw [List.getElem?_eq_none (by simp;omega)] at ha;cases ha
  have hb':b < k+1:=by
   rcases Nat.lt_or_ge b (k+1) with h | h
   ·exact h
   ·rw [List.getElem?_eq_none (by simp;omega)] at hb;cases hb
  rw [List.getElem?_take_of_lt ha'] at ha
  rw [List.getElem?_take_of_lt hb'] at hb
  exact h9 a b q q' hab ha hb
theorem uni_ext (fo:Nat):∀ (f:Nat) (L:Bp) (st:List (P × P)) (L':Bp) (f':Nat),uniP fo f L st=some (.ok L' f')→∃ N,L'=L++N
 | 0,L,[],L',f',h => by injection h with h;injection h with h;subst h;exact ⟨[],by simp⟩
 | 0,L,x ::st,L',f',h => by injection h with h;cases h
 | f+1,L,[],L',f',h => by injection h with h;injection h with h;subst h;exact ⟨[],by simp⟩
 | f+1,L,(x,y) ::st,L',f',h => by
  unfold uniP at h
  simp only at h
  generalize walkP L x=a at*
  generalize walkP L y=b at*
  have same:uniP fo f L st=some (.ok L' f')→∃ N,L'=L++N:=fun h => uni_ext fo f L st L' f' h
  have bind:∀ (n:Nat) (q:P),uniP fo f (L++[(n,q)]) st=some (.ok L' f')→∃ N,L'=L++N:=fun n q h => by
   obtain ⟨N,rfl⟩:=uni_ext fo f _ st L' f' h
   exact ⟨(n,q) ::N,by simp⟩
  have vx:∀ (n:Nat) (q:P),(match occP L n fo q with
   | none => none
   | some true => some RP.unlike
   | some false => uniP fo f (L++[(n,q)]) st)=some (.ok L' f')→∃ N,L'=L++N:=fun n q h => by
   cases ho:occP L n fo q with
   | none => rw [ho] at h;cases h
   | some b =>
    rw [ho] at h
    cases b with
    | true => injection h with h;cases h
    | false => exact bind n q h
  cases a with
  | v n =>
   cases b with
   | v m =>
    simp only at h
    by_cases e:n=m
    ·rw [if_pos e] at h;exact same h
    ·rw [if_neg e] at h
     by_cases e2:n < m
     ·rw [if_pos e2] at h;exact bind m _ h
     ·rw [if_neg e2] at h;exact bind n _ h
   | i m => exact vx n _ h
   | a m => exact vx n _ h
   | c s l => exact vx n _ h
  | i n =>
   cases b with
   | v m => exact vx m _ h
   | i m =>
    simp only at h
    by_cases e:n=m
    ·rw [if_pos e] at h;exact same h
    ·rw [if_neg e] at h;injection h with h;cases h
   | a m => injection h with h;cases h
   | c s l => injection h with h;cases h
  | a n =>
   cases b with
   | v m => exact vx m _ h
   | i m => injection h with h;cases h
   | a m =>
    simp only at h
    by_cases e:n=m
    ·rw [if_pos e] at h;exact same h
    ·rw [if_neg e] at h;injection h with h;cases h
   | c s l => injection h with h;cases h
  | c n k =>
   cases b with
   | v m => exact vx m _ h
   | i m => injection h with h;cases h
   | a m => injection h with h;cases h
   | c s l =>
    simp only at h
    by_cases e:n=s∧k.length=l.length
    ·rw [if_pos e] at h;exact uni_ext fo f L _ L' f' h
    ·rw [if_neg e] at h;injection h with h;cases h
def UniSt (B sb n:Nat) (L:Bp) (M:List (Nat × Nat)) (r:RP) (w:World) (e:Ending) (w':World):Prop:=(match r with
 | .ok L' _ => ∃ v N,L'=L++N∧e=.returned (.tuple #[v,.int .i64 0])∧IRow w' v (N.map fun x => (x.1:Int))∧ST B w' sb n L' M
 | .many => e=.returned (.tuple #[.slice none 0 0,.int .i64 34])∧ST B w' sb n L M
 | .unlike => e=.returned (.tuple #[.slice none 0 0,.int .i64 80])∧ST B w' sb n L M)∧SF B w w'
theorem st_unify {B:Nat} {w:World} {sb n:Nat} {L:Bp} {M:List (Nat × Nat)} (h:ST B w sb n L M) {a b:P} {va vb:Value} (ha:TP w (fun _ => True) a.t va) (hb:TP w (fun _ => True) b.t vb)
 (qa:a.lq) (qb:b.lq) (ka:kn n a=true) (kb:kn n b=true) (sa:a.size≤1000) (sb':b.size≤1000) {r:RP} (hr:uniM L a b=some r) :
 Calls Tryz.prog 82 #[.pointer (some ⟨sb,0,none⟩),va,vb] w fun e w' => UniSt B sb n L M r w e w':=by
 obtain ⟨C,R,Hs,h1,h2,h3,h4,h5,h6,h7,h8,h9⟩:=h.ex
 have hn:=h.hn
 obtain ⟨ga,na,la⟩:=good_t n hn _ a (Nat.le_refl _) qa ka
 obtain ⟨gb,nb,lb⟩:=good_t n hn _ b (Nat.le_refl _) qb kb
 have hR:R.length≤1000:=by
  have:=nodup_few 1000 ((Bt L).map Prod.fst) h2.ok.nd (fun x hx => by
   obtain ⟨p,hp,rfl⟩:=List.mem_map.1 hx
   have:=h2.ok.ok p hp
   exact ⟨this.1,this.2.1⟩)
  simp [Bt] at this
  omega
 have hu:=uni_t deepF 2000 L [(a,b)] r hr
 refine (sunify_any h1 h2 (by omega) (by omega) ha hb ⟨ga,by omega⟩ ⟨gb,by omega⟩ (by rw [h3];exact la) (by rw [h3];exact lb)).mono ?_
 rintro e w' ⟨hm,kf⟩
 rw [show [(a.t,b.t)]=[(a,b)].map tt from rfl,hu] at hm
 refine ⟨?_,kf⟩
 cases r with
 | ok L' f' =>
  obtain ⟨v,Ns,C',R',e1,he,hi,k1,k2,kg,kr⟩:=hm
  obtain ⟨N,hN⟩:=uni_ext deepF 2000 L _ L' f' hr
  have hNs:Ns=Bt N:=by
   rw [hN,Bt_app] at e1
   exact (List.append_cancel_left e1).symm
  subst hNs
  have hlq:=uni_lq deepF 2000 L _ L' f' hr h.lq (fun x hx => by rw [List.mem_singleton.1 hx];exact ⟨qa,qb⟩)
  obtain ⟨R2,hR2,hbk,hfst,hi2⟩:=kg.ex
  have hi':IRow w' v (N.map fun x => (x.1:Int)):=by
   have e:(Bt N).map Prod.fst=N.map fun x => (x.1:Int):=by simp [Bt,Function.comp_def]
   rw [← e];exact hi
  refine ⟨v,N,hN,he,hi',⟨⟨C',R',Hs,k1,k2,by rw [kg.len,h3],?_,?_,?_,h7,fun k g hg => ?_,h9⟩,h.hn,hlq⟩⟩
  ·have:=kg.trail
   rw [this,h4,hN]
   simp [Bt]
  ·intro i c hc
   obtain ⟨c0,hc0,e0⟩:=kg.at_ i c hc
   rw [e0];exact h5 i c0 hc0
  ·intro e he
   rw [hR2] at he
   rw [kg.len]
   rcases List.mem_append.1 he with he | he
   ·exact h6 e he
   ·exact hi2 e he
  ·obtain ⟨p1,p2,p3⟩:=h8 k g hg
   refine ⟨by rw [hR2];exact p1.grow hbk kg.len,?_,p3⟩
   rw [hN,List.take_append_of_le_length (by have:=p1.r;omega)]
   exact p2.sf kf
 | many =>
  obtain ⟨he,k1⟩:=hm
  exact ⟨he,⟨C,R,Hs,k1,h2.sf kf,h3,h4,h5,h6,h7,fun k g hg => ⟨(h8 k g hg).1,(h8 k g hg).2.1.sf kf,(h8 k g hg).2.2⟩,h9⟩,h.hn,h.lq⟩
 | unlike =>
  obtain ⟨he,k1⟩:=hm
  exact ⟨he,⟨C,R,Hs,k1,h2.sf kf,h3,h4,h5,h6,h7,fun k g hg => ⟨(h8 k g hg).1,(h8 k g hg).2.1.sf kf,(h8 k g hg).2.2⟩,h9⟩,h.hn,h.lq⟩
theorem st_resolve {B:Nat} {w:World} {sb n:Nat} {L:Bp} {M:List (Nat × Nat)} (h:ST B w sb n L M) {a q:P} {va:Value} (ha:TP w (fun _ => True) a.t va) (qa:a.lq) (ka:kn n a=true) (sa:a.size≤1000) (hr:resP L deepF a=some q) :
 Calls Tryz.prog 59 #[.pointer (some ⟨sb,0,none⟩),va] w fun e w' => (∃ v',e=.returned v'∧TP w' (fun _ => True) q.t v')∧Below w.heap.size w w':=by
 obtain ⟨C,R,Hs,h1,h2,-⟩:=h.ex
 obtain ⟨ga,na,la⟩:=good_t n h.hn _ a (Nat.le_refl _) qa ka
 obtain ⟨e1,e2⟩:=res_t L deepF a q hr
 refine (sres_any h2.ok deepF a.t ⟨ga,by omega⟩ e2 w w B sb C R M va h1 h2 ha (Below.refl _ _)).mono ?_
 rintro e w' ⟨⟨v',rfl,ht⟩,hb⟩
 rw [e1] at ht
 exact ⟨⟨v',rfl,ht.keep fun b cs f hS hh => ⟨hh,trivial⟩⟩,hb⟩
theorem st_attr {B:Nat} {w:World} {sb n:Nat} {L:Bp} {M:List (Nat × Nat)} (h:ST B w sb n L M) (k:Nat) :
 Calls Tryz.prog 91 #[.pointer (some ⟨sb,0,none⟩),.int .i64 (k:Int)] w fun e w' => e=.returned (.agg #[.int .i64 0,.int .i64 0,.string ⟨#[]⟩,.slice none 0 0])∧Below w.heap.size w w':=by
 obtain ⟨C,R,Hs,h1,h2,h3,h4,h5,-⟩:=h.ex
 rcases Nat.lt_or_ge k C.length with hk | hk
 ·obtain ⟨c,hc⟩:=at_of_lt hk
  refine (sattr_in h1 hc).mono ?_
  rintro e w' ⟨rfl,hb⟩
  rw [h5 k c hc]
  exact ⟨rfl,hb⟩
 ·exact sattr_out h1 (.inr (by omega))
end Go.Proofs.YtdgpmpccfjmmcaaGreatDoor
