/- The walk through coneyref08.bind. The walk through coneyref08.Unified:plain lemmas;its contract. The walks through coneyref08.Env's Unify,Bound,New. The program's store:Unify. A compound term whose arguments are stored,one by one,into a row that was made for them:what the loop keeps. The program's store:Resolve. The program's store:Undo. -/
import Derived.Test.YtdgpmpccfjmmcaaGreatDoorKJAj
import Derived.Test.YtdgpmpccfjmmcaaGreatDoorKJAm
import Derived.Deep.DrawnRows
import Derived.Deep.DeepCutAuto
import Derived.Deep.RegionHeld3
import Derived.Test.YtdgpmpccfjmmcaaGreatDoorKSa1
import Derived.Test.YtdgpmpccfjmmcaaGreatDoorKJAf
import Derived.Test.YtdgpmpccfjmmcaaGreatDoorKJAk
import Derived.OwnWalk
set_option linter.unusedVariables false
set_option linter.unusedSimpArgs false
namespace Go.Proofs.YtdgpmpccfjmmcaaGreatDoor
open Go.RowKit
theorem EnvOk.few {L:Bs} (h:EnvOk L):L.length≤1000:=by
 have:=nodup_few 1000 (L.map Prod.fst) h.nd fun i hi => by
  obtain ⟨p,hp,rfl⟩:=List.mem_map.mp hi
  have:=h.ok p hp
  exact ⟨this.1,this.2.1⟩
 simpa using this
end Go.Proofs.YtdgpmpccfjmmcaaGreatDoor
namespace Go.Proofs.YtdgpmpccfjmmcaaGreatDoor
open Go.RowKit
end Go.Proofs.YtdgpmpccfjmmcaaGreatDoor
namespace Go.Proofs.YtdgpmpccfjmmcaaGreatDoor
open Go.RowKit
attribute [local go_sem ↓] Go.wp_at_zero Go.wp_at_succ
end Go.Proofs.YtdgpmpccfjmmcaaGreatDoor
namespace Go.Proofs.YtdgpmpccfjmmcaaGreatDoor
open Go.RowKit
theorem SF.sx {B lb:Nat} {w w1 w2:World} (h:Below w.heap.size w w1) (hB:B≤w.heap.size) (k:SX B lb w1 w2) (hl:w.heap.size≤lb):SF B w w2:=
 ⟨(h.mono hB).trans k.low,fun g o hg hn => k.far g o (by have:=heap_lt hg;omega) ((h.block g (heap_lt hg)).trans hg) hn⟩
theorem SF.then {B:Nat} {w w1 w2:World} (h:SF B w w1) (hB:B≤w.heap.size) (k:Below w1.heap.size w1 w2):SF B w w2:=h.trans (SF.below (Nat.le_trans hB h.low.size) k)
def SUnifyP (r:Res) (L:Bs) (w:World) (B sb:Nat) (C:List CV) (R:List (CV × Nat)) (M:List (Nat × Nat)) (e:Ending) (w':World):Prop:=(match r with
 | .ok L1 _ => ∃ v Ns C' R',L1=L++Ns∧e=.returned (.tuple #[v,.int .i64 0])∧IRow w' v (Ns.map Prod.fst)∧SM w' B sb C' R' M∧CL w' C' L1∧Grew C C' R R' Ns∧R'.length≤R.length+2000
 | .many => e=.returned (.tuple #[.slice none 0 0,.int .i64 34])∧SM w' B sb C R M
 | .unlike => e=.returned (.tuple #[.slice none 0 0,.int .i64 80])∧SM w' B sb C R M)∧SF B w w'
set_option maxRecDepth 100000 in
set_option maxHeartbeats 8000000 in
theorem sunify_any {w:World} {B sb:Nat} {C:List CV} {R:List (CV × Nat)} {M:List (Nat × Nat)} {L:Bs} (h:SM w B sb C R M) (hc:CL w C L) (hR:R.length≤900000) (hCn:C.length≤1000000) {ta tb:T} {va vb:Value} (ha:TP w (fun _ => True) ta va) (hb:TP w (fun _ => True) tb vb) (oa:ta.ok) (ob:tb.ok)
 (ka:allV ta (C.length:Int)) (kb:allV tb (C.length:Int)) :
 Calls Tryz.prog 82 #[.pointer (some ⟨sb,0,none⟩),va,vb] w fun e w' => SUnifyP (uniF 2000 L [(ta,tb)]) L w B sb C R M e w':=by
 obtain ⟨k0,k1,k2,A0,m0,c0,rfl⟩:=ha.agg
 obtain ⟨j0,j1,j2,B0,n0,d0,rfl⟩:=hb.agg
 have B2:=Lib.hid (belS (belS (Below.refl w.heap.size w) (Obj.cells #[.int .i64 k0,.int .i64 k1,.string k2,.slice A0 m0 c0] 51)) (Obj.cells #[.int .i64 j0,.int .i64 j1,.string j2,.slice B0 n0 d0] 51))
 have CA:=Lib.hid (sknown_any ta oa _ _ _ (h.below B2.out) (ha.below B2.out))
 have CB:=Lib.hid (fun (W:World) (hW:Below w.heap.size w W) => sknown_any tb ob W _ _ (h.below hW) (hb.below hW))
 have X0:=Lib.hid (show ((w.alloc (Obj.cells #[.int .i64 k0,.int .i64 k1,.string k2,.slice A0 m0 c0] 51)).alloc (Obj.cells #[.int .i64 j0,.int .i64 j1,.string j2,.slice B0 n0 d0] 51)).heap[w.heap.size]? =some (.cells #[.int .i64 k0,.int .i64 k1,.string k2,.slice A0 m0 c0] 51 (0,0)) from
  (Below.heap_alloc _ _ _ (by simp)).trans (heap_alloc_new _ _))
 have Y0:=Lib.hid (show ((w.alloc (Obj.cells #[.int .i64 k0,.int .i64 k1,.string k2,.slice A0 m0 c0] 51)).alloc (Obj.cells #[.int .i64 j0,.int .i64 j1,.string j2,.slice B0 n0 d0] 51)).heap[w.heap.size+1]? =some (.cells #[.int .i64 j0,.int .i64 j1,.string j2,.slice B0 n0 d0] 51 (0,0)) from
  (congrArg _ (by simp)).trans (heap_alloc_new _ _))
 have H:=Lib.hid h
 have HC:=Lib.hid hc
 have HA:=Lib.hid ha
 have HB:=Lib.hid hb
 have KA:=Lib.hid ka
 have KB:=Lib.hid kb
 have hBw:B≤w.heap.size:=by obtain ⟨_,_,_,hl⟩:=h.lenAt;have:=h.ge;omega
 clear h ha hb hc ka kb
 go_enter Tryz.func82,Tryz.ntmps82
 go_wp2_with fail
 refine CA.out.mono ?_
 rintro e w5 ⟨⟨b,rfl,hb⟩,h5⟩
 obtain rfl:=hb.mpr KA.out
 have H5:=Lib.hid (B2.out.trans (h5.mono B2.out.size))
 have hx:=(h5.block _ (heap_lt X0.out)).trans X0.out
 have hy:=(h5.block _ (heap_lt Y0.out)).trans Y0.out
 have HX5:=Lib.hid hx
 have HY5:=Lib.hid hy
 obtain ⟨y0,y1,y2,y3⟩:=box4 hy
 have hyl:=heap_lt hy
 clear hb h5 hx hy CA X0 Y0
 go_wp2_with fail
 refine (CB.out _ H5.out).mono ?_
 rintro e w6 ⟨⟨b,rfl,hb⟩,h6⟩
 obtain rfl:=hb.mpr KB.out
 have H6:=Lib.hid (H5.out.trans (h6.mono H5.out.size))
 have hx:=(h6.block _ (heap_lt HX5.out)).trans HX5.out
 have hy:=(h6.block _ (heap_lt HY5.out)).trans HY5.out
 clear y0 y1 y2 y3 hyl
 obtain ⟨x0,x1,x2,x3⟩:=box4 hx
 obtain ⟨y0,y1,y2,y3⟩:=box4 hy
 have hxl:=heap_lt hx
 have hyl:=heap_lt hy
 have HX6:=Lib.hid hx
 have HY6:=Lib.hid hy
 have SM6:=Lib.hid (H.out.below H6.out)
 have CL6:=Lib.hid (HC.out.below H6.out)
 obtain ⟨A0,c0',A1,c1,A2,c2,hbb,_,hr1,_⟩:=SM6.out.ex
 have b1:=cell_of_row w6 sb 1 _ _ _ hbb
 have hsl:=heap_lt hbb
 clear hb h6 hx hy CB HX5 HY5 hbb hr1
 have CS:=Lib.hid (show ∀ W:World,Below w6.heap.size w6 W→W=w6.alloc (Obj.cells #[.int .i64 2000] 3)→_ from fun W hW hE =>
  ssame_any 2000 W B sb w6.heap.size C R M L ta tb _ _ (SM6.out.below hW) (CL6.out.below hW) (by subst hE;exact heap_alloc_new _ _) (Nat.le_trans hBw H6.out.size) (Nat.le_refl _) (by omega) (HA.out.below (H6.out.trans (hW.mono H6.out.size))) (HB.out.below (H6.out.trans (hW.mono H6.out.size))) oa ob KA.out KB.out)
 go_wp2_with fail
 refine (CS.out _ (belS (Below.refl _ _) _) rfl).mono ?_
 rintro e w7 ⟨er,f7,C7,R7,N7,rfl,hq⟩
 have Q:=Lib.hid hq
 have BW7:=Lib.hid (belS (Below.refl w6.heap.size w6) (Obj.cells #[.int .i64 2000] 3))
 have F7:=Lib.hid (SF.sx (H6.out.trans (BW7.out.mono H6.out.size)) hBw hq.fr (by have:=H6.out.size;omega))
 obtain ⟨A0',c0'',A1',c1',A2',c2',hbb,_,hr1,_⟩:=hq.sm.ex
 have z1:=cell_of_row w7 sb 1 _ _ _ hbb
 have hzl:=heap_lt hbb
 have hout:=hq.out
 have hgr:=hq.gr.ex
 have hlen:=hq.gr.len
 have hfew:=hq.few
 have HR1:=Lib.hid hr1
 clear hq x0 x1 x2 x3 y0 y1 y2 y3 hxl hyl b1 hsl CS hbb hr1
 rcases hout with ⟨rfl,f2,rfl,hr,hle,hlf⟩ | ⟨rfl,hr⟩ | ⟨rfl,hr⟩
 ·obtain ⟨R2,rfl,hb2,hn2,hi2⟩:=hgr
  have HR:=Lib.hid hr
  have HN2:=Lib.hid hn2
  have hr1:=HR1.out
  have hcap:(R++R2).length≤c1':=by obtain ⟨_,_,e,hc,_⟩:=own_open hr1;injection e with _ _ e;omega
  have hll:(R++R2).length=R.length+R2.length:=List.length_append
  obtain ⟨nt,hnt⟩:∃ nt,(R++R2).length=nt:=⟨_,rfl⟩
  rw [hnt] at z1 hcap hll hfew hle
  have HNT:=Lib.hid hnt
  have htop:R.length≤nt:=by omega
  have FIN:=Lib.hid (show ∀ (v:Value) (W:World),IRow W v (N7.map Prod.fst)→Below w7.heap.size w7 W→SUnifyP (uniF 2000 L [(ta,tb)]) L w B sb C R M (.returned (.tuple #[v,.int .i64 0])) W from fun v W hv hW => by
   rw [HR.out]
   exact ⟨⟨v,N7,C7,R++R2,rfl,rfl,hv,Q.out.sm.below hW,Q.out.cl.below hW,Q.out.gr,Q.out.few⟩,F7.out.then hBw hW⟩)
  clear hr hb2 hi2 hr1 hnt hn2
  by_cases hR2:R2.length=0
  ·have hnil:N7.map Prod.fst=[]:=by
    have:=HN2.out
    rw [List.eq_nil_of_length_eq_zero hR2] at this
    simpa using this.symm
   have HNIL:=Lib.hid hnil
   obtain rfl:nt=R.length:=by omega
   clear hnil hR2 hll
   by_cases hcc:c1'=R.length
   ·subst hcc
    go_wp2_with fail
    go_loopw [11,46] (fun s11 iv wr => s11=.slice none 0 0∧iv=.int .i64 0∧Below w7.heap.size w7 wr) (fun _ _ _ => 0)
    case atStart => exact ⟨rfl,rfl,Below.refl _ _⟩
    case round =>
     obtain ⟨rfl,rfl,hb⟩:=hrel
     have HB:=Lib.hid hb
     clear hb
     go_wp2_with fail
     go_ret2
     exact FIN.out _ _ (by rw [HNIL.out];exact IRow.nil _) HB.out
   ·have hcl:R.length < c1':=by omega
    go_wp2_with fail
    go_loopw [11,46] (fun s11 iv wr => s11=.slice none 0 0∧iv=.int .i64 0∧Below w7.heap.size w7 wr) (fun _ _ _ => 0)
    case atStart => exact ⟨rfl,rfl,Below.refl _ _⟩
    case round =>
     obtain ⟨rfl,rfl,hb⟩:=hrel
     have HB:=Lib.hid hb
     clear hb
     go_wp2_with fail
     go_ret2
     exact FIN.out _ _ (by rw [HNIL.out];exact IRow.nil _) HB.out
  ·have hcl:R.length < c1':=by omega
   obtain ⟨x0,hx0⟩:∃ x,(R++R2)[R.length]? =some x:=⟨_,List.getElem?_eq_getElem (by have:=HNT.out;omega)⟩
   obtain ⟨g1,rfl,hg1,⟨cs1,hh1,hz1⟩,hc1',_⟩:=own_elem evals_len HR1.out hx0 rfl
   have HH1:=Lib.hid hh1
   have hgl:=heap_lt hh1
   obtain ⟨item,ii1,ii2,ii3,ii4⟩:=elInt8.hi
   clear hx0 hh1 hR2
   go_wp2_with fail
   go_loopw [11,46] (fun s11 iv wr => ∃ i:Nat,iv=.int .i64 (i:Int)∧i≤R2.length∧wr.ownsRow w7.heap.size 3 1 s11 i (((R2.take i).map fun e => (e.2:Int)).map (Value.int .i64))∧Below w7.heap.size w7 wr) (fun _ iv _ => R2.length - (intOf iv).toNat)
   case atStart => exact ⟨0,rfl,Nat.zero_le _,World.ownsRow_nil _ _ _ _,Below.refl _ _⟩
   case round =>
    obtain ⟨i,rfl,hi,hown,hlow⟩:=hrel
    have HO:=Lib.hid hown
    have HLW:=Lib.hid hlow
    have hgr':g1 < wr.heap.size:=Nat.lt_of_lt_of_le hgl hlow.size
    have hsz:=hlow.size
    clear hown
    by_cases him:i < R2.length
    ·have him':(i:Int) < ((nt - R.length:Nat):Int):=by omega
     obtain ⟨q,hq⟩:∃ q,R2[i]? =some q:=⟨_,List.getElem?_eq_getElem him⟩
     have hq2:(R++R2)[R.length+i]? =some q:=by rw [List.getElem?_append_right (by omega)];simpa using hq
     obtain ⟨g1',eg,_,_,_,hel⟩:=own_elem evals_len (own_below HR1.out hlow) hq2 rfl
     injection eg with eg
     injection eg with eg
     subst eg
     rw [Nat.add_mul] at hel
     have HQ:=Lib.hid hq
     obtain ⟨⟨qb,⟨tk,tn,ts,tA,tm,tc⟩,⟨ak,an,as_,aA,am,ac⟩⟩,qi⟩:=q
     have d0:=hel 0 _ rfl
     have d1:=hel 1 _ rfl
     have d2:=hel 2 _ rfl
     have d3:=hel 3 _ rfl
     have d4:=hel 4 _ rfl
     have d5:=hel 5 _ rfl
     have d6:=hel 6 _ rfl
     have d7:=hel 7 _ rfl
     have d8:=hel 8 _ rfl
     have d9:=hel 9 _ rfl
     simp only [Nat.add_zero] at d0
     clear hel hq hq2 hlow
     go_wp2_with (at_builtin;go_must (refine wpList_push_any _ rfl _ _ _ rfl elInt8 w7.heap.size _ i _ rfl (own_below HO.out (belS (belS (Below.refl _ _) _) _)) (wr.heap.size+1) 1 [.int .i64 (qi:Int)] rfl rfl ?_ ?_ (by omega) (by unfold maxLen;omega) (by simp;omega) ?_))
     ·rfl
     intro v9 w9 hown9 hb9
     have O9:=Lib.hid (show w9.ownsRow w7.heap.size 3 1 v9 (i+1) (((R2.take (i+1)).map fun e => (e.2:Int)).map (Value.int .i64)) from by
      rw [List.take_add_one,HQ.out]
      simpa using hown9)
     have L9:=Lib.hid (show Below w7.heap.size w7 w9 from ((HLW.out.alloc HLW.out.size _).alloc (by simp;omega) _).trans hb9)
     clear hown9 hb9
     go_wp2_with fail
     go_roundw
     case rel => exact ⟨i+1,by go_num,him,O9.out,L9.out⟩
     case measure => simp [intOf];omega
    ·obtain rfl:i=R2.length:=by omega
     have him':¬ ((R2.length:Int) < ((nt - R.length:Nat):Int)):=by omega
     have I9:=Lib.hid (show IRow wr _ (N7.map Prod.fst) from by
      have:=ownsRow_more HO.out (Nat.zero_le _)
      rw [List.take_length,HN2.out] at this
      have hl2:R2.length=(N7.map Prod.fst).length:=by have:=congrArg List.length HN2.out;simpa using this
      unfold IRow
      rw [← hl2]
      exact this)
     clear hlow
     go_wp2_with fail
     go_ret2
     exact FIN.out _ _ I9.out HLW.out
 ·obtain ⟨R2,rfl,hb2,hn2,hi2⟩:=hgr
  have HR:=Lib.hid hr
  have CBK:=Lib.hid (sback_any Q.out.sm (by rw [hlen];exact hi2) (by have:=hfew;omega) (by omega))
  have HB2:=Lib.hid hb2
  clear hr hb2 hn2 hi2
  go_wp2_with fail
  refine CBK.out.mono ?_
  rintro e w8 ⟨rfl,hs8,hf8,_⟩
  have S8:=Lib.hid hs8
  have F8:=Lib.hid hf8
  clear hs8 hf8 CBK
  go_wp2_with fail
  go_ret2
  rw [HR.out]
  exact ⟨⟨rfl,by have:=S8.out;rw [HB2.out] at this;exact this⟩,F7.out.trans F8.out⟩
 ·obtain ⟨R2,rfl,hb2,hn2,hi2⟩:=hgr
  have HR:=Lib.hid hr
  have CBK:=Lib.hid (sback_any Q.out.sm (by rw [hlen];exact hi2) (by have:=hfew;omega) (by omega))
  have HB2:=Lib.hid hb2
  clear hr hb2 hn2 hi2
  go_wp2_with fail
  refine CBK.out.mono ?_
  rintro e w8 ⟨rfl,hs8,hf8,_⟩
  have S8:=Lib.hid hs8
  have F8:=Lib.hid hf8
  clear hs8 hf8 CBK
  go_wp2_with fail
  go_ret2
  rw [HR.out]
  exact ⟨⟨rfl,by have:=S8.out;rw [HB2.out] at this;exact this⟩,F7.out.trans F8.out⟩
end Go.Proofs.YtdgpmpccfjmmcaaGreatDoor
namespace Go.Proofs.YtdgpmpccfjmmcaaGreatDoor
open Go.RowKit
structure MakI (ch:Nat→T) (B0 B tb rb g:Nat) (tc rc:Array Value) (m:Nat) (w wr:World) (i:Nat):Prop where
 tb:wr.heap[tb]? =some (.cells tc 51 (0,0))
 rb:wr.heap[rb]? =some (.cells rc 51 (0,0))
 row:0 < m→∃ cur,wr.heap[g]? =some (.cells cur 51 (0,0))∧4*m≤cur.size∧∀ q,q < i→∃ v0 v1 v2 v3,cur[4*q]? =some v0∧cur[4*q+1]? =some v1∧cur[4*q+2]? =some v2∧cur[4*q+3]? =some v3∧
  TP wr (fun b => b < B0∨g < b) (ch q) (.agg #[v0,v1,v2,v3])
 hi:i≤m
 low:Below B w wr
 lw:g < wr.heap.size
structure GeoM (B0 B tb rb g:Nat):Prop where
 a:B0≤B
 b:B≤tb
 c:B≤rb
 d:tb < g
 e:rb < g
theorem MakI.push {ch:Nat→T} {B0 B tb rb g:Nat} {tc rc:Array Value} {m:Nat} {w wr w8 W:World} {i:Nat} {a0 a1 a2 a3:Value} {cur:Array Value} (G:GeoM B0 B tb rb g) (h:MakI ch B0 B tb rb g tc rc m w wr i) (him:i < m)
 (hb:Below wr.heap.size wr w8) (ht:TP w8 (fun b => b < B0∨wr.heap.size≤b) (ch i) (.agg #[a0,a1,a2,a3])) (hcur:wr.heap[g]? =some (.cells cur 51 (0,0)))
 (hW:W=(((w8.setCell ⟨g,i*4,none⟩ a0).setCell ⟨g,i*4+1,none⟩ a1).setCell ⟨g,i*4+2,none⟩ a2).setCell ⟨g,i*4+3,none⟩ a3):MakI ch B0 B tb rb g tc rc m w W (i+1):=by
 obtain ⟨Ga,Gb,Gc,Gd,Ge⟩:=G
 obtain ⟨cur',hc',hsz,hq⟩:=h.row (by omega)
 rw [hcur] at hc'
 injection hc' with hc'
 injection hc' with hc'
 subst hc'
 have hg8:=(hb.block g (heap_lt hcur)).trans hcur
 have ht2:=heap_lt h.tb
 have hr2:=heap_lt h.rb
 have hgw:=h.lw
 have keep:∀ b,b≠g→W.heap[b]? =w8.heap[b]?:=fun b hne => by
  rw [hW,Below.heap_setCell _ _ _ b hne,Below.heap_setCell _ _ _ b hne,Below.heap_setCell _ _ _ b hne,Below.heap_setCell _ _ _ b hne]
 have hnew:W.heap[g]? =some (.cells ((((cur.setIfInBounds (i*4) a0).setIfInBounds (i*4+1) a1).setIfInBounds (i*4+2) a2).setIfInBounds (i*4+3) a3) 51 (0,0)):=by
  rw [hW]
  exact blk_set (blk_set (blk_set (blk_set hg8 (i*4) a0) (i*4+1) a1) (i*4+2) a2) (i*4+3) a3
 have tpk:∀ {S:Nat→Prop} {t:T} {v:Value},TP w8 S t v→(∀ b,S b→b≠g)→TP W S t v:=fun ht hS => ht.keep fun b cs f hb hh => ⟨(keep b (hS b hb)).trans hh,hb⟩
 have low8:Below B w w8:=h.low.trans (hb.mono (by have:=h.low.size;omega))
 refine ⟨(keep tb (by omega)).trans ((hb.block tb ht2).trans h.tb),(keep rb (by omega)).trans ((hb.block rb hr2).trans h.rb),fun _ => ⟨_,hnew,by simpa using hsz,fun q hqi => ?_⟩,him,?_,?_⟩
 ·by_cases hqe:q=i
  ·subst hqe
   refine ⟨a0,a1,a2,a3,?_,?_,?_,?_,(tpk ht fun b hS => by rcases hS with h | h <;> omega).more fun b hS => by rcases hS with h | h <;> omega⟩
   ·rw [Nat.mul_comm 4 q];simp [Array.getElem?_setIfInBounds];omega
   ·rw [Nat.mul_comm 4 q];simp [Array.getElem?_setIfInBounds];omega
   ·rw [Nat.mul_comm 4 q];simp [Array.getElem?_setIfInBounds];omega
   ·rw [Nat.mul_comm 4 q];simp [Array.getElem?_setIfInBounds];omega
  ·obtain ⟨v0,v1,v2,v3,c0,c1,c2,c3,htq⟩:=hq q (by omega)
   have far:∀ j,j < 4→((((cur.setIfInBounds (i*4) a0).setIfInBounds (i*4+1) a1).setIfInBounds (i*4+2) a2).setIfInBounds (i*4+3) a3)[4*q+j]? =cur[4*q+j]?:=fun j hj => by
    rw [Array.getElem?_setIfInBounds_ne (by omega),Array.getElem?_setIfInBounds_ne (by omega),Array.getElem?_setIfInBounds_ne (by omega),Array.getElem?_setIfInBounds_ne (by omega)]
   exact ⟨v0,v1,v2,v3,(far 0 (by omega)).trans c0,(far 1 (by omega)).trans c1,(far 2 (by omega)).trans c2,(far 3 (by omega)).trans c3,tpk (htq.below hb) fun b hS => by rcases hS with h | h <;> omega⟩
 ·rw [hW]
  exact (((low8.setCell (p:=⟨g,i*4,none⟩) (by show B≤g;omega) _).setCell (p:=⟨g,i*4+1,none⟩) (by show B≤g;omega) _).setCell (p:=⟨g,i*4+2,none⟩) (by show B≤g;omega) _).setCell (p:=⟨g,i*4+3,none⟩) (by show B≤g;omega) _
 ·exact heap_lt hnew
theorem MakI.done {ch:Nat→T} {B0 B tb rb g:Nat} {tc:Array Value} {m:Nat} {s:ByteArray} {w wr W:World} {u0 u1 u2 u3:Value} (G:GeoM B0 B tb rb g) (h:MakI ch B0 B tb rb g tc #[u0,u1,u2,u3] m w wr m)
 (hW:W=((((wr.setCell ⟨rb,0,none⟩ (.int .i64 4)).setCell ⟨rb,1,none⟩ (.int .i64 0)).setCell ⟨rb,2,none⟩ (.string s)).setCell ⟨rb,3,none⟩ (.slice (some ⟨g,0,none⟩) m m))) :
 W.heap[rb]? =some (.cells #[.int .i64 4,.int .i64 0,.string s,.slice (some ⟨g,0,none⟩) m m] 51 (0,0))∧TP W (fun b => b < B0∨B≤b) (.mk 4 0 s m ch) (.agg #[.int .i64 4,.int .i64 0,.string s,.slice (some ⟨g,0,none⟩) m m])∧Below B w W:=by
 obtain ⟨Ga,Gb,Gc,Gd,Ge⟩:=G
 have P:=box_put4 h.rb (.int .i64 4) (.int .i64 0) (.string s) (.slice (some ⟨g,0,none⟩) m m) hW.symm
 refine ⟨P.1,⟨_,m,rfl,Nat.le_refl _,(fun h => by cases h),fun hm0 => ?_⟩,P.2.2.2 _ _ Gc h.low⟩
 obtain ⟨cur,hc,_,hq⟩:=h.row hm0
 refine ⟨g,cur,(0,0),rfl,.inr (by omega),(P.2.2.1 g (by omega)).trans hc,fun q hqm => ?_⟩
 obtain ⟨v0,v1,v2,v3,c0,c1,c2,c3,ht⟩:=hq q hqm
 refine ⟨v0,v1,v2,v3,c0,c1,c2,c3,ht.keep fun b cs f hS hh' => ⟨(P.2.2.1 b (by rcases hS with hS | hS <;> omega)).trans hh',?_⟩⟩
 rcases hS with hS | hS
 ·exact .inl hS
 ·exact .inr (by omega)
end Go.Proofs.YtdgpmpccfjmmcaaGreatDoor
namespace Go.Proofs.YtdgpmpccfjmmcaaGreatDoor
open Go.RowKit
def SresC (L:Bs) (f:Nat) (t:T):Prop:=∀ (w0 w:World) (B sb:Nat) (C:List CV) (R:List (CV × Nat)) (M:List (Nat × Nat)) (v:Value),SM w0 B sb C R M→CL w0 C L→TP w0 (fun _ => True) t v→Below w0.heap.size w0 w→
 Calls Tryz.prog 59 #[.pointer (some ⟨sb,0,none⟩),v] w fun e w' => (∃ v',e=.returned v'∧TP w' (fun b => b < w0.heap.size∨w.heap.size≤b) (resF L f t) v')∧Below w.heap.size w w'
set_option maxRecDepth 100000 in
set_option maxHeartbeats 8000000 in
theorem sres_step {L:Bs} (hL:EnvOk L) {f:Nat} (ih:∀ t,t.ok→Deep L f t→SresC L f t) {t:T} (ht:t.ok) (hd:Deep L (f+1) t):SresC L (f+1) t:=by
 intro w0 w B sb C R' M v hsm hcl hv hb0
 obtain ⟨k0,n0,s0,A0,m0,c0,rfl⟩:=hv.agg
 have H:=Lib.hid hsm
 have HC:=Lib.hid hcl
 have HV:=Lib.hid hv
 have HB0:=Lib.hid hb0
 have IH:=Lib.hid ih
 have OKW:=Lib.hid (hL.walk_ok ht)
 have HD:=Lib.hid hd
 have hs0:=hb0.size
 clear hsm hcl hv hb0 ih hd
 go_enter Tryz.func59,Tryz.ntmps59
 go_wp2_with fail
 have BX:=Lib.hid (belA (belA (Below.refl w.heap.size w) (Obj.cells #[.int .i64 k0,.int .i64 n0,.string s0,.slice A0 m0 c0] 51)) (Obj.cells #[.int .i64 0,.int .i64 0,.string ⟨#[]⟩,.slice none 0 0] 51))
 refine (swalk_any H.out HC.out HV.out ht (HB0.out.trans (BX.out.mono hs0))).mono ?_
 rintro e w1 ⟨⟨v',rfl,hv'⟩,h1⟩
 have BW:=Lib.hid (BX.out.trans (h1.mono (by simp;omega)))
 have X0:=(h1.block w.heap.size (by simp;omega)).trans ((Below.heap_alloc (w.alloc (Obj.cells #[.int .i64 k0,.int .i64 n0,.string s0,.slice A0 m0 c0] 51)) (Obj.cells #[.int .i64 0,.int .i64 0,.string ⟨#[]⟩,.slice none 0 0] 51) w.heap.size (by simp)).trans (heap_alloc_new w _))
 have Y0:=(h1.block (w.heap.size+1) (by simp)).trans ((congrArg _ (by simp)).trans (heap_alloc_new (w.alloc (Obj.cells #[.int .i64 k0,.int .i64 n0,.string s0,.slice A0 m0 c0] 51)) (Obj.cells #[.int .i64 0,.int .i64 0,.string ⟨#[]⟩,.slice none 0 0] 51)))
 have l0:=heap_lt X0
 have l1:=heap_lt Y0
 have HX0:=Lib.hid X0
 have HY0:=Lib.hid Y0
 have xf:∀ i,w1.frozen? ⟨w.heap.size,i,none⟩=false:=fun i => by simp [World.frozen?,X0]
 have yf:∀ i,w1.frozen? ⟨w.heap.size+1,i,none⟩=false:=fun i => by simp [World.frozen?,Y0]
 obtain ⟨x0,x1,x2,x3⟩:=box4 X0
 obtain ⟨y0,y1,y2,y3⟩:=box4 Y0
 obtain ⟨u,hu⟩:∃ u,walkN L t=u:=⟨_,rfl⟩
 rw [hu] at hv' OKW
 cases u with
 | nil => exact hv'.elim
 | mk k n s m a =>
 obtain ⟨A1,c1,rfl,hmc,hA,hx⟩:=hv'
 have OK:=Lib.hid OKW.out
 have HU:=Lib.hid hu
 have HX:=Lib.hid hx
 have HV1:=Lib.hid (show TP w0 (fun _ => True) (.mk k n s m a) (.agg #[.int .i64 k,.int .i64 n,.string s,.slice A1 m c1]) from ⟨A1,c1,rfl,hmc,hA,hx⟩)
 have hm1:=OKW.out.few
 clear hx hA X0 Y0 h1 hu OKW
 cases hk:(k == 4) with
 | false =>
  have hk4:¬ k=4:=by simpa using hk
  have HRR:=Lib.hid (resF_leaf HU.out hk4 f)
  clear hk4
  go_wp2_with fail
  have P:=box_put4 HX0.out (.int .i64 k) (.int .i64 n) (.string s) (.slice A1 m c1) rfl
  have Y1:=(P.2.2.1 (w.heap.size+1) (by omega)).trans HY0.out
  have Q:=box_put4 Y1 (.int .i64 k) (.int .i64 n) (.string s) (.slice A1 m c1) rfl
  obtain ⟨p0,p1,p2,p3⟩:=box4 Q.1
  refine bodyPost_ret (v:=.agg #[.int .i64 k,.int .i64 n,.string s,.slice A1 m c1]) (by simp [results,go_sem,p0,p1,p2,p3]) rfl ?_
  have B9:=Q.2.2.2 _ _ (Nat.le_succ _) (P.2.2.2 _ _ (Nat.le_refl _) BW.out)
  rw [HRR.out]
  exact ⟨⟨_,rfl,((HV1.out.old.below (HB0.out.trans (B9.mono hs0))).more fun b hb => .inl hb.2)⟩,B9⟩
 | true =>
  have hk4:k=4:=by simpa using hk
  subst hk4
  have HRR:=Lib.hid (resF_cmp HU.out f)
  have HDD:=Lib.hid (HD.out.args HU.out)
  clear hk HD HU
  have P:=Lib.hid (box_put4 HX0.out (.int .i64 4) (.int .i64 n) (.string s) (.slice A1 m c1) rfl)
  obtain ⟨item,hi1,hi2,hi3,hi4⟩:=elTerm.hi
  have hm0:(0:Int)≤(m:Int):=by omega
  obtain ⟨W3,hW3⟩:∃ W3,(((w1.setCell ⟨w.heap.size,0,none⟩ (.int .i64 4)).setCell ⟨w.heap.size,1,none⟩ (.int .i64 n)).setCell ⟨w.heap.size,2,none⟩ (.string s)).setCell ⟨w.heap.size,3,none⟩ (.slice A1 m c1)=W3:=⟨_,rfl⟩
  have P:=Lib.hid (box_put4 HX0.out (.int .i64 4) (.int .i64 n) (.string s) (.slice A1 m c1) hW3)
  have BW3:=Lib.hid (P.out.2.2.2 _ _ (Nat.le_refl _) BW.out)
  have Y3:=Lib.hid ((P.out.2.2.1 (w.heap.size+1) (by omega)).trans HY0.out)
  have hz3:=P.out.2.1
  obtain ⟨item,hi1,hi2,hi3,hi4⟩:=elTerm.hi
  have hm0:(0:Int)≤(m:Int):=by omega
  have hGG:=Lib.hid (show GeoM w0.heap.size w.heap.size w.heap.size (w.heap.size+1) W3.heap.size from ⟨hs0,Nat.le_refl _,Nat.le_succ _,by omega,by omega⟩)
  have hbw:=BW3.out.size
  have HZ3:=Lib.hid hz3
  clear hz3
  have X3:=P.out.1
  obtain ⟨z0,z1,z2,z3⟩:=box4 X3
  have hl3:=heap_lt X3
  clear X3
  go_wp2_with (at_make;go_must (refine wpList_make_full _ rfl _ _ _ rfl W3.heap.size 51 item (.agg #[.int .i64 0,.int .i64 0,.string ⟨#[]⟩,.slice none 0 0]) 4 Tryz.underlying47 hi1 hi2 hi3 _ _ _ _ m rfl rfl rfl rfl (by rw [hi4];omega) (by unfold maxLen;omega) (Nat.le_refl _) ?_))
  intro w7 hown hg
  have B7:=Lib.hid (show Below w.heap.size w w7 from BW3.out.grown hg hbw fun k hk => by cases hk)
  have X7:=Lib.hid ((hg.block w.heap.size (by omega) (by simp)).trans P.out.1)
  have Y7:=Lib.hid ((hg.block (w.heap.size+1) (by have:=HZ3.out;omega) (by simp)).trans Y3.out)
  have M0:=Lib.hid (show MakI (fun i => resF L f (a i)) w0.heap.size w.heap.size w.heap.size (w.heap.size+1) W3.heap.size #[.int .i64 4,.int .i64 n,.string s,.slice A1 m c1] #[.int .i64 0,.int .i64 0,.string ⟨#[]⟩,.slice none 0 0] m w w7 0 from by
   have hlt:=(hown.lt _ rfl).2
   refine ⟨X7.out,Y7.out,fun hm => ?_,Nat.zero_le _,B7.out,hlt⟩
   have hl:=own_len hown
   obtain ⟨A9,c9,e9,_,_,_,hx9⟩:=own_open hown
   obtain ⟨g9,cur,rfl,_,hh,hcur⟩:=hx9 hm
   injection e9 with e9
   injection e9 with e9
   injection e9 with e9
   subst e9
   refine ⟨cur,hh,?_,fun q hq => absurd hq (by omega)⟩
   have h1:=hcur (4*m - 1) (by omega)
   rw [List.getElem?_eq_getElem (by omega)] at h1
   have:=(Array.getElem?_eq_some_iff.mp h1).1
   omega)
  obtain ⟨z0,z1,z2,z3⟩:=box4 X7.out
  have hl7:=heap_lt X7.out
  clear hown hg x0 x1 x2 x3 y0 y1 y2 y3 xf yf hW3
  go_wp2_with fail
  go_loopw [6,7,22] (fun _ _ iv wr => ∃ i:Nat,iv=.int .i64 (i:Int)∧MakI (fun i => resF L f (a i)) w0.heap.size w.heap.size w.heap.size (w.heap.size+1) W3.heap.size #[.int .i64 4,.int .i64 n,.string s,.slice A1 m c1] #[.int .i64 0,.int .i64 0,.string ⟨#[]⟩,.slice none 0 0] m w wr i) (fun _ _ iv _ => m - (intOf iv).toNat)
  case atStart => exact ⟨0,rfl,M0.out⟩
  case round =>
   clear M0
   obtain ⟨i,rfl,hr⟩:=hrel
   have R:=Lib.hid hr
   have hi:=hr.hi
   have hlw:=hr.lw
   have hsl:=hr.low.size
   obtain ⟨z0,z1,z2,z3⟩:=box4 hr.tb
   have hlt:=heap_lt hr.tb
   have hlr:=heap_lt hr.rb
   by_cases him:i < m
   ·have him':(i:Int) < (m:Int):=by omega
    obtain ⟨b,cs,fz,rfl,hSb,hbb,hcell⟩:=HX.out (by omega)
    obtain ⟨v0,v1,v2,v3,c0,c1',c2,c3,ht'⟩:=hcell i him
    obtain ⟨k0',k1,k2,A0',m0',cc0,he⟩:=ht'.agg
    injection he with he
    simp only [Array.mk.injEq,List.cons.injEq,and_true] at he
    obtain ⟨rfl,rfl,rfl,rfl⟩:=he
    have BWR:=Lib.hid (HB0.out.trans (R.out.low.mono hs0))
    have hbw:=(BWR.out.block b (heap_lt hbb)).trans hbb
    have hbl:=heap_lt hbw
    have hrc:=fun (j:Nat) => cell_of_row wr b j _ _ _ hbw
    have d0:=(hrc (4*i)).trans c0
    have d1:=(hrc (4*i+1)).trans c1'
    have d2:=(hrc (4*i+2)).trans c2
    have d3:=(hrc (4*i+3)).trans c3
    rw [Nat.mul_comm 4 i] at d0 d1 d2 d3
    obtain ⟨cur,hcur,hcsz,_⟩:=hr.row (by omega)
    have HCUR:=Lib.hid hcur
    have HB1:=Lib.hid (belA (Below.refl wr.heap.size wr) (Obj.cells #[.int .i64 k0',.int .i64 k1,.string k2,.slice A0' m0' cc0] 51))
    have CI:=Lib.hid (IH.out (a i) (OK.out.arg him) (HDD.out i him) w0 (wr.alloc (Obj.cells #[.int .i64 k0',.int .i64 k1,.string k2,.slice A0' m0' cc0] 51)) B sb C R' M _ H.out HC.out ht' (BWR.out.trans (HB1.out.mono (by omega))))
    clear hrc c0 c1' c2 c3 ht' hcell hbb hbw hr hcur
    go_wp2_with fail
    refine CI.out.mono ?_
    rintro e w5 ⟨⟨v5,rfl,hv5⟩,h5⟩
    obtain ⟨e0,e1,e2,B0,n0',d0',rfl⟩:=hv5.agg
    have B5:=Lib.hid (HB1.out.trans (h5.mono (by simp)))
    have hc5:=(B5.out.block W3.heap.size hlw).trans HCUR.out
    have hg5:=heap_lt hc5
    have rc:=fun (j:Nat) (hj:j < cur.size) => (cell_of_row w5 W3.heap.size j _ _ _ hc5).trans (Array.getElem?_eq_getElem hj)
    have r0:=rc (i*4) (by omega)
    have r1:=rc (i*4+1) (by omega)
    have r2:=rc (i*4+2) (by omega)
    have r3:=rc (i*4+3) (by omega)
    have rf:∀ j,w5.frozen? ⟨W3.heap.size,j,none⟩=false:=fun j => by simp [World.frozen?,hc5]
    have SS:=Lib.hid (MakI.push hGG.out R.out him B5.out (hv5.more fun b hb => by
     rcases hb with h | h
     ·exact .inl h
     ·simp at h;exact .inr (by omega)) HCUR.out rfl)
    clear hv5 h5 rc hc5 d0 d1 d2 d3
    go_wp2_with fail
    go_roundw
    case rel => exact ⟨i+1,by go_num,SS.out⟩
    case measure => simp [intOf];omega
   ·obtain rfl:i=m:=by omega
    obtain ⟨x0,x1,x2,x3⟩:=box4 R.out.rb
    have bf:∀ j,wr.frozen? ⟨w.heap.size+1,j,none⟩=false:=fun j => by simp [World.frozen?,R.out.rb]
    clear hr
    go_wp2_with fail
    have D:=R.out.done (s:=s) hGG.out rfl
    obtain ⟨p0,p1,p2,p3⟩:=box4 D.1
    refine bodyPost_ret (v:=.agg #[.int .i64 4,.int .i64 0,.string s,.slice (some ⟨W3.heap.size,0,none⟩) i i]) (by simp [results,go_sem,p0,p1,p2,p3]) rfl ?_
    rw [HRR.out]
    exact ⟨⟨_,rfl,D.2.1⟩,D.2.2⟩
theorem sres_any {L:Bs} (hL:EnvOk L):∀ (f:Nat) (t:T),t.ok→Deep L f t→SresC L f t:=by
 intro f
 induction f with
 | zero => exact fun t _ hd => hd.elim
 | succ f ih => exact fun t ht hd => sres_step hL ih ht hd
end Go.Proofs.YtdgpmpccfjmmcaaGreatDoor
namespace Go.Proofs.YtdgpmpccfjmmcaaGreatDoor
open Go.RowKit
theorem run_clear_part {P:Program} (w:World) (t ty e:TypeId) (z:Value) (i:TypeInfo) (ht:P.underlying t=some (.slice e)) (hi:P.info? e=some i) (hz:i.zero=some z)
 (g o m c:Nat) (cur:Array Value) (hg:w.heap[g]? =some (.cells cur e (0,0))) (hm:0 < m) (h1:∀ u ∈ (Builtin.zeroCells z.cells m).toList,u.oneCell'=true) (hfit:o+(Builtin.zeroCells z.cells m).toList.length≤cur.size) :
 (Builtin.clear_ #[t] ty #[.slice (some ⟨g,o,none⟩) m c]).run P w=.ok (.tuple #[]) (w.setRow g (cur.toList.take o++(Builtin.zeroCells z.cells m).toList++cur.toList.drop (o+(Builtin.zeroCells z.cells m).toList.length)).toArray):=by
 have hst:=run_storeCells_at P g o e (Builtin.zeroCells z.cells m).toList 0 cur w hg (by simpa using hfit) h1
 simp only [Nat.add_zero] at hst
 obtain ⟨k,rfl⟩:∃ k,m=k+1:=⟨m - 1,by omega⟩
 simp [Builtin.clear_,run_underlying ht,zeroValue,typeInfo,hi,hz] at hst ⊢
 simp [hst]
theorem SM.struck {w w1 W:World} {B sb v:Nat} {C:List CV} {R:List (CV × Nat)} {M:List (Nat × Nat)} {A0 A1 A2:Option Addr} {c0 c1 c2:Nat}
 (hb:w.heap[sb]? =some (.cells #[.slice A0 C.length c0,.slice A1 R.length c1,.slice A2 M.length c2] 121 (0,0)))
 (h0:w.ownsRow B 220 9 (.slice A0 C.length c0) C.length (C.flatMap CV.vals)) (h1:w.ownsRow B 222 10 (.slice A1 R.length c1) R.length (R.flatMap evals)) (h2:w.ownsRow B 276 2 (.slice A2 M.length c2) M.length (M.flatMap mvals))
 (hge:B≤sb) (hv:v≤C.length) {k:Nat} (hk:k≤M.length) (hB:w.grownBy w1 (Value.slice A0 C.length c0).ownBlock) (hrow:w1.ownsRow B 220 9 (.slice A0 v c0) v ((C.take v).flatMap CV.vals))
 (hW:W=(w1.setCell ⟨sb,0,none⟩ (.slice A0 v c0)).setCell ⟨sb,2,none⟩ (.slice A2 k c2)):SM W B sb (C.take v) R (M.take k)∧SF B w W:=by
 have hbs:B≤w.heap.size:=by have:=heap_lt hb;omega
 have b1:=keepBox hb h0 (Below.refl _ _) hB (by decide)
 have b2:W.heap[sb]? =some (.cells #[.slice A0 v c0,.slice A1 R.length c1,.slice A2 k c2] 121 (0,0)):=by
  have:=blk_set (blk_set b1 0 (.slice A0 v c0)) 2 (.slice A2 k c2)
  rw [hW]
  simpa using this
 have keepW:∀ (k:Nat) (cs:Array Value) (ty:TypeId) (f:Nat × Nat),w1.heap[k]? =some (.cells cs ty f)→ty≠121→W.heap[k]? =some (.cells cs ty f):=fun k cs ty f hk hne => by
  have hks:k≠sb:=by
   rintro rfl
   rw [b1] at hk
   injection hk with hk
   injection hk with _ hk
   exact hne hk.symm
  rw [hW]
  exact (Below.heap_setCell _ _ _ k hks).trans ((Below.heap_setCell _ _ _ k hks).trans hk)
 have rowW:∀ {t:TypeId} {s n:Nat} {v:Value} {xs:List Value},w1.ownsRow B t s v n xs→t≠121→W.ownsRow B t s v n xs:=fun h hne => by
  refine own_keep h fun k hk => ?_
  obtain ⟨cs,f,hh⟩:=Go.Lib.ownsRow_kind h k hk
  exact (keepW _ _ _ _ hh hne).trans hh.symm
 refine ⟨⟨⟨A0,c0,A1,c1,A2,c2,?_,?_,?_,?_⟩,hge⟩,?_⟩
 ·rw [List.length_take,List.length_take,Nat.min_eq_left hv,Nat.min_eq_left hk];exact b2
 ·rw [List.length_take,Nat.min_eq_left hv];exact rowW hrow (by decide)
 ·exact rowW (grownOther h0 hB h1 (by decide)) (by decide)
 ·rw [List.length_take,Nat.min_eq_left hk]
  have h3:=ownsRow_take (rowW (grownOther h0 hB h2 (by decide)) (by decide)) hk
  have e:(M.flatMap mvals).take (k*2)=(M.take k).flatMap mvals:=by
   conv => lhs;rw [← List.take_append_drop k M,List.flatMap_append]
   exact List.take_left' (by rw [flat_len mvals mvals_len,List.length_take,Nat.min_eq_left hk])
  rw [e] at h3
  exact h3
 ·rw [hW]
  have F1:SF B w w1:=⟨((Below.refl _ _).mono hbs).grown hB hbs fun k hk => (h0.lt k hk).1,fun k o hk hn => by
   refine (hB.block k (heap_lt hk) fun h => ?_).trans hk
   obtain ⟨cs',f',hh'⟩:=Go.Lib.ownsRow_kind h0 k h.symm
   rw [hk] at hh'
   injection hh' with hh'
   exact (hn _ _ _ hh').2.1 rfl⟩
  exact (F1.setBox b1 hge _ _).setBox (blk_set b1 0 _) hge _ _
theorem clear_own {w:World} {B v:Nat} {C:List CV} {g c0:Nat} (h0:w.ownsRow B 220 9 (.slice (some ⟨g,0,none⟩) C.length c0) C.length (C.flatMap CV.vals)) (hv:v < C.length) :
 ∃ w1,(∀ ty c,(Builtin.clear_ #[117] ty #[.slice (some ⟨g,v*9,none⟩) (C.length - v) c]).run Tryz.prog w=.ok (.tuple #[]) w1)∧w.grownBy w1 (some g)∧w1.ownsRow B 220 9 (.slice (some ⟨g,0,none⟩) v c0) v ((C.take v).flatMap CV.vals):=by
 obtain ⟨item,hi,hz,hs,_⟩:=elCell.hi
 rcases h0.2 with ⟨h,_⟩ | ⟨g',cap,cur,hv',hg,hh,hnc,hcm,hcs,ht⟩
 ·cases h
 ·injection hv' with e1 _ e3
  injection e1 with e1
  injection e1 with e1
  subst e1;subst e3
  have hzl:((List.replicate (C.length - v) CV.zero).flatMap CV.vals).length=(C.length - v)*9:=by rw [flat_len CV.vals cvals_len,List.length_replicate]
  have hcn:C.length*9≤c0*9:=Nat.mul_le_mul_right _ hnc
  have hpre:cur.toList.take (v*9)=(C.take v).flatMap CV.vals:=by
   have h2:=congrArg (List.take (v*9)) ht
   rw [List.take_take,Nat.min_eq_left (Nat.mul_le_mul_right _ (Nat.le_of_lt hv))] at h2
   rw [h2]
   conv => lhs;rw [← List.take_append_drop v C,List.flatMap_append]
   exact List.take_left' (by rw [flat_len CV.vals cvals_len,List.length_take,Nat.min_eq_left (Nat.le_of_lt hv)])
  refine ⟨_,fun ty c => run_clear_part w _ ty _ _ item elCell.ht hi hz g (v*9) (C.length - v) c cur hh (by omega) (zeros_one _) (by rw [zeros_cells,hzl];omega),⟨rfl,rfl,rfl,by simp [World.setRow],fun k _ hk => setRow_other w g k _ (fun e => hk (by rw [e]))⟩,?_⟩
  refine ⟨by rw [flat_len CV.vals cvals_len,List.length_take,Nat.min_eq_left (Nat.le_of_lt hv)],.inr ⟨g,c0,_,rfl,hg,setRow_heap w g cur _ _ _ hh,by omega,hcm,?_,?_⟩⟩
  ·rw [zeros_cells]
   simp only [List.size_toArray,List.length_append,List.length_take,List.length_drop,Array.length_toList,hzl]
   omega
  ·rw [← hpre,zeros_cells]
   show (cur.toList.take (v*9)++_++_).take (v*9)=_
   rw [List.append_assoc]
   exact List.take_left' (by simp;omega)
end Go.Proofs.YtdgpmpccfjmmcaaGreatDoor
