/- Reserved names of the program. The program's parser on texts of facts:a sentence. The program's lexer:the tokens of a text. The program's parser:Read. -/
import Derived.Test.YtdgpmpccfjmmcaaGreatDoorKJAg
import Derived.Test.YtdgpmpccfjmmcaaGreatDoorKShelf
import Derived.Test.YtdgpmpccfjmmcaaGreatDoorKJAy
import Derived.Test.YtdgpmpccfjmmcaaGreatDoorKLp5
import Derived.Test.YtdgpmpccfjmmcaaGreatDoorKJBa
import Derived.Lib.OwnKind
import Derived.Deep.LoopGhost
import Derived.Test.YtdgpmpccfjmmcaaGreatDoorKOrd
import Derived.Deep.RegionHeld3
import Derived.Deep.RegionLaw
import Derived.Deep.AppendLies
set_option linter.unusedVariables false
set_option linter.unusedSimpArgs false
namespace Go.Proofs.YtdgpmpccfjmmcaaGreatDoor
open Go.RowKit
theorem has_iff {s sub:List UInt8}:Lib.contains s sub=true↔∃ a b,s=a++(sub++b):=by
 unfold Lib.contains
 rw [decide_eq_true_iff]
 constructor
 ·intro h
  rcases Lib.index_spec s sub with ⟨h1,_⟩ | ⟨i,_,_,h3,_⟩
  ·omega
  ·obtain ⟨b,hb⟩:=List.isPrefixOf_iff_prefix.1 h3
   exact ⟨s.take i,b,by rw [hb,List.take_append_drop]⟩
 ·rintro ⟨a,b,rfl⟩
  rcases Lib.index_spec (a++(sub++b)) sub with ⟨_,h2⟩ | ⟨i,h1,_⟩
  ·have h3:=h2 a.length (by simp)
   unfold Lib.occAt at h3
   rw [List.drop_left] at h3
   rw [List.isPrefixOf_iff_prefix.2 ⟨b,rfl⟩] at h3
   cases h3
  ·omega
theorem one_mem {l:List UInt8} {c:UInt8}:decide (0≤Lib.indexByte l c)=decide (c ∈ l):=by
 have h1:=Lib.indexByte_ge l c
 congr 1
 apply propext
 constructor
 ·intro h
  obtain ⟨o,ho⟩:∃ o:Nat,Lib.indexByte l c=(o:Int):=⟨(Lib.indexByte l c).toNat,by omega⟩
  exact List.mem_of_getElem? (Lib.indexByte_some ho).1
 ·intro h
  rcases Int.lt_or_le (Lib.indexByte l c) 0 with h2 | h2
  ·obtain ⟨k,hk⟩:=List.mem_iff_getElem?.1 h
   exact absurd hk (Lib.indexByte_none (by omega) k)
  ·exact h2
def wordB (l nm:List UInt8):Bool:=!(nm == []) && !decide (32 ∈ nm) && Lib.contains l (32 ::(nm++[32]))
theorem word_res {nm:List UInt8} {n:Nat} (hn:n < 5):wordB (resL n) nm=resT nm n:=by
 apply Bool.eq_iff_iff.2
 rw [res_prog hn]
 unfold wordB
 rw [Bool.and_eq_true,Bool.and_eq_true,has_iff]
 simp [and_assoc]
set_option maxRecDepth 100000 in
set_option maxHeartbeats 2000000 in
theorem word_any (l nm:ByteArray) (w:World) {mx:Int} (hmx:w.cell? ⟨2,0,none⟩=some (.int .i64 mx)) (hl:l.size≤5000) (hn:nm.size≤5000) :
 Calls Tryz.prog 36 #[.string l,.string nm] w fun e w' => e=.returned (.bool (wordB l.data.toList nm.data.toList))∧w=w':=by
 have hc1:¬ (9223372036854775807:Int) < (nm.size:Int)+1:=by omega
 have hc2:¬ (9223372036854775807:Int) < 1+(nm.size:Int):=by omega
 have C1:=Lib.hid (Tryz.strings_Contains_one nm 32 w)
 rw [one_mem] at C1
 unfold wordB
 cases h1:(nm.toList == []) with
 | true =>
  have e:(nm.data.toList == [])=true:=by rw [← ByteArray.toList_eq];exact h1
  rw [e]
  have HE:=Lib.hid e
  clear e
  go_enter Tryz.func36,Tryz.ntmps36
  go_wp2_with fail
  go_ret
  exact ⟨rfl,rfl⟩
 | false =>
  have e:(nm.data.toList == [])=false:=by rw [← ByteArray.toList_eq];exact h1
  rw [e]
  have HE:=Lib.hid e
  clear e
  cases h2:decide (32 ∈ nm.data.toList) with
  | true =>
   rw [h2] at C1
   clear h2
   go_enter Tryz.func36,Tryz.ntmps36
   go_wp2_with fail
   refine C1.out.mono ?_
   rintro e w1 ⟨rfl,rfl⟩
   go_wp2_with fail
   go_ret
   exact ⟨rfl,rfl⟩
  | false =>
   rw [h2] at C1
   clear h2
   go_enter Tryz.func36,Tryz.ntmps36
   go_wp2_with fail
   refine C1.out.mono ?_
   rintro e w1 ⟨rfl,rfl⟩
   go_wp2_with fail
   have CC:=Lib.hid (Tryz.strings_Contains l (⟨#[32]⟩++nm++⟨#[32]⟩) mx w1 (by omega) hmx)
   rw [show (⟨#[32]⟩++nm++⟨#[32]⟩:ByteArray).data.toList=32 ::(nm.data.toList++[32]) by simp [ByteArray.data_append]] at CC
   refine CC.out.mono ?_
   rintro e w2 ⟨rfl,rfl⟩
   go_wp2_with fail
   go_ret
   exact ⟨rfl,rfl⟩
def GoalsX (w:World):Prop:=∀ n:Nat,n < 5→w.cell? ⟨0,n,none⟩=some (.string (ba (resL n)))
set_option maxRecDepth 100000 in
set_option maxHeartbeats 2000000 in
theorem preserved_any (nm:ByteArray) (n:Int) (w:World) {mx:Int} (hmx:w.cell? ⟨2,0,none⟩=some (.int .i64 mx)) (hg:GoalsX w) (hn:nm.size≤5000) :
 Calls Tryz.prog 14 #[.string nm,.int .i64 n] w fun e w' => e=.returned (.bool (resI nm n))∧w=w':=by
 unfold resI
 by_cases h0:0≤n
 ·by_cases h5:n < 5
  ·obtain ⟨k,rfl⟩:∃ k:Nat,n=(k:Int):=⟨n.toNat,by omega⟩
   have hk:k < 5:=by omega
   have c0:=hg k hk
   have hsz:(ba (resL k)).size≤5000:=by
    have:∀ q,q < 5→(ba (resL q)).size≤5000:=by decide+kernel
    exact this k hk
   have CW:=Lib.hid (word_any (ba (resL k)) nm w hmx hsz hn)
   rw [ba_data,word_res hk] at CW
   rw [Int.toNat_natCast]
   obtain ⟨rb,hrb⟩:∃ rb,resT nm.data.toList k=rb:=⟨_,rfl⟩
   rw [hrb] at CW ⊢
   obtain ⟨s,hs⟩:∃ s,ba (resL k)=s:=⟨_,rfl⟩
   rw [hs] at c0 CW
   clear hg hrb hs hsz
   go_enter Tryz.func14,Tryz.ntmps14
   go_wp2_with fail
   refine CW.out.mono ?_
   rintro e w1 ⟨rfl,rfl⟩
   go_wp2_with fail
   go_ret
   exact ⟨by simp,rfl⟩
  ·have e:(decide (0≤n) && resT nm.data.toList n.toNat)=false:=by rw [show resT nm.data.toList n.toNat=false by unfold resT;rw [resW_none (by omega)];rfl];simp
   rw [e]
   clear e hg
   go_enter Tryz.func14,Tryz.ntmps14
   go_wp2_with fail
   go_ret
   exact ⟨rfl,rfl⟩
 ·have e:(decide (0≤n) && resT nm.data.toList n.toNat)=false:=by simp [h0]
  rw [e]
  clear e hg
  go_enter Tryz.func14,Tryz.ntmps14
  go_wp2_with fail
  go_ret
  exact ⟨rfl,rfl⟩
end Go.Proofs.YtdgpmpccfjmmcaaGreatDoor
namespace Go.Proofs.YtdgpmpccfjmmcaaGreatDoor
open Go.RowKit
set_option maxRecDepth 100000 in
set_option maxHeartbeats 8000000 in
theorem zsent_go {c c0:Rdc} (w:World) (j:Nat) (ns0:List ByteArray) {x0:T × List ByteArray} {j9:Nat} (hs:SentS c j x0 j9) (hc:c=c0.on w.heap.size) (h:Pd w c0 j ns0) (hev:Ev c0 w) :
 Calls Tryz.prog 34 #[.pointer (some ⟨c.R,0,none⟩)] w fun e w' => PQ c w j (.ok (x0,j9,x0.2)) (RelS c w j) e w':=by
 obtain ⟨j2,hop,hk6,rfl⟩:=hs
 obtain ⟨t,ns⟩:=x0
 dsimp only at hop ⊢
 have hR:c0.R=c.R:=by rw [hc];rfl
 have HC0:Pd (w.setCell ⟨c.R,2,none⟩ (.slice none 0 0)) c j []:=by subst hc;exact h.clear w.heap.size
 have hev':Ev c w:=by
  subst hc
  exact ⟨by have:=h.base;show c0.B+(w.heap.size - c0.B)≤w.heap.size;omega,hev.2⟩
 have hB:c.B≤w.heap.size:=by rw [hc];exact h.base
 have hBR:c.B≤c.R:=by rw [hc];exact h.1.BR
 have hRw:c.R < w.heap.size:=by rw [← hR];exact h.lt
 have hn2:c.R≠w.heap.size:=by omega
 have X0:=heap_alloc_new w (Obj.cells #[.int .i64 0,.int .i64 0,.string ⟨#[]⟩,.slice none 0 0,.slice none 0 0] 54)
 have H0:=HC0.alloc (Obj.cells #[.int .i64 0,.int .i64 0,.string ⟨#[]⟩,.slice none 0 0,.slice none 0 0] 54)
 have F0:=(Frp.setR (w:=w) hBR 2 (.slice none 0 0)).newalloc hB (Obj.cells #[.int .i64 0,.int .i64 0,.string ⟨#[]⟩,.slice none 0 0,.slice none 0 0] 54)
 have H1:=Lib.hid H0
 have F1:=Lib.hid F0
 have X1:=Lib.hid (show ((w.setCell ⟨c.R,2,none⟩ (.slice none 0 0)).alloc (Obj.cells #[.int .i64 0,.int .i64 0,.string ⟨#[]⟩,.slice none 0 0,.slice none 0 0] 54)).heap[w.heap.size]? =some (Obj.cells #[.int .i64 0,.int .i64 0,.string ⟨#[]⟩,.slice none 0 0,.slice none 0 0] 54) from heap_at _ _ (by simp))
 have E1:=Lib.hid (hev'.fr F0)
 obtain ⟨ht,hf,lv,nv,nn,hr⟩:=h
 obtain ⟨r0,r1,r2⟩:=hr.cells
 have rf:=hr.thaw
 rw [hR] at r0 r1 r2 rf
 clear hr ht hf hev hev' H0 F0 X0 HC0 hc hR
 have CT0:=Lib.hid (zterm_any (c:=c) (D:=0) (most:=1200) (by omega) hop (.inl hk6) _ H1.out E1.out)
 rw [show ((0:Nat):Int)=0 from rfl] at CT0
 have HK6:=Lib.hid hk6
 clear hop hk6
 have fl:∀ (a b d:Value) (n:Int) (W:World),(Instr.field 116 (.agg #[.int .i64 n,a,b,d]) 0).run Tryz.prog W=.ok (.int .i64 n) W:=fun _ _ _ _ _ => by kernel_rfl
 go_enter Tryz.func34,Tryz.ntmps34
 go_wp2_with fail
 refine CT0.out.mono ?_
 rintro e w2 hq
 obtain ⟨f2,v,rfl,h2,hj2,ht,hgood,hnod⟩:=hq.ok rfl
 obtain ⟨k0,k1,k2,A0,m0,c0,rfl⟩:=ht.agg
 have bA:=(Below.refl w2.heap.size w2).alloc (Nat.le_refl _) (Obj.cells #[.int .i64 k0,.int .i64 k1,.string k2,.slice A0 m0 c0] 51)
 have H2:=Lib.hid (h2.below bA)
 have F2:=Lib.hid ((F1.out.trans f2).trans (Frp.of_below bA h2.base))
 have X2:=Lib.hid ((bA.block _ (heap_lt (f2.boxp H1.out X1.out (by decide) (by decide)))).trans (f2.boxp H1.out X1.out (by decide) (by decide)))
 have Y2:=Lib.hid (heap_alloc_new w2 (Obj.cells #[.int .i64 k0,.int .i64 k1,.string k2,.slice A0 m0 c0] 51))
 have hsz2:=f2.size
 have TP2:=Lib.hid ((ht.below bA).more (S':=fun b => w.heap.size≤b∧b≠w.heap.size) fun b hb => by
  simp at hb
  exact ⟨by omega,by omega⟩)
 have HJ:=Lib.hid (And.intro hj2 (And.intro hgood hnod))
 obtain ⟨x,hx⟩:∃ x,nx c j2=x:=⟨_,rfl⟩
 have HX:=Lib.hid hx
 have PK:=Lib.hid (ppeek_any _ H2.out)
 rw [hx] at PK
 clear hq f2 h2 ht hj2 hgood hnod bA hx r0 r1 r2 rf
 go_wp2_with fail
 refine PK.out.mono ?_
 rintro e w3 ⟨rfl,hb3⟩
 have H3:=Lib.hid (H2.out.below hb3)
 have F3:=Lib.hid (F2.out.trans (Frp.of_below hb3 H2.out.base))
 have X3:=Lib.hid ((hb3.block _ (heap_lt X2.out)).trans X2.out)
 have Y3:=Lib.hid ((hb3.block _ (heap_lt Y2.out)).trans Y2.out)
 have TP3:=Lib.hid (TP2.out.below hb3)
 clear hb3 PK
 have hk6:x.k=6:=by rw [← HX.out];exact HK6.out
 have k6:(x.k != 6)=false:=by simpa using hk6
 have CT:=Lib.hid (ptake_any _ H3.out (by rw [HX.out,hk6];decide))
 clear hk6
 go_wp2_with fail
 refine CT.out.mono ?_
 rintro e w4 ⟨rfl,h4,f4⟩
 have H4:=Lib.hid h4
 have F4:=Lib.hid (F3.out.trans f4)
 have X4:=Lib.hid (f4.boxp H3.out X3.out (by decide) (by decide))
 have Y4:=Lib.hid (f4.boxp H3.out Y3.out (by decide) (by decide))
 have TP4:=Lib.hid (TP3.out.frp f4 H3.out)
 obtain ⟨ht4,hf4,lv4,nv4,nn4,hr4⟩:=h4
 have hnn:nn4=ns.length:=by have:=own_len hr4.own;simpa using this.symm
 subst hnn
 obtain ⟨NA,nc,rfl,_,_,_,_⟩:=own_open hr4.own
 obtain ⟨r0,r1,r2⟩:=hr4.cells
 obtain ⟨y0,y1,y2,y3⟩:=box4t Y4.out
 obtain ⟨x0,x1,x2,x3,x4⟩:=box5p X4.out
 have xf:∀ j,w4.frozen? ⟨w.heap.size,j,none⟩=false:=fun j => by simp [World.frozen?,X4.out]
 have HOWN:=Lib.hid hr4.own
 have hlt4:=heap_lt X4.out
 clear f4 ht4 hf4 hr4 CT
 go_wp2_with fail
 go_region
 go_wp2_with fail
 have P:=box_put5p X4.out (.int .i64 k0) (.int .i64 k1) (.string k2) (.slice A0 m0 c0) (.slice NA ns.length nc) rfl
 obtain ⟨p0,p1,p2,p3,p4⟩:=box5p P.1
 refine bodyPost_ret (v:=.agg #[.int .i64 k0,.int .i64 k1,.string k2,.slice A0 m0 c0,.slice NA ns.length nc]) (by simp [results,go_sem,p0,p1,p2,p3,p4]) rfl ?_
 have FF:=((((F4.out.newset (Nat.le_refl _) hB 0 (.int .i64 k0)).newset (Nat.le_refl _) hB 1 (.int .i64 k1)).newset (Nat.le_refl _) hB 2 (.string k2)).newset (Nat.le_refl _) hB 3 (.slice A0 m0 c0)).newset (Nat.le_refl _) hB 4 (.slice NA ns.length nc)
 refine ⟨FF.trans (Frp.of_below (Below.refl _ _).drew (Nat.le_trans hB FF.size)),_,rfl,(H4.out.put5 X4.out _ _ _ _ _ (by decide) (by decide) (by decide)).below (Below.refl _ _).drew,Nat.le_succ_of_le HJ.out.1,k0,k1,k2,A0,m0,c0,NA,nc,rfl,?_,HJ.out.2.1,by have:=HJ.out.2.2;show j+t.nodes+1≤j2+1;omega,?_⟩
 ·refine TP4.out.keep fun b cs f hS hb => ⟨?_,hS.1⟩
  exact (P.2.1 b hS.2).trans hb
 ·refine own_keep HOWN.out fun g hg => P.2.1 g ?_
  rintro rfl
  exact own_ne HOWN.out X4.out (by decide) hg.symm
theorem zsent_any {c:Rdc} (w:World) (j:Nat) (ns0:List ByteArray) {x:T × List ByteArray} {j':Nat} (hs:∀ n,SentS (c.on n) j x j') (h:Pd w c j ns0) (hev:Ev c w) :
 Calls Tryz.prog 34 #[.pointer (some ⟨c.R,0,none⟩)] w fun e w' => PQ (c.on w.heap.size) w j (.ok (x,j',x.2)) (RelS (c.on w.heap.size) w j) e w':=
 zsent_go (c:=c.on w.heap.size) w j ns0 (hs _) rfl h hev
end Go.Proofs.YtdgpmpccfjmmcaaGreatDoor
namespace Go.Proofs.YtdgpmpccfjmmcaaGreatDoor
open Go.RowKit
theorem skip_end {s:ByteArray} {k f:Nat} {l:List Tk} (hk:k≤s.size) (h:betN s k=(f,true)):toksN s k l=(if f=s.size then .ok l else match oneN s f l with
 | .ok x => toksN s x.b (l++[x])
 | .bad p e => .bad p e):=by
 by_cases hks:k < s.size
 ·rw [toksN_one hks,h];rfl
 ·rw [toksN_end (by omega)]
  rw [betN_end (by omega)] at h
  injection h with h _
  rw [if_pos (by omega)]
theorem skip_bad {s:ByteArray} {k f:Nat} {l:List Tk} (h:betN s k=(f,false)):toksN s k l=.bad f 31:=by
 by_cases hks:k < s.size
 ·rw [toksN_one hks,h]
 ·rw [betN_end (by omega)] at h
  injection h with _ h
  cases h
structure Bx (w:World) (B:Nat) (wr:World):Prop where
 b0:wr.heap[B]? =some (.cells #[.slice none 0 0] 97 (0,0))
 b1:wr.heap[B+1]? =some (.cells #[.int .i64 0] 3 (0,0))
 b2:wr.heap[B+2]? =some (.cells #[.int .i64 0] 34 (0,0))
 low:Below B w wr
 lt:B+3 < wr.heap.size
theorem Bx.on {w wr w':World} {B:Nat} (h:Bx w B wr) (hb:Below (B+3) wr w'):Bx w B w':=
 ⟨(hb.block B (by omega)).trans h.b0,(hb.block (B+1) (by omega)).trans h.b1,(hb.block (B+2) (by omega)).trans h.b2,h.low.trans (hb.mono (by omega)),Nat.lt_of_lt_of_le h.lt hb.size⟩
theorem Bx.cells {w wr:World} {B:Nat} (h:Bx w B wr):wr.cell? ⟨B,0,none⟩=some (.slice none 0 0)∧wr.frozen? ⟨B,0,none⟩=false∧wr.cell? ⟨B+1,0,none⟩=some (.int .i64 0)∧wr.frozen? ⟨B+1,0,none⟩=false∧wr.cell? ⟨B+2,0,none⟩=some (.int .i64 0)∧wr.frozen? ⟨B+2,0,none⟩=false:=
 ⟨cell_of_row _ _ 0 _ _ _ h.b0,by simp [World.frozen?,h.b0],cell_of_row _ _ 0 _ _ _ h.b1,by simp [World.frozen?,h.b1],cell_of_row _ _ 0 _ _ _ h.b2,by simp [World.frozen?,h.b2]⟩
theorem bx_new (w:World) (s:ByteArray):Bx w w.heap.size ((((w.alloc (Obj.cells #[.slice none 0 0] 97)).alloc (Obj.cells #[.int .i64 0] 3)).alloc (Obj.cells #[.int .i64 0] 34)).alloc (Obj.cells #[.string s,.int .i64 0,.slice none 0 0] 161))∧
 Sc ((((w.alloc (Obj.cells #[.slice none 0 0] 97)).alloc (Obj.cells #[.int .i64 0] 3)).alloc (Obj.cells #[.int .i64 0] 34)).alloc (Obj.cells #[.string s,.int .i64 0,.slice none 0 0] 161)) (w.heap.size+3) s 0 (.slice none 0 0):=by
 have step:∀ (u:World) (o o':Obj) (g:Nat),u.heap[g]? =some o'→(u.alloc o).heap[g]? =some o':=fun u o o' g h => (Below.heap_alloc _ _ _ (heap_lt h)).trans h
 have nw:∀ (u:World) (o:Obj) (g:Nat),g=u.heap.size→(u.alloc o).heap[g]? =some o:=fun u o g h => heap_at u o h
 refine ⟨⟨step _ _ _ _ (step _ _ _ _ (step _ _ _ _ (nw _ _ _ rfl))),step _ _ _ _ (step _ _ _ _ (nw _ _ _ (by simp))),step _ _ _ _ (nw _ _ _ (by simp)),((((Below.refl _ _).alloc (Nat.le_refl _) _).alloc (by simp) _).alloc (by simp;omega) _).alloc (by simp;omega) _,by simp⟩,nw _ _ _ (by simp)⟩
theorem oneN_bad {s:ByteArray} {f:Nat} {l:List Tk} {p:Nat} {e:Int} (h:oneN s f l=.bad p e):e≠0:=by
 unfold oneN at h
 cases hh:headN s f l.getLast? with
 | none => rw [hh] at h;injection h with _ h;omega
 | some q =>
  obtain ⟨K,j⟩:=q
  rw [hh] at h
  dsimp only at h
  split at h
  ·injection h with _ h;omega
  ·split at h
   ·cases hq:quoN s f (f+1) [] with
    | ok t p => rw [hq] at h;cases h
    | bad p e =>
     rw [hq] at h
     injection h with _ h
     subst h
     exact quo_bad _ _ _ _ _ _ _ hq
   ·cases h
theorem own_onx {w1 w2:World} {X k n:Nat} {s:ByteArray} {v v':Value} {xs:List Value} (h:w1.ownsRow X 116 4 v n xs) (hs:Sc w1 X s k v') (ho:OnX X w1 w2):w2.ownsRow X 116 4 v n xs:=
 own_keep h fun g hg => ho.far g (h.lt g hg).2 (by
  rintro rfl
  obtain ⟨cs,f',hh⟩:=Go.Lib.ownsRow_kind h _ hg
  unfold Sc at hs
  rw [hs] at hh
  injection hh with hh
  injection hh with _ hh
  exact absurd hh (by decide))
structure LR (w:World) (s:ByteArray) (wr:World) (f:Nat) (v:Value) (l:List Tk):Prop where
 bx:Bx w w.heap.size wr
 sc:Sc wr (w.heap.size+3) s f v
 own:wr.ownsRow (w.heap.size+3) 116 4 v l.length (tkCells l)
 few:l.length≤1000
 up:f≤s.size
 nb:f < s.size→blankB (bn s f)=false
 res:lexN s=(if f=s.size then .ok l else match oneN s f l with
  | .ok x => toksN s x.b (l++[x])
  | .bad p e => .bad p e)
set_option maxHeartbeats 8000000 in
set_option maxRecDepth 100000 in
theorem ptokens_any (s:ByteArray) (w:World) {mx:Int} (hmx:w.cell? ⟨2,0,none⟩=some (.int .i64 mx)):Calls Tryz.prog 32 #[.string s] w fun e w' =>
 (∃ (v:Value) (p er:Int),e=.returned (.tuple #[v,.int .i64 p,.int .i64 er])∧TokQ s w.heap.size w' v p er)∧Below w.heap.size w w':=by
 have hmf:∀ (fn:Fn) (first cap:Array Value) (w:World),(Instr.makeFunc fn first cap).run Tryz.prog w=.ok (.func fn first cap) w:=fun _ _ _ _ => rfl
 have HMX:=Lib.hid hmx
 have hw0:=World.block_lt_of_cell? w _ hmx
 dsimp only at hw0
 clear hmx
 by_cases hlong:4096 < s.size
 ·have hlong':(4096:Int) < (s.size:Int):=by omega
  have HQ:=Lib.hid (show lexN s=.bad 0 33 by unfold lexN;rw [if_pos hlong])
  go_enter_defers Tryz.func32,Tryz.ntmps32
  go_wp2_with fail
  simp (config:={zetaDelta:=true}) [bodyPostD,Leaves,results,Tryz.results32,go_sem]
  exact ⟨⟨_,_,_,⟨rfl,rfl,rfl⟩,tokQ_bad (q:=0) HQ.out (by decide)⟩,(((Below.refl _ _).alloc (Nat.le_refl _) _).alloc (by simp) _).alloc (by simp;omega) _⟩
 ·have hlong':¬ (4096:Int) < (s.size:Int):=by omega
  have hs:s.size≤4096:=by omega
  have HL:=Lib.hid (show lexN s=toksN s 0 [] by unfold lexN;rw [if_neg hlong])
  go_enter_defers Tryz.func32,Tryz.ntmps32
  go_wp2_with fail
  obtain ⟨W0,hW0⟩:∃ W0,W0=((((w.alloc (Obj.cells #[.slice none 0 0] 97)).alloc (Obj.cells #[.int .i64 0] 3)).alloc (Obj.cells #[.int .i64 0] 34)).alloc (Obj.cells #[.string s,.int .i64 0,.slice none 0 0] 161)):=⟨_,rfl⟩
  have hBX:=Lib.hid (show Bx w w.heap.size W0∧Sc W0 (w.heap.size+3) s 0 (.slice none 0 0) from by
   rw [hW0]
   exact bx_new w s)
  rw [← hW0]
  have MX0:=Lib.hid ((hBX.out.1.low.cell (p:=⟨2,0,none⟩) hw0).trans HMX.out)
  clear hW0
  have CK:=Lib.hid (skip_any s hs hBX.out.2 (Nat.zero_le _) (by omega) MX0.out)
  obtain ⟨r,hr⟩:∃ r,betN s 0=r:=⟨_,rfl⟩
  have HR:=Lib.hid hr
  rw [hr] at CK
  clear hr
  obtain ⟨f,ok⟩:=r
  refine CK.out.mono ?_
  rintro e w1 ⟨hq,hon⟩
  cases ok
  ·have hq:e=.panicked [wrongE f 31]:=by simpa using hq
   subst hq
   have B1:=Lib.hid (hBX.out.1.on hon.low)
   have HQ:=Lib.hid (HL.out.trans (skip_bad HR.out))
   have HNZ:(31:Int)≠0:=by decide
   clear CK hon
   obtain ⟨c0,g0,c1,g1,c2,g2⟩:=B1.out.cells
   go_wp2_with fail
   show Leaves _ _ _ _ _ _ _
   refine leaves_cons (f:=67) (args:=#[.pointer (some ⟨w.heap.size,0,none⟩),.pointer (some ⟨w.heap.size+1,0,none⟩),.pointer (some ⟨w.heap.size+1+1,0,none⟩)]) (by simp) (by simp [go_sem]) ?_
   refine (tcatch_panicking w.heap.size _ _ _ f 31 [] _ c0 g0 c1 g1 c2 g2 (by have:=B1.out.lt;omega)).mono ?_
   rintro e u' w'' ⟨rfl,rfl,h4,p0,p1,p2⟩
   have HE:=Lib.hid (B1.out.low.trans h4)
   have HTQ:=Lib.hid (tokQ_bad (B:=w.heap.size) (w':=w'') HQ.out HNZ)
   simp [Leaves,settle,results,Tryz.results32,go_sem,p0,p1,p2]
   exact ⟨⟨_,_,_,⟨rfl,rfl,rfl⟩,HTQ.out⟩,HE.out⟩
  ·obtain ⟨rfl,hsc⟩:e=.returned (.tuple #[])∧Sc w1 (w.heap.size+3) s f (.slice none 0 0):=by simpa using hq
   have hfs:=(betN_ge (s:=s) (j:=0) (Nat.zero_le _)).2
   rw [HR.out] at hfs
   dsimp only at hfs
   have LR0:=Lib.hid (show LR w s w1 f (.slice none 0 0) [] from ⟨hBX.out.1.on hon.low,hsc,World.ownsRow_nil _ _ _ _,by simp,hfs,fun h => betN_blank HR.out h,HL.out.trans (skip_end (Nat.zero_le _) HR.out)⟩)
   clear CK hon hsc hq hfs
   go_wp2_with fail
   go_loopg [] (s.size - f) (fun g wr => ∃ (f:Nat) (v:Value) (l:List Tk),f+g=s.size∧LR w s wr f v l)
   case atStart => exact ⟨f,_,_,by have:=LR0.out.up;omega,LR0.out⟩
   case round =>
    clear LR0 HR HL
    obtain ⟨f,v,l,hfg,hlr⟩:=hrel
    have R:=Lib.hid hlr
    obtain ⟨y0,y1,y2,yf⟩:=hlr.sc.cells
    have hX:=hlr.sc.lt
    clear hlr
    by_cases hf:f < s.size
    ·have hf':(f:Int) < (s.size:Int):=by omega
     have CO:=Lib.hid (one_any' s hs R.out.sc R.out.own hf (R.out.nb hf) R.out.few)
     have hres:=R.out.res
     rw [if_neg (by omega)] at hres
     obtain ⟨r,hr⟩:∃ r,oneN s f l=r:=⟨_,rfl⟩
     have HR:=Lib.hid hr
     rw [hr] at CO hres
     have HRES:=Lib.hid hres
     clear hr hres
     go_wp2_with fail
     refine CO.out.mono ?_
     rintro e w1 ⟨hq,hbel⟩
     clear CO
     cases r with
     | bad p er =>
      have hq:e=.panicked [wrongE p er]:=hq
      subst hq
      have B1:=Lib.hid (R.out.bx.on hbel)
      have HQ:=Lib.hid (show lexN s=.bad p er from HRES.out)
      have HNZ:er≠0:=oneN_bad HR.out
      clear hbel
      obtain ⟨c0,g0,c1,g1,c2,g2⟩:=B1.out.cells
      go_wp2_with fail
      show Leaves _ _ _ _ _ _ _
      refine leaves_cons (f:=67) (args:=#[.pointer (some ⟨w.heap.size,0,none⟩),.pointer (some ⟨w.heap.size+1,0,none⟩),.pointer (some ⟨w.heap.size+1+1,0,none⟩)]) (by simp) (by simp [go_sem]) ?_
      refine (tcatch_panicking w.heap.size _ _ _ p er [] _ c0 g0 c1 g1 c2 g2 (by have:=B1.out.lt;omega)).mono ?_
      rintro e u' w'' ⟨rfl,rfl,h4,p0,p1,p2⟩
      have HE:=Lib.hid (B1.out.low.trans h4)
      have HTQ:=Lib.hid (tokQ_bad (B:=w.heap.size) (w':=w'') HQ.out HNZ)
      simp [Leaves,settle,results,Tryz.results32,go_sem,p0,p1,p2]
      exact ⟨⟨_,_,_,⟨rfl,rfl,rfl⟩,HTQ.out⟩,HE.out⟩
     | ok x =>
      obtain ⟨rfl,v',hsc,hown⟩:e=.returned (.tuple #[])∧∃ v',Sc w1 (w.heap.size+3) s x.b v'∧w1.ownsRow (w.heap.size+3) 116 4 v' (l.length+1) (tkCells (l++[x])):=hq
      have hx:=oneN_ok HR.out hf
      have BX1:=Lib.hid (R.out.bx.on hbel)
      have MX1:=Lib.hid ((BX1.out.low.cell (p:=⟨2,0,none⟩) hw0).trans HMX.out)
      have CK:=Lib.hid (skip_any s hs hsc hx.2.2.2.1 (by omega) MX1.out)
      obtain ⟨r,hr⟩:∃ r,betN s x.b=r:=⟨_,rfl⟩
      have HR2:=Lib.hid hr
      rw [hr] at CK
      clear hr
      obtain ⟨f2,ok⟩:=r
      have HOW:=Lib.hid hown
      have HX:=Lib.hid hx
      have HSC:=Lib.hid hsc
      clear hown hx hsc hbel
      go_wp2_with fail
      refine CK.out.mono ?_
      rintro e w2 ⟨hq,hon⟩
      clear CK
      cases ok
      ·have hq:e=.panicked [wrongE f2 31]:=by simpa using hq
       subst hq
       have B1:=Lib.hid (BX1.out.on hon.low)
       have HQ:=Lib.hid (show lexN s=.bad f2 31 from HRES.out.trans (skip_bad HR2.out))
       have HNZ:(31:Int)≠0:=by decide
       clear hon
       obtain ⟨c0,g0,c1,g1,c2,g2⟩:=B1.out.cells
       go_wp2_with fail
       show Leaves _ _ _ _ _ _ _
       refine leaves_cons (f:=67) (args:=#[.pointer (some ⟨w.heap.size,0,none⟩),.pointer (some ⟨w.heap.size+1,0,none⟩),.pointer (some ⟨w.heap.size+1+1,0,none⟩)]) (by simp) (by simp [go_sem]) ?_
       refine (tcatch_panicking w.heap.size _ _ _ f2 31 [] _ c0 g0 c1 g1 c2 g2 (by have:=B1.out.lt;omega)).mono ?_
       rintro e u' w'' ⟨rfl,rfl,h4,p0,p1,p2⟩
       have HE:=Lib.hid (B1.out.low.trans h4)
       have HTQ:=Lib.hid (tokQ_bad (B:=w.heap.size) (w':=w'') HQ.out HNZ)
       simp [Leaves,settle,results,Tryz.results32,go_sem,p0,p1,p2]
       exact ⟨⟨_,_,_,⟨rfl,rfl,rfl⟩,HTQ.out⟩,HE.out⟩
      ·obtain ⟨rfl,hsc⟩:e=.returned (.tuple #[])∧Sc w2 (w.heap.size+3) s f2 v':=by simpa using hq
       have hb2:=betN_ge (s:=s) (j:=x.b) HX.out.2.2.2.1
       rw [HR2.out] at hb2
       dsimp only at hb2
       have LR1:=Lib.hid (show LR w s w2 f2 v' (l++[x]) from ⟨BX1.out.on hon.low,hsc,by rw [List.length_append];exact own_onx HOW.out HSC.out hon,by have:=R.out.few;have:=HX.out.2.2.2.2;simp;omega,hb2.2,fun h => betN_blank HR2.out h,HRES.out.trans (skip_end HX.out.2.2.2.1 HR2.out)⟩)
       have hgf:s.size - f2 < gk:=by have:=HX.out.2.2.1;omega
       clear hon hsc hq hb2
       go_wp2_with fail
       go_roundg (s.size - f2)
       case measure => exact hgf
       case rel => exact ⟨f2,_,_,by have:=LR1.out.up;omega,LR1.out⟩
    ·obtain rfl:f=s.size:=by have:=R.out.up;omega
     have HQ:=Lib.hid (show lexN s=.ok l from by have:=R.out.res;rw [if_pos rfl] at this;exact this)
     obtain ⟨c0,f0,c1,f1,c2,f2⟩:=R.out.bx.cells
     obtain ⟨A,cp,rfl,_,_,_,_⟩:=own_open R.out.own
     have hB2:=R.out.bx.lt
     have hB0:w.heap.size < wr.heap.size:=by omega
     have hB1:w.heap.size+1 < wr.heap.size:=by omega
     have hB3:w.heap.size+1+1 < wr.heap.size:=by omega
     go_wp2_with fail
     show Leaves _ _ _ _ _ _ _
     refine leaves_cons (f:=67) (args:=#[.pointer (some ⟨w.heap.size,0,none⟩),.pointer (some ⟨w.heap.size+1,0,none⟩),.pointer (some ⟨w.heap.size+1+1,0,none⟩)]) (by simp) (by simp [go_sem]) ?_
     refine (tcatch_idle _ _ _ _).mono ?_
     rintro e u' w'' ⟨rfl,rfl,rfl⟩
     have HE:=Lib.hid (((R.out.bx.low.setCell (p:=⟨w.heap.size,0,none⟩) (Nat.le_refl _) (.slice A l.length cp)).setCell (p:=⟨w.heap.size+1,0,none⟩) (by simp) (.int .i64 0)).setCell (p:=⟨w.heap.size+1+1,0,none⟩) (by simp;omega) (.int .i64 0))
     have hk:∀ g,w.heap.size+3≤g→(((wr.setCell ⟨w.heap.size,0,none⟩ (.slice A l.length cp)).setCell ⟨w.heap.size+1,0,none⟩ (.int .i64 0)).setCell ⟨w.heap.size+1+1,0,none⟩ (.int .i64 0)).heap[g]? =wr.heap[g]?:=fun g hg =>
      (Below.heap_setCell _ _ _ _ (by show g≠w.heap.size+1+1;omega)).trans ((Below.heap_setCell _ _ _ _ (by show g≠w.heap.size+1;omega)).trans (Below.heap_setCell _ _ _ _ (by show g≠w.heap.size;omega)))
     have HT:=Lib.hid (tokQ_ok (B:=w.heap.size) HQ.out rfl (ownsRow_more (own_keep R.out.own fun g hg => hk g (R.out.own.lt g hg).1) (by omega)) R.out.few hs (lexN_ok HQ.out).2.2)
     clear hk
     simp [Leaves,settle,results,Tryz.results32,go_sem,World.cell?_setCell_other,World.cell?_setCell_same,c0,c1,c2]
     exact ⟨⟨_,_,_,⟨rfl,rfl,rfl⟩,HT.out⟩,HE.out⟩
end Go.Proofs.YtdgpmpccfjmmcaaGreatDoor
namespace Go.Proofs.YtdgpmpccfjmmcaaGreatDoor
open Go.RowKit
structure By (w wr:World) (B:Nat) (v:Value):Prop where
 b0:wr.heap[B]? =some (.cells #[v] 43 (0,0))
 b1:wr.heap[B+1]? =some (.cells #[.int .i64 0] 3 (0,0))
 b2:wr.heap[B+2]? =some (.cells #[.int .i64 0] 34 (0,0))
 low:Below B w wr
 lt:B+2 < wr.heap.size
theorem By.cells {w wr:World} {B:Nat} {v:Value} (h:By w wr B v):wr.cell? ⟨B,0,none⟩=some v∧wr.frozen? ⟨B,0,none⟩=false∧wr.cell? ⟨B+1,0,none⟩=some (.int .i64 0)∧wr.frozen? ⟨B+1,0,none⟩=false∧wr.cell? ⟨B+2,0,none⟩=some (.int .i64 0)∧wr.frozen? ⟨B+2,0,none⟩=false:=
 ⟨cell_of_row _ _ 0 _ _ _ h.b0,by simp [World.frozen?,h.b0],cell_of_row _ _ 0 _ _ _ h.b1,by simp [World.frozen?,h.b1],cell_of_row _ _ 0 _ _ _ h.b2,by simp [World.frozen?,h.b2]⟩
theorem by_new (w:World):By w (((w.alloc (Obj.cells #[.slice none 0 0] 43)).alloc (Obj.cells #[.int .i64 0] 3)).alloc (Obj.cells #[.int .i64 0] 34)) w.heap.size (.slice none 0 0):=by
 have step:∀ (u:World) (o o':Obj) (g:Nat),u.heap[g]? =some o'→(u.alloc o).heap[g]? =some o':=fun u o o' g h => (Below.heap_alloc _ _ _ (heap_lt h)).trans h
 have nw:∀ (u:World) (o:Obj) (g:Nat),g=u.heap.size→(u.alloc o).heap[g]? =some o:=fun u o g h => heap_at u o h
 exact ⟨step _ _ _ _ (step _ _ _ _ (nw _ _ _ rfl)),step _ _ _ _ (nw _ _ _ (by simp)),nw _ _ _ (by simp),(((Below.refl _ _).alloc (Nat.le_refl _) _).alloc (by simp) _).alloc (by simp;omega) _,by simp⟩
theorem By.on {w wr w':World} {B:Nat} {v:Value} (h:By w wr B v) (hb:Below (B+3) wr w'):By w w' B v:=
 ⟨(hb.block B (by omega)).trans h.b0,(hb.block (B+1) (by omega)).trans h.b1,(hb.block (B+2) (by omega)).trans h.b2,h.low.trans (hb.mono (by omega)),Nat.lt_of_lt_of_le h.lt hb.size⟩
theorem By.grown {w wr w':World} {B n:Nat} {v o:Value} {xs:List Value} (h:By w wr B v) (hg:wr.grownBy w' o.ownBlock) (ho:wr.ownsRow B 54 5 o n xs):By w w' B v:=by
 have hs:=h.lt
 exact ⟨(hg.block _ (heap_lt h.b0) (own_ne5 ho h.b0 (by decide))).trans h.b0,(hg.block _ (heap_lt h.b1) (own_ne5 ho h.b1 (by decide))).trans h.b1,(hg.block _ (heap_lt h.b2) (own_ne5 ho h.b2 (by decide))).trans h.b2,
  h.low.grown hg (by omega) fun k hk => (ho.lt k hk).1,Nat.lt_of_lt_of_le hs hg.size⟩
theorem By.set {w wr:World} {B:Nat} {v:Value} (h:By w wr B v) (u:Value):By w (wr.setCell ⟨B,0,none⟩ u) B u:=
 ⟨by simpa using blk_set h.b0 0 u,(Below.heap_setCell _ _ _ _ (by show B+1≠B;omega)).trans h.b1,(Below.heap_setCell _ _ _ _ (by show B+2≠B;omega)).trans h.b2,h.low.setCell (p:=⟨B,0,none⟩) (Nat.le_refl _) u,by rw [World.size_setCell];exact h.lt⟩
theorem RdI.below {c:Rdc} {w wr w':World} {j:Nat} {o:Value} {xs:List Value} {ss:List (T × List ByteArray)} (h:RdI c w wr j o xs ss) (hb:Below wr.heap.size wr w'):RdI c w w' j o xs ss:=by
 obtain ⟨⟨ns,hp⟩,hl,ho,hs,hf⟩:=h
 exact ⟨⟨ns,hp.below hb⟩,hl.trans (hb.mono hl.size),own_below ho hb,hs.keep fun b cs t f hh _ => (hb.block b (heap_lt hh)).trans hh,hf⟩
theorem By.zero {w wr:World} {B:Nat} {v:Value} (h:By w wr B v):By w (wr.setCell ⟨B+1+1,0,none⟩ (.int .i64 0)) B v:=
 ⟨(Below.heap_setCell _ _ _ _ (by show B≠B+1+1;omega)).trans h.b0,(Below.heap_setCell _ _ _ _ (by show B+1≠B+1+1;omega)).trans h.b1,by simpa using blk_set h.b2 0 (.int .i64 0),h.low.setCell (p:=⟨B+1+1,0,none⟩) (by show B≤B+1+1;omega) _,by rw [World.size_setCell];exact h.lt⟩
theorem RdI.cells {c:Rdc} {w wr:World} {j:Nat} {o:Value} {xs:List Value} {ss:Sens} (h:RdI c w wr j o xs ss):∃ A m,wr.cell? ⟨c.R,1,none⟩=some (.slice A (c.tn - j) m)∧j≤c.tn∧c.tn≤1000:=by
 obtain ⟨⟨ns,ht,hf,lv,nv,nn,hr⟩,_⟩:=h
 obtain ⟨A,m,rfl,_⟩:=hr.lok
 exact ⟨A,m,hr.cells.2.1,hr.up,ht.few⟩
theorem RdI.ev {c:Rdc} {w wr:World} {j:Nat} {o:Value} {xs:List Value} {ss:Sens} (h:RdI c w wr j o xs ss) (h1:TabX w) (h2:ErrX w) (h3:TableX w) (hlo:w.heap.size≤c.B) (hN:c.N=0):Ev c wr:=by
 obtain ⟨⟨ns,hp⟩,hl,_⟩:=h
 exact ⟨by rw [hN];exact hp.base,w,h1,h2,h3,hlo,hl⟩
end Go.Proofs.YtdgpmpccfjmmcaaGreatDoor
