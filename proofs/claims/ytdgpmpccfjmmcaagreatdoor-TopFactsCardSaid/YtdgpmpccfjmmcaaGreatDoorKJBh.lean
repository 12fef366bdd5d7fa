/- The program's Run:what is made ahead of it. A program of facts,as the machine's. TopFacts' sentences are facts,plainly. -/
import Derived.Test.YtdgpmpccfjmmcaaGreatDoorKJBg
import Derived.Test.YtdgpmpccfjmmcaaGreatDoorKY9
import Derived.Test.YtdgpmpccfjmmcaaGreatDoorKJAz
import Derived.Test.YtdgpmpccfjmmcaaGreatDoorKJAk
set_option linter.unusedVariables false
set_option linter.unusedSimpArgs false
namespace Go.Proofs.YtdgpmpccfjmmcaaGreatDoor
open Go.RowKit
theorem SM.less {w:World} {B B' sb:Nat} {C:List CV} {R:List (CV × Nat)} {M:List (Nat × Nat)} (h:SM w B sb C R M) (hb:B'≤B):SM w B' sb C R M:=by
 obtain ⟨A0,c0,A1,c1,A2,c2,h0,h1,h2,h3⟩:=h.ex
 exact ⟨⟨A0,c0,A1,c1,A2,c2,h0,ownsRow_more h1 hb,ownsRow_more h2 hb,ownsRow_more h3 hb⟩,Nat.le_trans hb h.ge⟩
theorem ST.less {B B':Nat} {w:World} {sb n:Nat} {L:Bp} {M:List (Nat × Nat)} (h:ST B w sb n L M) (hb:B'≤B):ST B' w sb n L M:=by
 obtain ⟨C,R,Hs,h1,h2⟩:=h.ex
 exact ⟨⟨C,R,Hs,h1.less hb,h2⟩,h.hn,h.lq⟩
def mNew (pb b1 b2 b3:Nat):Array Value:=#[.pointer none,.slice none 0 0,.slice none 0 0,.pointer (some ⟨pb,0,none⟩),.int .i64 4000,.int .i64 900,.int .i64 200,.int .i64 40,.pointer (some ⟨b1,0,none⟩),.pointer (some ⟨b2,0,none⟩),.pointer (some ⟨b3,0,none⟩),.slice none 0 0]
theorem st_box {B:Nat} {u:World} {sb n:Nat} {L:Bp} {M:List (Nat × Nat)} (h:ST B u sb n L M) {b:Nat} {cs:Array Value} {f:Nat × Nat} (hb:u.heap[b]? =some (.cells cs 71 f)) (v:Value):ST B (u.setCell ⟨b,0,none⟩ v) sb n L M:=
 h.keep fun k cs' t f' hk ht => (Below.heap_setCell _ _ _ k fun e => by
  have e:k=b:=e
  subst e
  rw [hb] at hk
  injection hk with hk
  injection hk with _ hk
  subst hk
  rcases ht with h | h | h | h | h <;> exact absurd h (by decide)).trans hk
structure RuI (B lb pb:Nat) (w:World) (L:Nat→Bool) (u:World) (u11 u39 u40 u41 u42 u43 u44 u45:Value) (b1 b2 b3 b5 b7:Nat):Prop where
 low:Below B w u
 hB:B≤u.heap.size
 lim:lb < B∧u.heap[lb]? =some (.cells #[.int .i64 4000,.int .i64 900,.int .i64 200,.int .i64 40] 40 (0,0))
 l0:L 0=true→u39=.pointer (some ⟨pb,0,none⟩)
 l1:L 1=true→u40=.agg #[.int .i64 4000,.int .i64 900,.int .i64 200,.int .i64 40]
 l2:L 2=true→u41=.pointer (some ⟨b1,0,none⟩)∧B≤b1∧u.heap[b1]? =some (.cells #[.int .i64 0] 3 (0,0))
 l3:L 3=true→u42=.pointer (some ⟨b2,0,none⟩)
 l4:L 4=true→u43=.pointer (some ⟨b3,0,none⟩)∧ST B u b3 0 [] []
 l5:L 5=true→u44=.agg (mNew pb b1 b2 b3)
 l6:L 6=true→u45=.pointer (some ⟨b5,0,none⟩)∧B≤b5∧u.heap[b5]? =some (.cells (mNew pb b1 b2 b3) 82 (0,0))
 l7:L 7=true→u11=.pointer (some ⟨b7,0,none⟩)∧B≤b7∧u.heap[b7]? =some (.cells #[bif L 8 then .pointer (some ⟨b5,0,none⟩) else .pointer none] 71 (0,0))
 a8:L 8=true→L 7=true
 a5:L 5=true→L 2=true∧L 3=true∧L 4=true
 a6:L 6=true→L 5=true
 a86:L 8=true→L 6=true
theorem RuI.below {B lb pb:Nat} {w u u':World} {L:Nat→Bool} {u11 u39 u40 u41 u42 u43 u44 u45:Value} {b1 b2 b3 b5 b7:Nat} (h:RuI B lb pb w L u u11 u39 u40 u41 u42 u43 u44 u45 b1 b2 b3 b5 b7) (hb:Below u.heap.size u u'):RuI B lb pb w L u' u11 u39 u40 u41 u42 u43 u44 u45 b1 b2 b3 b5 b7:=
 have k:=fun {b:Nat} {o:Obj} (h:u.heap[b]? =some o) => (hb.block b (heap_lt h)).trans h
 ⟨h.low.trans (hb.mono h.hB),Nat.le_trans h.hB hb.size,⟨h.lim.1,k h.lim.2⟩,h.l0,h.l1,fun q => let ⟨a,b,c⟩:=h.l2 q;⟨a,b,k c⟩,h.l3,fun q => let ⟨a,b⟩:=h.l4 q;⟨a,b.below hb⟩,h.l5,fun q => let ⟨a,b,c⟩:=h.l6 q;⟨a,b,k c⟩,fun q => let ⟨a,b,c⟩:=h.l7 q;⟨a,b,k c⟩,h.a8,h.a5,h.a6,h.a86⟩
theorem ta_out (W:World):Sem.run Tryz.prog (Instr.typeAssert .nilIface 20 91 true) W=.ok (.tuple #[.int .i64 0,.bool false]) W:=by kernel_rfl
theorem ta_unc (W:World):Sem.run Tryz.prog (Instr.typeAssert .nilIface 20 93 true) W=.ok (.tuple #[.agg #[.int .i64 0,.int .i64 0,.string ⟨#[]⟩,.slice none 0 0],.bool false]) W:=by kernel_rfl
set_option maxRecDepth 100000 in
set_option maxHeartbeats 16000000 in
theorem prun_any {pr:List Cl0} {pb:Nat} {w:World} {s:ByteArray} {q:P} {mx:Int} (hP:∀ s,w.heap.size≤s→PrM w s pb pr) (hcq:clsQ pr) (hfa:∀ c ∈ pr,c.goals=[]) (hmx:w.cell? ⟨2,0,none⟩=some (.int .i64 mx)) (htab:TabX w) (herr:ErrX w) (hops:TableX w) (hgo:GoalsX w) (hgl:3 < w.heap.size∧0 < w.heap.size)
 (hs:∃ t,OneAs s (t,[ba [65]])∧TEq t q.t) (qq:q.lq) {n:Nat} {ro:Ro Int} (hr:runM (goalF pr) (ansI 900) pr (limTop 40) n (startM q 1) .step []=some ro) (hno:ro.en.isNo=true) :
 Calls Tryz.prog 9 #[.pointer (some ⟨pb,0,none⟩),.string s,.agg #[.int .i64 4000,.int .i64 900,.int .i64 200,.int .i64 40]] w fun e w' => (∃ (v:Value) (st:Int),e=.returned (.tuple #[v,.int .i64 st])∧w'.ownsRow w.heap.size 31 2 v ro.outs.length (ro.outs.flatMap outC))∧Below w.heap.size w w':=by
 obtain ⟨t,hs1,hs2⟩:=hs
 have hw0:=World.block_lt_of_cell? w _ hmx
 dsimp only at hw0
 have B0:=Lib.hid (show Below w.heap.size w (w.alloc (Obj.cells #[.int .i64 4000,.int .i64 900,.int .i64 200,.int .i64 40] 40)) from belA (Below.refl _ _) _)
 have X0:=Lib.hid (show (w.alloc (Obj.cells #[.int .i64 4000,.int .i64 900,.int .i64 200,.int .i64 40] 40)).heap[w.heap.size]? =some (Obj.cells #[.int .i64 4000,.int .i64 900,.int .i64 200,.int .i64 40] 40 (0,0)) from heap_alloc_new _ _)
 have HP:=Lib.hid hP
 have HMX:=Lib.hid hmx
 have HTB:=Lib.hid htab
 have HER:=Lib.hid herr
 have HOP:=Lib.hid hops
 have HGO:=Lib.hid hgo
 have HS1:=Lib.hid hs1
 clear hP hmx htab herr hops hgo hs1
 go_enter Tryz.func9,Tryz.ntmps9
 go_wp2_with fail
 refine (check_top _).mono ?_
 rintro e w1 ⟨rfl,b1⟩
 have B1:=Lib.hid (B0.out.trans (b1.mono B0.out.size))
 have X1:=Lib.hid ((b1.block _ (heap_lt X0.out)).trans X0.out)
 have ON:=Lib.hid (zone_any s w1 HS1.out ((World.cell?_of_block (a:=⟨2,0,none⟩) (B1.out.block _ hw0)).trans HMX.out) (HTB.out.below B1.out) (HER.out.below B1.out) (HOP.out.below B1.out))
 clear b1
 go_wp2_with fail
 refine ON.out.mono ?_
 rintro e w2 ⟨⟨k0,k1,k2,A0,m0,c0,NA,nc,rfl,tp,hnr⟩,b2⟩
 replace hnr:w2.ownsRow w1.heap.size 9 1 (.slice NA 1 nc) 1 [.string (ba [65])]:=hnr
 have TQ:=Lib.hid (hs2 _ _ _ (tp.more fun _ _ => trivial))
 have NR:=Lib.hid hnr
 have B2:=Lib.hid (B1.out.trans (b2.mono B1.out.size))
 have X2:=Lib.hid ((b2.block _ (heap_lt X1.out)).trans X1.out)
 clear tp hnr b2 ON
 go_upto_region 6 with fail
 have X3:=Lib.hid ((Below.heap_alloc w2 (Obj.cells #[.int .i64 k0,.int .i64 k1,.string k2,.slice A0 m0 c0,.slice NA 1 nc] 54) _ (heap_lt X2.out)).trans X2.out)
 have Q3:=Lib.hid (heap_alloc_new w2 (Obj.cells #[.int .i64 k0,.int .i64 k1,.string k2,.slice A0 m0 c0,.slice NA 1 nc] 54))
 have B3:=Lib.hid (belA B2.out (Obj.cells #[.int .i64 k0,.int .i64 k1,.string k2,.slice A0 m0 c0,.slice NA 1 nc] 54))
 have T3:=Lib.hid (TQ.out.below (belA (Below.refl _ _) (Obj.cells #[.int .i64 k0,.int .i64 k1,.string k2,.slice A0 m0 c0,.slice NA 1 nc] 54)))
 have N3:=Lib.hid (own_below NR.out (belA (Below.refl _ _) (Obj.cells #[.int .i64 k0,.int .i64 k1,.string k2,.slice A0 m0 c0,.slice NA 1 nc] 54)))
 generalize (w2.alloc (Obj.cells #[.int .i64 k0,.int .i64 k1,.string k2,.slice A0 m0 c0,.slice NA 1 nc] 54))=W3 at X3 Q3 B3 T3 N3 ⊢
 go_cut [11] (fun u11 wx => ∃ b1 b2 b3 b5 b7,u11=.pointer (some ⟨b7,0,none⟩)∧Hid (Below W3.heap.size W3 wx∧W3.heap.size≤b1∧wx.heap[b1]? =some (.cells #[.int .i64 0] 3 (0,0))∧ST W3.heap.size wx b3 0 [] []∧W3.heap.size≤b5∧wx.heap[b5]? =some (.cells (mNew pb b1 b2 b3) 82 (0,0))∧wx.heap[b7]? =some (.cells #[.pointer (some ⟨b5,0,none⟩)] 71 (0,0))))
 case first =>
  refine rgI (fun L a u => ∃ u11 u39 u40 u41 u42 u43 u44 u45 b1 b2 b3 b5 b7,a.tmps= #[.pointer (some ⟨pb,0,none⟩),.string s,.agg #[.int .i64 4000,.int .i64 900,.int .i64 200,.int .i64 40],undef,undef,.pointer (some ⟨w.heap.size,0,none⟩),.slice none 0 0,.int .i64 0,.pointer (some ⟨w2.heap.size,0,none⟩),.int .i64 0,.int .i64 0,u11,undef,undef,undef,undef,undef,undef,.agg #[.int .i64 4000,.int .i64 900,.int .i64 200,.int .i64 40],.int .i64 0,.bool false,undef,undef,(.tuple #[(.agg #[.int .i64 k0,.int .i64 k1,.string k2,.slice A0 m0 c0,.slice NA 1 nc]),.int .i64 0,.int .i64 0]),.string s,(.tuple #[(.agg #[.int .i64 k0,.int .i64 k1,.string k2,.slice A0 m0 c0,.slice NA 1 nc]),.int .i64 0,.int .i64 0]),(.agg #[.int .i64 k0,.int .i64 k1,.string k2,.slice A0 m0 c0,.slice NA 1 nc]),.int .i64 0,.int .i64 0,.int .i64 0,.bool false,undef,undef,undef,undef,undef,undef,undef,undef,u39,u40,u41,u42,u43,u44,u45,undef,undef,undef,undef,undef,undef,undef,undef,undef,undef,undef,undef,undef,undef,undef,undef,undef,undef,undef,undef,undef,undef,undef,undef,undef,undef,undef,undef,undef,undef,undef,undef,undef,undef,undef,undef,undef,undef,undef,undef,undef,undef,undef,undef,undef,undef,undef,undef,undef,undef,undef,undef,undef,undef,undef,undef,undef,undef]∧a.defers=[]∧RuI W3.heap.size w.heap.size pb W3 L u u11 u39 u40 u41 u42 u43 u44 u45 b1 b2 b3 b5 b7) ?_ ?_ ?_
  ·exact ⟨_,_,_,_,_,_,_,_,0,0,0,0,0,rfl,rfl,⟨(Below.refl _ _).drew,Nat.le_refl _,⟨heap_lt X3.out,X3.out⟩,nofun,nofun,nofun,nofun,nofun,nofun,nofun,nofun,nofun,nofun,nofun,nofun⟩⟩
  ·intro i hi
   match i,hi with
   | 0,_ =>
    rintro L ⟨_,_⟩ u hL hd ⟨u11,u39,u40,u41,u42,u43,u44,u45,b1,b2,b3,b5,b7,rfl,rfl,J⟩ K hK
    simp only [opD]
    go_simp
    refine hK _ _ ⟨_,_,_,_,_,_,_,_,b1,b2,b3,b5,b7,rfl,rfl,{J with l0:=fun _ => rfl}⟩
   | 1,_ =>
    rintro L ⟨_,_⟩ u hL hd ⟨u11,u39,u40,u41,u42,u43,u44,u45,b1,b2,b3,b5,b7,rfl,rfl,J⟩ K hK
    obtain ⟨c0,c1,c2,c3⟩:=box4 J.lim.2
    simp only [opD]
    go_simp
    refine hK _ _ ⟨_,_,_,_,_,_,_,_,b1,b2,b3,b5,b7,rfl,rfl,{J with l1:=fun _ => rfl}⟩
   | 2,_ =>
    rintro L ⟨_,_⟩ u hL hd ⟨u11,u39,u40,u41,u42,u43,u44,u45,b1,b2,b3,b5,b7,rfl,rfl,J⟩ K hK
    have h5:L 5=false:=Bool.eq_false_iff.2 fun h => by rw [(J.a5 h).1] at hL;cases hL
    simp only [opD]
    go_simp
    refine hK _ _ ⟨_,_,_,_,_,_,_,_,u.heap.size,b2,b3,b5,b7,rfl,rfl,{J.below (belA (Below.refl _ _) _) with l2:=fun _ => ⟨rfl,J.hB,heap_alloc_new _ _⟩,l5:=(fun h => by have h:L 5=true:=h;rw [h5] at h;cases h),l6:=(fun h => by have h:L 6=true:=h;have h:=J.a6 h;rw [h5] at h;cases h),a5:=(fun h => by have h:L 5=true:=h;rw [h5] at h;cases h)}⟩
   | 3,_ =>
    rintro L ⟨_,_⟩ u hL hd ⟨u11,u39,u40,u41,u42,u43,u44,u45,b1,b2,b3,b5,b7,rfl,rfl,J⟩ K hK
    have h5:L 5=false:=Bool.eq_false_iff.2 fun h => by rw [(J.a5 h).2.1] at hL;cases hL
    simp only [opD]
    go_simp
    refine hK _ _ ⟨_,_,_,_,_,_,_,_,b1,u.heap.size,b3,b5,b7,rfl,rfl,{J.below (belA (Below.refl _ _) _) with l3:=fun _ => rfl,l5:=(fun h => by have h:L 5=true:=h;rw [h5] at h;cases h),l6:=(fun h => by have h:L 6=true:=h;have h:=J.a6 h;rw [h5] at h;cases h),a5:=(fun h => by have h:L 5=true:=h;rw [h5] at h;cases h)}⟩
   | 4,_ =>
    rintro L ⟨_,_⟩ u hL hd ⟨u11,u39,u40,u41,u42,u43,u44,u45,b1,b2,b3,b5,b7,rfl,rfl,J⟩ K hK
    have h5:L 5=false:=Bool.eq_false_iff.2 fun h => by rw [(J.a5 h).2.2] at hL;cases hL
    simp only [opD]
    go_simp
    refine st_new.mono ?_
    rintro e w9 ⟨rfl,hst,hb9⟩
    refine hK _ _ ⟨_,_,_,_,_,_,_,_,b1,b2,u.heap.size,b5,b7,rfl,rfl,{J.below hb9 with l4:=fun _ => ⟨rfl,hst.less J.hB⟩,l5:=(fun h => by have h:L 5=true:=h;rw [h5] at h;cases h),l6:=(fun h => by have h:L 6=true:=h;have h:=J.a6 h;rw [h5] at h;cases h),a5:=(fun h => by have h:L 5=true:=h;rw [h5] at h;cases h)}⟩
   | 5,_ =>
    rintro L ⟨_,_⟩ u hL hd ⟨u11,u39,u40,u41,u42,u43,u44,u45,b1,b2,b3,b5,b7,rfl,rfl,J⟩ K hK
    have d2:=dep 2 hd
    have d3:=dep 3 hd
    have d4:=dep 4 hd
    obtain rfl:=J.l0 (dep 0 hd)
    obtain rfl:=J.l1 (dep 1 hd)
    obtain ⟨rfl,_⟩:=J.l2 (dep 2 hd)
    obtain rfl:=J.l3 (dep 3 hd)
    obtain ⟨rfl,_⟩:=J.l4 (dep 4 hd)
    simp only [opD]
    go_simp
    refine hK _ _ ⟨_,_,_,_,_,_,_,_,b1,b2,b3,b5,b7,rfl,rfl,{J with l5:=fun _ => rfl,a5:=fun _ => ⟨d2,d3,d4⟩,l6:=fun h => J.l6 h,a6:=fun _ => rfl}⟩
   | 6,_ =>
    rintro L ⟨_,_⟩ u hL hd ⟨u11,u39,u40,u41,u42,u43,u44,u45,b1,b2,b3,b5,b7,rfl,rfl,J⟩ K hK
    have d5:=dep 5 hd
    have h8:L 8=false:=Bool.eq_false_iff.2 fun h => by rw [J.a86 h] at hL;cases hL
    obtain rfl:=J.l5 (dep 5 hd)
    unfold mNew
    simp only [opD]
    go_simp
    refine hK _ _ ⟨_,_,_,_,_,_,_,_,b1,b2,b3,u.heap.size,b7,rfl,rfl,{J.below (belA (Below.refl _ _) _) with l6:=fun _ => ⟨rfl,J.hB,heap_alloc_new _ _⟩,l7:=fun h => ?_,a6:=fun _ => d5,a86:=fun _ => rfl}⟩
    have h:L 7=true:=h
    obtain ⟨e1,e2,e3⟩:=J.l7 h
    rw [h8] at e3
    refine ⟨e1,e2,?_⟩
    have e8:upd L 6 8=false:=h8
    rw [e8]
    exact (Below.heap_alloc _ _ _ (heap_lt e3)).trans e3
   | 7,_ =>
    rintro L ⟨_,_⟩ u hL hd ⟨u11,u39,u40,u41,u42,u43,u44,u45,b1,b2,b3,b5,b7,rfl,rfl,J⟩ K hK
    have h8:L 8=false:=Bool.eq_false_iff.2 fun h => by rw [J.a8 h] at hL;cases hL
    simp only [opD]
    go_simp
    refine hK _ _ ⟨_,_,_,_,_,_,_,_,b1,b2,b3,b5,u.heap.size,rfl,rfl,{J.below (belA (Below.refl _ _) _) with l7:=fun _ => ⟨rfl,J.hB,?_⟩,a8:=fun _ => rfl}⟩
    have e8:upd L 7 8=false:=h8
    rw [e8]
    exact heap_alloc_new _ _
   | 8,_ =>
    rintro L ⟨_,_⟩ u hL hd ⟨u11,u39,u40,u41,u42,u43,u44,u45,b1,b2,b3,b5,b7,rfl,rfl,J⟩ K hK
    have d6:=dep 6 hd
    have d7:=dep 7 hd
    obtain ⟨rfl,hb5,x5⟩:=J.l6 d6
    obtain ⟨rfl,hb7,x7⟩:=J.l7 d7
    rw [hL] at x7
    have c7:=cell_of_row _ _ 0 _ _ _ x7
    have f7:u.frozen? ⟨b7,0,none⟩=false:=by simp [World.frozen?,x7]
    have hl7:=heap_lt x7
    have far:∀ {b:Nat} {cs:Array Value} {t:TypeId} {f:Nat × Nat},u.heap[b]? =some (.cells cs t f)→t≠71→(u.setCell ⟨b7,0,none⟩ (.pointer (some ⟨b5,0,none⟩))).heap[b]? =some (.cells cs t f):=fun {b cs t f} hb ht => (Below.heap_setCell _ _ _ b fun e => by
     have e:b=b7:=e
     subst e
     rw [x7] at hb
     injection hb with hb
     injection hb with _ hb
     exact ht hb.symm).trans hb
    simp only [opD]
    go_simp
    refine hK _ _ ⟨_,_,_,_,_,_,_,_,b1,b2,b3,b5,b7,rfl,rfl,{J with low:=J.low.setCell (p:=⟨b7,0,none⟩) hb7 _,hB:=by simpa using J.hB,lim:=⟨J.lim.1,far J.lim.2 (by decide)⟩,l2:=fun h => let ⟨a,b,c⟩:=J.l2 h;⟨a,b,far c (by decide)⟩,l4:=fun h => let ⟨a,b⟩:=J.l4 h;⟨a,st_box b x7 _⟩,l6:=fun _ => ⟨rfl,hb5,far x5 (by decide)⟩,l7:=fun _ => ⟨rfl,hb7,?_⟩,a8:=fun _ => d7,a86:=fun _ => d6}⟩
    have:=blk_set x7 0 (.pointer (some ⟨b5,0,none⟩))
    simpa [upd] using this
   | _+9,h => exact absurd h (by simp)
  ·rintro L ⟨_,_⟩ u hL ⟨u11,u39,u40,u41,u42,u43,u44,u45,b1,b2,b3,b5,b7,rfl,rfl,J⟩
   obtain ⟨rfl,hb5,x5⟩:=J.l6 (hL 6 (by decide))
   obtain ⟨rfl,hb7,x7⟩:=J.l7 (hL 7 (by decide))
   obtain ⟨_,hb1,x1⟩:=J.l2 (hL 2 (by decide))
   obtain ⟨_,hst⟩:=J.l4 (hL 4 (by decide))
   rw [hL 8 (by decide)] at x7
   have FIN:=Lib.hid (show Below W3.heap.size W3 u∧W3.heap.size≤b1∧u.heap[b1]? =some (.cells #[.int .i64 0] 3 (0,0))∧ST W3.heap.size u b3 0 [] []∧W3.heap.size≤b5∧u.heap[b5]? =some (.cells (mNew pb b1 b2 b3) 82 (0,0))∧u.heap[b7]? =some (.cells #[.pointer (some ⟨b5,0,none⟩)] 71 (0,0)) from ⟨J.low,hb1,x1,hst,hb5,x5,x7⟩)
   clear x5 x7 x1 hst J
   go_wp2_with fail
   go_meet
   exact ⟨b1,b2,b3,b5,b7,rfl,FIN⟩
 case rest =>
  obtain ⟨b1,b2,b3,b5,b7,rfl,hcut⟩:=hcut
  obtain ⟨bc,h1,x1,hst,h5,x5,x7⟩:=hcut.out
  apply_assumption
  have hwB:=B3.out.size
  have BC:=Lib.hid (B3.out.trans (bc.mono hwB))
  have hq3:=heap_lt Q3.out
  have hl3:=heap_lt X3.out
  have QC:=Lib.hid ((bc.block _ hq3).trans Q3.out)
  have LC:=Lib.hid ((bc.block _ hl3).trans X3.out)
  have TC:=Lib.hid (T3.out.below bc)
  have NC:=Lib.hid (own_below N3.out bc)
  obtain ⟨X,hX⟩:∃ X:MX,X=⟨w.heap.size,b5,b1,pb,b3,b2,limTop 40,pr⟩:=⟨_,rfl⟩
  have M:=Lib.hid (show MSt X {fr:=[],ch:=[],n:=0,L:=[],M:=[],steps:=0} wc from by
   subst hX
   exact ⟨⟨.pointer none,.slice none 0 0,x5,rfl,[],rfl,World.ownsRow_nil _ _ _ _,(fun i c cs hc => by cases hc)⟩,x1,hst.less hwB,(HP.out b1 (by omega)).keep (KeepT.of BC.out),⟨Nat.le_trans hwB h5,Nat.le_trans hwB h1⟩,hcq,(fun f hf => by cases hf),(fun c hc => by cases hc)⟩)
  have X5:=Lib.hid x5
  have X7:=Lib.hid x7
  have hb5:=heap_lt x5
  have hb7:=heap_lt x7
  have hb1:=heap_lt x1
  have hqc:=heap_lt QC.out
  have hlc:=heap_lt LC.out
  have hn57:b7≠b5:=fun e => by
   subst e
   rw [x5] at x7
   injection x7 with x7
   injection x7 with _ x7
   exact absurd x7 (by decide)
  have hn17:b7≠b1:=fun e => by
   subst e
   rw [x1] at x7
   injection x7 with x7
   injection x7 with _ x7
   exact absurd x7 (by decide)
  clear x1 x5 x7 hst bc hcut
  go_upto_region 7 with fail
  have Bd:=Lib.hid (show Below wc.heap.size wc wc.drew from (Below.refl _ _).drew)
  refine rg [(0,fun u => AC u b7 0 [.pointer (some ⟨b5,0,none⟩)]),(3,fun u => AC u b5 10 [.pointer (some ⟨b3,0,none⟩)]),(5,fun u => AC u w2.heap.size 4 [.slice NA 1 nc])]
   (hS:=⟨⟨cell_of_row _ _ 0 _ _ _ ((Bd.out.block _ hb7).trans X7.out),trivial⟩,⟨cell_of_row _ _ 10 _ _ _ ((Bd.out.block _ hb5).trans X5.out),trivial⟩,⟨cell_of_row _ _ 4 _ _ _ ((Bd.out.block _ hqc).trans QC.out),trivial⟩,trivial⟩) (h:=fun hH => ?_)
  generalize wc.drew=Wd at Bd hH ⊢
  have M1:=Lib.hid (M.out.below Bd.out)
  have hXs:X.sb=b3:=by rw [hX]
  have FR:=Lib.hid (st_fresh M1.out.st 1 (by show 0+1≤1000;omega))
  rw [hXs] at FR
  clear hXs
  refine tl 0 (h:=tp 1 (h:=tp 2 (h:=tl 3 (h:=tp 4 (h:=tl 5 (h:=tp 6 (h:=r1 7 [] (h:=fun K hK => ?_))))))))
  go_simp
  refine FR.out.mono ?_
  rintro e w4 ⟨rfl,s4,f4⟩
  have hXs:X.sb=b3:=by rw [hX]
  have M4:=Lib.hid (M1.out.store f4 (by rw [hXs];exact s4))
  have nst:∀ {cs:Array Value} {f:Nat × Nat} {t:TypeId},(t == 121 || t == 220 || t == 222 || t == 276)=false→NotSt (.cells cs t f):=fun {cs f t} ht cs' t' f' e => by
   simp at ht
   injection e with _ e
   subst e
   simp [ht]
  have k4:∀ {b:Nat} {cs:Array Value} {t:TypeId} {f:Nat × Nat},wc.heap[b]? =some (.cells cs t f)→(t == 121 || t == 220 || t == 222 || t == 276)=false→w4.heap[b]? =some (.cells cs t f):=fun {b cs t f} hb ht => f4.far _ _ ((Bd.out.block _ (heap_lt hb)).trans hb) (nst ht)
  have X54:=Lib.hid (k4 X5.out rfl)
  have X74:=Lib.hid (k4 X7.out rfl)
  have Q4:=Lib.hid (k4 QC.out rfl)
  have L4:=Lib.hid (k4 LC.out rfl)
  have T4:=Lib.hid (TC.out.keep fun b cs f _ hh => ⟨k4 hh rfl,trivial⟩)
  have N4:=Lib.hid (own_keep NC.out fun g hg => by
   obtain ⟨cs,f,hh⟩:=Go.Lib.ownsRow_kind NC.out g hg
   exact (k4 hh rfl).trans hh.symm)
  have hXB:X.B=w.heap.size:=by rw [hX]
  have L04:=Lib.hid (show Below w.heap.size w w4 from by
   have:=f4.low
   rw [hXB] at this
   exact (BC.out.trans (Bd.out.mono BC.out.size)).trans this)
  refine hK.out _ _ trivial (fun _ => ?_)
  clear hK K s4 f4 nst k4 hH FR
  refine dn (h:=?_)
  go_upto_region 8 with fail
  have hb54:=heap_lt X54.out
  have hb74:=heap_lt X74.out
  have hq4:=heap_lt Q4.out
  obtain ⟨fv4,cv4,hbx4,hfl4,-⟩:=M4.out.box
  obtain rfl:fv4=.pointer none:=hfl4
  have hXm:X.mb=b5:=by rw [hX]
  rw [hXm] at hbx4
  have BX4:=Lib.hid hbx4
  have Be:=Lib.hid (show Below w4.heap.size w4 w4.drew from (Below.refl _ _).drew)
  have a0:=fun (B:World) (hB:Below w4.heap.size w4 B) => (show AC B b7 0 [.pointer (some ⟨b5,0,none⟩)] from ⟨cell_of_row _ _ 0 _ _ _ ((hB.block _ hb74).trans X74.out),trivial⟩)
  have a5:=fun (B:World) (hB:Below w4.heap.size w4 B) => (show AC B b5 0 [.pointer none] from ⟨cell_of_row _ _ 0 _ _ _ ((hB.block _ hb54).trans BX4.out),trivial⟩)
  have qa:=(Be.out.block _ hq4).trans Q4.out
  clear hbx4
  refine rg [(0,fun u => AC u b7 0 [.pointer (some ⟨b5,0,none⟩)]),(1,fun u => AC u b7 0 [.pointer (some ⟨b5,0,none⟩)]),(5,fun u => AC u b5 0 [.pointer none]),(7,fun u => AC u w2.heap.size 0 [.int .i64 k0,.int .i64 k1,.string k2,.slice A0 m0 c0])]
   (hS:=⟨a0 _ Be.out,a0 _ Be.out,a5 _ Be.out,⟨cell_of_row _ _ 0 _ _ _ qa,cell_of_row _ _ 1 _ _ _ qa,cell_of_row _ _ 2 _ _ _ qa,cell_of_row _ _ 3 _ _ _ qa,trivial⟩,trivial⟩) (h:=fun hH => ?_)
  generalize w4.drew=We at Be hH ⊢
  clear qa
  refine tl 0 (h:=tl 1 (h:=tp 2 (h:=tp 3 (h:=tp 4 (h:=tl 5 (h:=tp 6 (h:=tl 7 (h:=r1 8 [0,1,5] (h:=fun K hK => ?_)))))))))
  go_simp
  have T8:=Lib.hid (heap_alloc_new We (Obj.cells #[.int .i64 k0,.int .i64 k1,.string k2,.slice A0 m0 c0] 51))
  have B8:=Lib.hid (belA Be.out (Obj.cells #[.int .i64 k0,.int .i64 k1,.string k2,.slice A0 m0 c0] 51))
  have TT8:=Lib.hid (T4.out.below B8.out)
  refine hK.out _ _ ⟨a0 _ B8.out,a0 _ B8.out,a5 _ B8.out,trivial⟩ (fun _ => ?_)
  clear hK K hH
  generalize We.alloc (Obj.cells #[.int .i64 k0,.int .i64 k1,.string k2,.slice A0 m0 c0] 51)=W8 at T8 B8 TT8 ⊢
  refine r1 9 [0,1,5] (h:=fun K hK => ?_)
  go_simp
  refine (mcell_any _ _ _ _ _).mono ?_
  rintro e w9 ⟨rfl,b9⟩
  have B9:=Lib.hid (B8.out.trans (b9.mono B8.out.size))
  have hl8:=heap_lt T8.out
  have TC9:=Lib.hid (show TP w9 (fun _ => True) (P.c [99,97,108,108] [q]).t (.agg #[.int .i64 4,.int .i64 0,.string ⟨#[99,97,108,108]⟩,.slice (some ⟨We.heap.size,0,none⟩) 1 1]) from
   ⟨_,_,rfl,Nat.le_refl _,nofun,fun _ => ⟨_,_,_,rfl,trivial,(b9.block _ hl8).trans T8.out,fun i hi => by
    have hi:i < 1:=hi
    obtain rfl:i=0:=by omega
    exact ⟨_,_,_,_,rfl,rfl,rfl,rfl,TT8.out.below b9⟩⟩⟩)
  refine hK.out _ _ ⟨a0 _ B9.out,a0 _ B9.out,a5 _ B9.out,trivial⟩ (fun _ => ?_)
  clear hK K b9
  refine tp 10 (h:=r1 11 [0,1,5] (h:=fun K hK => ?_))
  go_simp
  have F8:=Lib.hid (heap_alloc_new w9 (Obj.cells #[.int .i64 0,.int .i64 0,.int .i64 0,.int .i64 4,.int .i64 0,.string ⟨#[99,97,108,108]⟩,.slice (some ⟨We.heap.size,0,none⟩) 1 1] 87))
  have Bf:=Lib.hid (belA B9.out (Obj.cells #[.int .i64 0,.int .i64 0,.int .i64 0,.int .i64 4,.int .i64 0,.string ⟨#[99,97,108,108]⟩,.slice (some ⟨We.heap.size,0,none⟩) 1 1] 87))
  have TCf:=Lib.hid (TC9.out.below (belA (Below.refl _ _) (Obj.cells #[.int .i64 0,.int .i64 0,.int .i64 0,.int .i64 4,.int .i64 0,.string ⟨#[99,97,108,108]⟩,.slice (some ⟨We.heap.size,0,none⟩) 1 1] 87)))
  refine hK.out _ _ ⟨a0 _ Bf.out,a0 _ Bf.out,a5 _ Bf.out,trivial⟩ (fun _ => ?_)
  clear hK K
  generalize w9.alloc (Obj.cells #[.int .i64 0,.int .i64 0,.int .i64 0,.int .i64 4,.int .i64 0,.string ⟨#[99,97,108,108]⟩,.slice (some ⟨We.heap.size,0,none⟩) 1 1] 87)=Wf at F8 Bf TCf ⊢
  have FRR:=Lib.hid (show FrR Wf [.goal 0 (.c [99,97,108,108] [q])] (.slice (some ⟨w9.heap.size,0,none⟩) 1 1) from
   ⟨_,_,rfl,Nat.le_refl _,nofun,fun _ => ⟨_,_,_,rfl,F8.out,fun i fr hi => by
    have hi0:=lt_of_at hi
    have hi0:i < 1:=hi0
    obtain rfl:i=0:=by omega
    injection hi with hi
    subst hi
    refine ⟨_,⟨_,rfl,_,_,_,_,rfl,TCf.out⟩,fun j hj => ?_⟩
    rw [show 7*0+j=j by omega]
    simp⟩⟩)
  refine r1 12 [0] (h:=fun K hK => ?_)
  go_simp
  refine (mahead_any (l:=[.goal 0 (.c [99,97,108,108] [q])]) (r:=[]) (by simp) (by simp) FRR.out rfl).mono ?_
  rintro e wa ⟨⟨lv,rfl,hfa'⟩,ba'⟩
  obtain ⟨aa,rfl⟩:=hfa'.ptr
  have Ba:=Lib.hid (Bf.out.trans (ba'.mono Bf.out.size))
  have ql:(P.c [99,97,108,108] [q]).lq:=⟨by decide+kernel,by simp,qq,trivial⟩
  have MA:=Lib.hid ((M4.out.below Ba.out).setFr hfa' (fun f hf b g e => by
   have hf:=List.mem_singleton.1 hf
   subst hf
   cases e
   exact ql))
  rw [hXm] at MA
  have XA:=(Ba.out.block _ hb54).trans BX4.out
  have fa:wa.frozen? ⟨b5,0,none⟩=false:=by simp [World.frozen?,XA]
  have za:wa.cell? ⟨b5,0,none⟩=some (.pointer none):=cell_of_row _ _ 0 _ _ _ XA
  refine hK.out _ _ ⟨a0 _ Ba.out,trivial⟩ (fun _ => ?_)
  clear hK K ba' hfa' XA
  refine tp 13 (h:=tp 14 (h:=tp 15 (h:=r1 16 [] (h:=fun K hK => ?_))))
  go_simp
  refine hK.out _ _ trivial (fun _ => ?_)
  clear hK K
  refine dn (h:=?_)
  have KA:=Lib.hid (KX.of (X:=X) (Nat.le_trans (by rw [hXB];exact L04.out.size) (Nat.le_refl _)) Ba.out)
  have LA:=Lib.hid (show Below w.heap.size w (wa.setCell ⟨b5,0,none⟩ (.pointer aa)) from (L04.out.trans (Ba.out.mono L04.out.size)).setCell (p:=⟨b5,0,none⟩) (by show w.heap.size≤b5;omega) _)
  have fr:∀ {b:Nat} {cs:Array Value} {t:TypeId} {f:Nat × Nat},w4.heap[b]? =some (.cells cs t f)→b≠b5→(wa.setCell ⟨b5,0,none⟩ (.pointer aa)).heap[b]? =some (.cells cs t f):=fun {b cs t f} hb hne => (Below.heap_setCell _ _ _ b hne).trans ((Ba.out.block _ (heap_lt hb)).trans hb)
  have hqb:w2.heap.size≠b5:=by omega
  have hlb:w.heap.size≠b5:=by omega
  have X7A:=Lib.hid (fr X74.out hn57)
  have QA:=Lib.hid (fr Q4.out hqb)
  have LMA:=Lib.hid (fr L4.out hlb)
  obtain ⟨NA',nc',e,_,_,_,hn3⟩:=own_open N4.out
  cases e
  obtain ⟨ng,ncs,rfl,_,hng,hnv⟩:=hn3 (by omega)
  have hngt:ng < W3.heap.size:=by
   obtain ⟨A',c',e,_,_,_,hx⟩:=own_open N3.out
   cases e
   obtain ⟨g,cur,e,_,hh,_⟩:=hx (by omega)
   cases e
   exact heap_lt hh
  have hngb:ng≠b5:=by omega
  have NGA:=Lib.hid (fr hng hngb)
  have NG0:=Lib.hid (hnv 0 (by omega))
  clear fr hng hnv hn3
  generalize wa.setCell ⟨b5,0,none⟩ (.pointer aa)=Wb at MA LA X7A QA LMA NGA ⊢
  have hlb2:=LA.out.size
  have hb7':=heap_lt X7A.out
  have hq7':=heap_lt QA.out
  have hl7':=heap_lt LMA.out
  have hn7':=heap_lt NGA.out
  have BO:=Lib.hid (show Below Wb.heap.size Wb (Wb.alloc (Obj.cells #[.slice none 0 0] 27)) from belA (Below.refl _ _) _)
  have XO:=Lib.hid (heap_alloc_new Wb (Obj.cells #[.slice none 0 0] 27))
  have hmb:=MA.out.1.lt
  have hBs:(Wb.alloc (Obj.cells #[.slice none 0 0] 27)).heap.size=Wb.heap.size+1:=by simp
  have hXsp:X.sp=b1:=by rw [hX]
  rw [hXB,hXm,hXsp] at hmb
  obtain ⟨r,hrr⟩:∃ r:RE,r=⟨Wb.heap.size,b7,w2.heap.size,w.heap.size,ng,nc,Wb.heap.size+1⟩:=⟨_,rfl⟩
  have OK:=Lib.hid (show r.ok X from by
   subst hrr
   subst hX
   exact ⟨⟨by show Wb.heap.size≠b5;omega,by show Wb.heap.size≠b1;omega⟩,⟨hn57,hn17⟩,⟨by show w2.heap.size≠b5;omega,by show w2.heap.size≠b1;omega⟩,⟨by show w.heap.size≠b5;omega,by show w.heap.size≠b1;omega⟩,⟨by show ng≠b5;omega,by show ng≠b1;omega⟩,
    ⟨by show b5 < Wb.heap.size+1;omega,by show b1 < Wb.heap.size+1;omega,by show Wb.heap.size < Wb.heap.size+1;omega,by show w.heap.size≤Wb.heap.size+1;omega,hlb2⟩,hgl.1⟩)
  have JJ:=Lib.hid (show OutJ X r [] (Wb.alloc (Obj.cells #[.slice none 0 0] 27)) from by
   subst hrr
   refine ⟨⟨_,XO.out,World.ownsRow_nil _ _ _ _⟩,?_,⟨_,_,(BO.out.block _ hq7').trans QA.out,rfl⟩,⟨_,_,(BO.out.block _ hn7').trans NGA.out,NG0.out⟩,⟨(0,0),?_⟩,(HTB.out.below LA.out).below BO.out,?_,?_⟩
   ·subst hX
    exact (BO.out.block _ hb7').trans X7A.out
   ·subst hX
    exact (BO.out.block _ hl7').trans LMA.out
   ·subst hX
    show 0 < 40
    omega
   ·show Wb.heap.size+1≤_
    omega)
  have GXX:=Lib.hid (show GX X (Wb.alloc (Obj.cells #[.slice none 0 0] 27)) from by
   have hb:Below w.heap.size w (Wb.alloc (Obj.cells #[.slice none 0 0] 27)):=LA.out.trans (BO.out.mono hlb2)
   subst hX
   exact ⟨fun n hn => (World.cell?_of_block (a:=⟨0,n,none⟩) (hb.block _ hgl.2)).trans (HGO.out n hn),⟨_,(World.cell?_of_block (a:=⟨2,0,none⟩) (hb.block _ hw0)).trans HMX.out⟩,⟨hgl.2,hw0⟩⟩)
  have hXl:X.lim=limTop 40:=by rw [hX]
  have hXp:X.pr=pr:=by rw [hX]
  have AT:=Lib.hid (attrun_any OK.out (MA.out.1.below BO.out) GXX.out (by rw [hXp];exact hfa) (by rw [hXl];decide) JJ.out (n:=n) (ro:=ro) (by rw [hXp,hXl];exact hr) hno)
  rw [show r.mb=b7 by rw [hrr],show r.ob=Wb.heap.size by rw [hrr],show r.qb=w2.heap.size by rw [hrr],show r.lb=w.heap.size by rw [hrr]] at AT
  have hmf:∀ (fn:Fn) (first cap:Array Value) (w:World),(Instr.makeFunc fn first cap).run Tryz.prog w=.ok (.func fn first cap) w:=fun _ _ _ _ => rfl
  have hta1:=ta_out
  have hta2:=ta_unc
  clear hXl hXp hXsp hXm hXs hBs
  go_wp2_with fail
  refine AT.out.mono ?_
  rintro e wc2 ⟨rfl,⟨S',hmS⟩,hJ,hK⟩
  have hR:=Lib.hid hJ
  have MS:=Lib.hid hmS
  have KK:=Lib.hid hK
  clear hmS hJ hK AT JJ GXX
  go_upto_region 22 with fail
  obtain ⟨vo,o1,o2⟩:=hR.out.out
  have hro:r.ob=Wb.heap.size:=by rw [hrr]
  have hrB:r.Bo=Wb.heap.size+1:=by rw [hrr]
  have hrm:r.mb=b7:=by rw [hrr]
  rw [hro] at o1
  rw [hrB] at o2
  have m1:=hR.out.m
  rw [hrm] at m1
  have hmP:mP X=.pointer (some ⟨b5,0,none⟩):=by rw [hX];rfl
  rw [hmP] at m1
  obtain ⟨fvz,cvz,bx,-,-⟩:=MS.out.box
  have hXm:X.mb=b5:=by rw [hX]
  have hXp:X.sp=b1:=by rw [hX]
  have sx:=MS.out.steps
  rw [hXm] at bx
  rw [hXp] at sx
  obtain ⟨OA,oc,e,-⟩:=own_open o2
  subst e
  have Bz:=Lib.hid (show Below wc2.heap.size wc2 wc2.drew from (Below.refl _ _).drew)
  have LZ:=Lib.hid (show Below w.heap.size w wc2.drew from (LA.out.trans ((BO.out.mono hlb2).trans (by
   have:=KK.out.low
   rw [hXB] at this
   exact this))).drew)
  have OZ:=Lib.hid (show wc2.drew.ownsRow w.heap.size 31 2 (.slice OA ro.outs.length oc) ro.outs.length (ro.outs.flatMap outC) from
   ownsRow_more (own_keep o2 fun g hg => by
    obtain ⟨cs,f,hh⟩:=Go.Lib.ownsRow_kind o2 g hg
    exact (Bz.out.block _ (heap_lt hh)).trans (hh.trans hh.symm)) (by omega))
  refine rg [(0,fun u => AC u Wb.heap.size 0 [.slice OA ro.outs.length oc]),(1,fun u => AC u b7 0 [.pointer (some ⟨b5,0,none⟩)]),(4,fun u => AC u b5 8 [.pointer (some ⟨b1,0,none⟩)]),(6,fun u => AC u b1 0 [.int .i64 (S'.steps:Int)])]
   (hS:=⟨⟨cell_of_row _ _ 0 _ _ _ ((Bz.out.block _ (heap_lt o1)).trans o1),trivial⟩,⟨cell_of_row _ _ 0 _ _ _ ((Bz.out.block _ (heap_lt m1)).trans m1),trivial⟩,⟨(show wc2.drew.cell? ⟨b5,8,none⟩=some (.pointer (some ⟨X.sp,0,none⟩)) from cell_of_row _ _ 8 _ _ _ ((Bz.out.block _ (heap_lt bx)).trans bx)).trans (by rw [hXp]),trivial⟩,⟨cell_of_row _ _ 0 _ _ _ ((Bz.out.block _ (heap_lt sx)).trans sx),trivial⟩,trivial⟩) (h:=fun hH => ?_)
  generalize wc2.drew=Wz at LZ OZ hH ⊢
  refine tl 0 (h:=tl 1 (h:=tp 2 (h:=tp 3 (h:=tl 4 (h:=tp 5 (h:=tl 6 (h:=tp 7 (h:=tp 8 (h:=dn (h:=?_))))))))))
  clear hH
  go_wp2_with fail
  go_ret2
  exact ⟨⟨_,_,rfl,OZ.out⟩,LZ.out⟩
end Go.Proofs.YtdgpmpccfjmmcaaGreatDoor
namespace Go.Proofs.YtdgpmpccfjmmcaaGreatDoor
open Go.RowKit
theorem ins_cell (l:List Ins) (i j:Nat) (x:Ins) (h:l[i]? =some x) (hj:j < 3):(insCells l)[i*3+j]? =x.cells[j]?:=by
 induction l generalizing i with
 | nil => simp at h
 | cons y l ih =>
  have e:insCells (y ::l)=y.cells++insCells l:=rfl
  have hy:y.cells.length=3:=rfl
  rw [e]
  cases i with
  | zero =>
   simp at h
   subst h
   rw [Nat.zero_mul,Nat.zero_add,List.getElem?_append_left (by omega)]
  | succ i =>
   simp at h
   rw [List.getElem?_append_right (by omega),← ih i h]
   congr 1
   omega
theorem irc_of {w:World} {B:Nat} {A:Option Addr} {n c:Nat} {l:List Ins} (h:IRw w B (.slice A n c) l) (hn:n=l.length) (h0:0 < l.length):IRC w l (.slice A n c):=by
 subst hn
 obtain ⟨A',c',e,hc,_,_,hx⟩:=own_open h
 injection e with e1 _ e3
 obtain ⟨g',cur,e2,_,hh,hcur⟩:=hx (by omega)
 rw [← e1] at e2
 subst e2
 refine ⟨g',c,cur,_,rfl,by omega,hh,fun i x hi => ?_⟩
 have hil:=(List.getElem?_eq_some_iff.1 hi).1
 have at_:∀ j,j < 3→cur[i*3+j]? =x.cells[j]?:=fun j hj => by
  rw [← ins_cell l i j x hi hj]
  exact hcur _ (by omega)
 exact ⟨at_ 0 (by omega),at_ 1 (by omega),at_ 2 (by omega)⟩
def AsCl (x:T × List ByteArray) (c:Cl0):Prop:=TEq x.1 c.head.t∧c.slots=x.2.length∧c.slots≤1000∧c.goals=[]∧∃ (s:List UInt8) (a b:P),c.head=.c s [a,b]∧atomP a=true∧atomP b=true∧encN x.1 []=factI s a b
theorem nm_nil (w:World) (s:Nat):NM w s [] (.slice none 0 0):=⟨⟨none,0,rfl,Nat.le_refl _,fun _ => rfl,fun h => absurd rfl h⟩,fun g off m c e => by
 injection e with e
 cases e⟩
theorem FcI.clm {w:World} {B:Nat} {us:List Value} {k:Nat} {x:T × List ByteArray} (h:FcI w B us k x) {c:Cl0} (hc:AsCl x c) (s:Nat):∃ v,ClM w s c v∧∀ j,j < 3→us[3*k+j]? =v[j]?:=by
 obtain ⟨s1,a1,b1,LA,lc,h1,h2,h3,h4,h5,h6,h7⟩:=h
 obtain ⟨_,g2,g3,g4,s0,a,b,g5,g6,g7,g8⟩:=hc
 have e:factI s1 a1 b1=factI s0 a b:=h3.symm.trans g8
 rw [e] at h7
 refine ⟨[.slice LA 5 lc,.int .i64 (c.slots:Int),.slice none 0 0],⟨factI s0 a b,_,_,[],rfl,irc_of h7 rfl (Nat.succ_pos _),?_,nm_nil w s,by rw [g4];rfl,g3,fun base => ?_,fun j g hg => ?_⟩,fun j hj => ?_⟩
 ·show 5≤20000
  omega
 ·rw [g5]
  exact build_fact g6 g7 base
 ·rw [g4] at hg
  simp at hg
 ·rw [g2]
  match j,hj with
  | 0,_ => exact h4
  | 1,_ => exact h5
  | 2,_ => exact h6
theorem conf_prm {w1 w':World} {g:Nat} {LA:Option Addr} {lc:Nat} {HA:Option Addr} {hc:Nat} {us ys:List Value} {l:List (T × List ByteArray)} (h:RCo 49 65 3 w1.heap.size w1 w' g LA l.length lc HA l.length hc us ys) (hf:FcR w' w1.heap.size l l.length us ys) (hl:l.length≤200) {pr:List Cl0} (hlen:pr.length=l.length) (hpr:∀ (k:Nat) (x:T × List ByteArray) (c:Cl0),l[k]? =some x→pr[k]? =some c→AsCl x c) (s:Nat):PrM w' s g pr:=by
 have at_:∀ (k:Nat) (c:Cl0),pr[k]? =some c→∃ x,l[k]? =some x∧AsCl x c∧FcI w' w1.heap.size us k x∧FhI w' w1.heap.size ys k x:=fun k c hk => by
  have hk1:k < l.length:=by have:=(List.getElem?_eq_some_iff.1 hk).1;omega
  have hx:=List.getElem?_eq_getElem hk1
  obtain ⟨q1,q2⟩:=hf k _ hk1 hx
  exact ⟨_,hx,hpr k _ c hx hk,q1,q2⟩
 by_cases h0:0 < l.length
 ·obtain ⟨A1,c1,e1,_,_,_,x1⟩:=own_open h.L
  injection e1 with e1 _ e1'
  subst e1'
  obtain ⟨gl,cl,rfl,_,hhl,hcl⟩:=x1 h0
  obtain ⟨A2,c2,e2,_,_,_,x2⟩:=own_open h.H
  injection e2 with e2 _ e2'
  subst e2'
  obtain ⟨gh,ch,rfl,_,hhh,hch⟩:=x2 h0
  subst e1 e2
  refine ⟨_,lc,_,_,hc,gh,ch,(0,0),(0,0),by rw [hlen];exact h.box,⟨by simp [hlen],by simp [hlen];omega,fun _ => ⟨rfl,hhh⟩,fun i p hp => ?_⟩,fun _ => ⟨gl,cl,_,rfl,hhl,fun k c hk => ?_⟩⟩
  ·rw [List.getElem?_map] at hp
   obtain ⟨c,hc1,rfl⟩:=Option.map_eq_some_iff.1 hp
   obtain ⟨x,hx,has,_,v0,v1,v2,v3,g0,g1,g2,g3,g4⟩:=at_ i c hc1
   have hil:=(List.getElem?_eq_some_iff.1 hx).1
   have cat:∀ j v,j < 4→ys[4*i+j]? =some v→ch[4*i+j]? =some v:=fun j v hj hv => (hch _ (by omega)).trans hv
   have c3:=cat 3 _ (by omega) g3
   refine ⟨by have:=(Array.getElem?_eq_some_iff.1 c3).1;omega,?_⟩
   have ev:valAt ch i=.agg #[v0,v1,v2,v3]:=by
    unfold valAt
    simp only [Array.getD_eq_getD_getElem?,cat 1 _ (by omega) g1,cat 2 _ (by omega) g2,c3]
    have c0:=cat 0 _ (by omega) g0
    rw [Nat.add_zero] at c0
    rw [c0]
    rfl
   rw [ev]
   exact has.1 _ _ _ (g4.more fun _ _ => trivial)
  ·obtain ⟨x,hx,has,hq,_⟩:=at_ k c hk
   have hkl:=(List.getElem?_eq_some_iff.1 hx).1
   obtain ⟨v,hv1,hv2⟩:=hq.clm has s
   exact ⟨v,hv1,fun j hj => (hcl _ (by omega)).trans (hv2 j hj)⟩
 ·have hpn:pr=[]:=List.eq_nil_of_length_eq_zero (by omega)
  have hln:l.length=0:=by omega
  subst hpn
  have hb:=h.box
  rw [hln] at hb
  exact ⟨_,lc,_,HA,hc,0,#[],(0,0),(0,0),hb,⟨rfl,Nat.zero_le _,fun q => absurd q (by simp),fun i p hp => by simp at hp⟩,fun q => absurd q (by simp)⟩
end Go.Proofs.YtdgpmpccfjmmcaaGreatDoor
namespace Go.Proofs.YtdgpmpccfjmmcaaGreatDoor
theorem fold_te:∀ (m:Nat) (f g:Nat→List Int→List Ins × List Int) (r:List Ins × List Int),(∀ i,i < m→∀ vs,f i vs=g i vs)→foldC m f r=foldC m g r
 | 0,_,_,_,_ => rfl
 | m+1,f,g,r,h => by
  show ((foldC m f r).1++(f m (foldC m f r).2).1,(f m (foldC m f r).2).2)=((foldC m g r).1++(g m (foldC m g r).2).1,(g m (foldC m g r).2).2)
  rw [fold_te m f g r fun i hi => h i (by omega),h m (by omega)]
theorem te_code:∀ {t t':T},TE t t'→∀ vs:List Int,codeT t vs=codeT t' vs
 | .nil,.nil,_,_ => rfl
 | .nil,.mk _ _ _ _ _,h,_ => h.elim
 | .mk _ _ _ _ _,.nil,h,_ => h.elim
 | .mk k n s m a,.mk k' n' s' m' a',h,vs => by
  obtain ⟨rfl,rfl,rfl,rfl,h⟩:=h
  unfold codeT
  split
  ·rfl
  ·split
   ·rfl
   ·split
    ·rfl
    ·exact fold_te m _ _ _ fun i hi vs => te_code (h i hi) vs
theorem te_enc {t t':T} (h:TE t t'):encN t []=encN t' []:=by
 unfold encN
 rw [te_code h]
theorem te_fact {x:T × List ByteArray} {s:List UInt8} {a b:P} (h:TE x.1 (P.c s [a,b]).t) (h2:x.2=[]) (hs:s=[112]∨s=[113]) (ha:atomP a=true) (hb:atomP b=true):FactX x:=by
 obtain ⟨t,ns⟩:=x
 cases t with
 | nil => exact h.elim
 | mk k n s' m f =>
  have he:=(te_enc h).trans (enc_fact ha hb)
  obtain ⟨rfl,rfl,rfl,rfl,h⟩:=h
  exact ⟨h2,s,a,b,_,_,hs,rfl,ha,hb,he⟩
theorem as_cl {x:T × List ByteArray} {s:List UInt8} {a b:P} (h:TE x.1 (P.c s [a,b]).t) (h2:x.2=[]) (ha:atomP a=true) (hb:atomP b=true):AsCl x ⟨.c s [a,b],0,[]⟩:=
 ⟨h.teq,by rw [h2];rfl,Nat.zero_le _,rfl,s,a,b,rfl,ha,hb,(te_enc h).trans (enc_fact ha hb)⟩
theorem from_goals:∀ (k:Nat) (l:List Int),∀ c ∈ factsFrom k l,c.goals=[]
 | _,[],_,h => by cases h
 | k,x ::l,c,h => by
  rcases List.mem_cons.1 h with rfl | h
  ·rfl
  ·exact from_goals (k+1) l c h
theorem facts_goals (l:List Int):∀ c ∈ factsP l,c.goals=[]:=fun c h => by
 unfold factsP at h
 rcases List.mem_cons.1 h with rfl | h
 ·rfl
 ·split at h
  ·rw [List.mem_singleton] at h
   subst h
   rfl
  ·exact from_goals 0 l c h
theorem two_lq {s:List UInt8} {a b:P} (hs:s=[112]∨s=[113]) (ha:a.lq) (hb:b.lq):(P.c s [a,b]).lq:=⟨by rcases hs with rfl | rfl <;> decide+kernel,by simp,ha,hb,trivial⟩
theorem nobody_lq:nobody.lq:=by
 show nameOk _
 decide+kernel
theorem from_lq:∀ (l:List Int) (k:Nat),(∀ x ∈ l,I64 x)→k+l.length≤1000→∀ c ∈ factsFrom k l,c.head.lq
 | [],_,_,_,_,h => by cases h
 | x ::l,k,hx,hk,c,h => by
  simp only [List.length_cons] at hk
  rcases List.mem_cons.1 h with rfl | h
  ·exact two_lq (.inl rfl) (hx x (List.mem_cons_self ..)) (show I64 (k:Int) from ⟨by omega,by omega⟩)
  ·exact from_lq l (k+1) (fun y hy => hx y (List.mem_cons_of_mem _ hy)) (by omega) c h
theorem facts_clsQ {l:List Int} (hx:∀ x ∈ l,I64 x) (hl:l.length≤1000):clsQ (factsP l):=fun c h => by
 refine ⟨?_,fun g hg => by rw [facts_goals l c h] at hg;cases hg⟩
 unfold factsP at h
 rcases List.mem_cons.1 h with rfl | h
 ·exact two_lq (.inr rfl) nobody_lq (show I64 0 from ⟨by decide,by decide⟩)
 ·split at h
  ·rw [List.mem_singleton] at h
   subst h
   exact two_lq (.inl rfl) nobody_lq nobody_lq
  ·exact from_lq l 0 hx (by omega) c h
end Go.Proofs.YtdgpmpccfjmmcaaGreatDoor
