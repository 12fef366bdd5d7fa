/- A run's answers,gathered:the closure that is called at each. A run,attempted,with its answers gathered. TopFacts' limits:they may be. The program's parser on texts of facts:One. -/
import Derived.Test.YtdgpmpccfjmmcaaGreatDoorKY3
import Derived.Test.YtdgpmpccfjmmcaaGreatDoorKJBe
import Derived.Test.YtdgpmpccfjmmcaaGreatDoorKZ6
import Derived.Test.YtdgpmpccfjmmcaaGreatDoorKJAe
set_option linter.unusedVariables false
set_option linter.unusedSimpArgs false
namespace Go.Proofs.YtdgpmpccfjmmcaaGreatDoor
open Go.RowKit
theorem info_out:(Tryz.prog.info? 31).map (fun i => (i.zero,i.size,i.bytes))=some (some (.agg #[.int .i64 0,.string ⟨#[]⟩]),2,24):=by kernel_rfl
theorem elOut:El Tryz.prog 27 31 (.agg #[.int .i64 0,.string ⟨#[]⟩]) 2 24:=by
 obtain ⟨i0,hi,hz0,hz1,hz2⟩:=info_parts info_out
 exact ⟨Tryz.underlying27,⟨i0,hi,hz0,hz1,hz2⟩,rfl,by omega⟩
structure RE where
 ob:Nat
 mb:Nat
 qb:Nat
 lb:Nat
 ng:Nat
 nc:Nat
 Bo:Nat
def outS (k:Int):ByteArray:=ba ([65,32,61,32]++Lib.itoa k)
def outC (k:Int):List Value:=[.int .i64 1,.string (outS k)]
structure RE.ok (r:RE) (X:MX):Prop where
 o:r.ob≠X.mb∧r.ob≠X.sp
 m:r.mb≠X.mb∧r.mb≠X.sp
 q:r.qb≠X.mb∧r.qb≠X.sp
 l:r.lb≠X.mb∧r.lb≠X.sp
 n:r.ng≠X.mb∧r.ng≠X.sp
 B:X.mb < r.Bo∧X.sp < r.Bo∧r.ob < r.Bo∧X.B≤r.Bo∧X.B≤r.ob
 g:3 < X.B
structure OutJ (X:MX) (r:RE) (l:List Int) (w:World):Prop where
 out:∃ v,w.heap[r.ob]? =some (.cells #[v] 27 (0,0))∧w.ownsRow r.Bo 31 2 v l.length (l.flatMap outC)
 m:w.heap[r.mb]? =some (.cells #[mP X] 71 (0,0))
 q:∃ cs f,w.heap[r.qb]? =some (.cells cs 54 f)∧cs[4]? =some (.slice (some ⟨r.ng,0,none⟩) 1 r.nc)
 n:∃ cs f,w.heap[r.ng]? =some (.cells cs 9 f)∧cs[0]? =some (.string (ba [65]))
 lm:∃ f,w.heap[r.lb]? =some (.cells #[.int .i64 (X.lim.fuel:Int),.int .i64 (X.lim.room:Int),.int .i64 (X.lim.stack:Int),.int .i64 (X.lim.answers:Int)] 40 f)
 t:TabX w
 few:l.length < X.lim.answers
 sz:r.Bo≤w.heap.size
theorem TabX.low {B:Nat} {w w':World} (h:TabX w) (hb:Below B w w') (hg:3 < B):TabX w':=by
 have hgn:Tryz.prog.globalNamed "internal/strconv.uint64pow10" =some 3 :=by kernel_rfl
 unfold TabX Lib.TabIs World.var? at h ⊢
 rw [hgn] at h ⊢
 simp only [Option.bind_some] at h ⊢
 rw [hb.block _ hg]
 exact h
theorem OutJ.kg {X:MX} {r:RE} (ok:r.ok X) {l:List Int} {w w':World} (h:OutJ X r l w) {ex:Nat→TypeId→Bool} (k:KG X ex w w') (he:∀ b t,(t=27∨t=31∨t=71∨t=54∨t=9∨t=40)→ex b t=false):OutJ X r l w':=by
 obtain ⟨v,o1,o2⟩:=h.out
 obtain ⟨qc,qf,q1,q2⟩:=h.q
 obtain ⟨nn,nf,n1,n2⟩:=h.n
 obtain ⟨lf,l1⟩:=h.lm
 have hB:=ok.B
 refine ⟨⟨v,k.far _ _ _ _ o1 ok.o.1 ok.o.2 rfl (he _ _ (.inl rfl)),own_keep o2 fun g hg => ?_⟩,k.far _ _ _ _ h.m ok.m.1 ok.m.2 rfl (he _ _ (.inr (.inr (.inl rfl)))),⟨qc,qf,k.far _ _ _ _ q1 ok.q.1 ok.q.2 rfl (he _ _ (.inr (.inr (.inr (.inl rfl))))),q2⟩,
  ⟨nn,nf,k.far _ _ _ _ n1 ok.n.1 ok.n.2 rfl (he _ _ (.inr (.inr (.inr (.inr (.inl rfl)))))),n2⟩,⟨lf,k.far _ _ _ _ l1 ok.l.1 ok.l.2 rfl (he _ _ (.inr (.inr (.inr (.inr (.inr rfl))))))⟩,h.t.low k.low ok.g,h.few,Nat.le_trans h.sz k.low.size⟩
 obtain ⟨cs,f,hh⟩:=Go.Lib.ownsRow_kind o2 g hg
 have hge:=ownBlock_ge o2 g hg
 exact (k.far _ _ _ _ hh (by omega) (by omega) rfl (he _ _ (.inr (.inl rfl)))).trans hh.symm
theorem OutJ.ki {X:MX} {r:RE} (ok:r.ok X) {l:List Int} {w w':World} (h:OutJ X r l w) (k:KI X w w'):OutJ X r l w':=h.kg ok k fun b t ht => by
 rcases ht with rfl | rfl | rfl | rfl | rfl | rfl <;> rfl
theorem MSt.but {X:MX} {S:Ms} {w w':World} (h:MSt X S w) (key:∀ {b:Nat} {cs:Array Value} {t:TypeId} {f:Nat × Nat},w.heap[b]? =some (.cells cs t f)→t≠31→t≠27→w'.heap[b]? =some (.cells cs t f)):MSt X S w':=by
 obtain ⟨fv,cv,h1,h2,h3⟩:=h.box
 have k:KeepT X.sp w w':=fun b cs t f hb' ht => key hb' (by rcases ht with rfl | rfl | rfl | rfl | rfl | ⟨rfl,_⟩ <;> decide) (by rcases ht with rfl | rfl | rfl | rfl | rfl | ⟨rfl,_⟩ <;> decide)
 exact ⟨⟨fv,cv,key h1 (by decide) (by decide),k.fl h2,h3.keep k fun g cs f hh => key hh (by decide) (by decide)⟩,key h.steps (by decide) (by decide),h.st.keep fun b cs t f hb' ht => key hb' (by rcases ht with rfl | rfl | rfl | rfl | rfl <;> decide) (by rcases ht with rfl | rfl | rfl | rfl | rfl <;> decide),h.pr.keep k,h.geo,h.clq,h.frq,h.chq⟩
theorem out_fin {X:MX} {S:Ms} {r:RE} (ok:r.ok X) {l:List Int} {w W w3:World} (hj:OutJ X r l w) (hM:MSt X S w) (hb:Below w.heap.size w W) {k:Int} {A:Option Addr} {c g9 c9:Nat} (hO:W.ownsRow r.Bo 31 2 (.slice A l.length c) l.length (l.flatMap outC)) (ho:w.heap[r.ob]? =some (.cells #[.slice A l.length c] 27 (0,0)))
 (o9:w3.ownsRow r.Bo 31 2 (.slice (some ⟨g9,0,none⟩) (l.length+1) c9) (l.length+1) (l.flatMap outC++outC k)) (hg:W.grownBy w3 (Value.slice A l.length c).ownBlock) :
 w3.heap[r.ob]? =some (.cells #[.slice A l.length c] 27 (0,0))∧MSt X S (w3.setCell ⟨r.ob,0,none⟩ (.slice (some ⟨g9,0,none⟩) (l.length+1) c9))∧(l.length+1 < X.lim.answers→OutJ X r (l++[k]) (w3.setCell ⟨r.ob,0,none⟩ (.slice (some ⟨g9,0,none⟩) (l.length+1) c9)))∧KO X r.ob w (w3.setCell ⟨r.ob,0,none⟩ (.slice (some ⟨g9,0,none⟩) (l.length+1) c9))∧
  (w3.setCell ⟨r.ob,0,none⟩ (.slice (some ⟨g9,0,none⟩) (l.length+1) c9)).heap[r.ob]? =some (.cells #[.slice (some ⟨g9,0,none⟩) (l.length+1) c9] 27 (0,0)):=by
 have hB:=ok.B
 have key3:∀ {b:Nat} {cs:Array Value} {t:TypeId} {f:Nat × Nat},w.heap[b]? =some (.cells cs t f)→t≠31→w3.heap[b]? =some (.cells cs t f):=fun {b cs t f} hb' ht => by
  have h1:=(hb.block b (heap_lt hb')).trans hb'
  refine (hg.block b (heap_lt h1) fun e => ?_).trans h1
  obtain ⟨cs',f',hh⟩:=Go.Lib.ownsRow_kind hO b e.symm
  rw [h1] at hh
  injection hh with hh
  injection hh with _ hh
  exact ht hh
 have h3:=key3 ho (by decide)
 have far:∀ b,b≠r.ob→(w3.setCell ⟨r.ob,0,none⟩ (.slice (some ⟨g9,0,none⟩) (l.length+1) c9)).heap[b]? =w3.heap[b]?:=fun b hb' => Below.heap_setCell _ _ _ b hb'
 have key:∀ {b:Nat} {cs:Array Value} {t:TypeId} {f:Nat × Nat},w.heap[b]? =some (.cells cs t f)→t≠31→t≠27→(w3.setCell ⟨r.ob,0,none⟩ (.slice (some ⟨g9,0,none⟩) (l.length+1) c9)).heap[b]? =some (.cells cs t f):=fun {b cs t f} hb' ht ht2 => (far b fun e => by
  subst e
  rw [ho] at hb'
  injection hb' with hb'
  injection hb' with _ hb'
  exact ht2 hb'.symm).trans (key3 hb' ht)
 have h9:(w3.setCell ⟨r.ob,0,none⟩ (.slice (some ⟨g9,0,none⟩) (l.length+1) c9)).heap[r.ob]? =some (.cells #[.slice (some ⟨g9,0,none⟩) (l.length+1) c9] 27 (0,0)):=by simpa using blk_set h3 0 (.slice (some ⟨g9,0,none⟩) (l.length+1) c9)
 have low:Below X.B w (w3.setCell ⟨r.ob,0,none⟩ (.slice (some ⟨g9,0,none⟩) (l.length+1) c9)):=((hb.mono hM.lt.1).trans ((below_own hO hg (Nat.le_trans hj.sz hb.size)).mono hB.2.2.2.1)).setCell (p:=⟨r.ob,0,none⟩) hB.2.2.2.2 _
 obtain ⟨qc,qf,q1,q2⟩:=hj.q
 obtain ⟨nn,nf,n1,n2⟩:=hj.n
 obtain ⟨lf,l1⟩:=hj.lm
 refine ⟨h3,hM.but key,fun hf => ⟨⟨_,h9,?_⟩,key hj.m (by decide) (by decide),⟨qc,qf,key q1 (by decide) (by decide),q2⟩,⟨nn,nf,key n1 (by decide) (by decide),n2⟩,⟨lf,key l1 (by decide) (by decide)⟩,hj.t.low low ok.g,by simpa using hf,Nat.le_trans hj.sz low.size⟩,⟨low,fun b cs t f hb' _ _ _ h5 => ?_⟩,h9⟩
 ·rw [List.length_append,List.flatMap_append]
  have e:[k].flatMap outC=outC k:=by simp
  rw [e]
  refine own_keep o9 fun g hg' => far g fun e => ?_
  obtain ⟨cs,f,hh⟩:=Go.Lib.ownsRow_kind o9 g hg'
  rw [e,h3] at hh
  injection hh with hh
  injection hh with _ hh
  exact absurd hh (by decide)
 ·simp at h5
  exact (far b h5.1).trans (key3 hb' h5.2)
theorem succ_ne {a b:Nat} (h:a+1≠b):¬ ((a:Int)+1=(b:Int)):=by omega
def RE.caps (r:RE):Array Value:=#[.pointer (some ⟨r.ob,0,none⟩),.pointer (some ⟨r.mb,0,none⟩),.pointer (some ⟨r.qb,0,none⟩),.pointer (some ⟨r.lb,0,none⟩)]
set_option maxRecDepth 100000 in
set_option maxHeartbeats 8000000 in
theorem ans_clo {X:MX} {r:RE} (ok:r.ok X) (hroom:X.lim.room≤1000∧X.lim.answers≤1000):AnsC X (ansI X.lim.room) (OutJ X r) r.caps r.ob:=by
 intro S w l k hM gx hfr hans hne hj
 obtain ⟨v,o1,o2⟩:=hj.out
 obtain ⟨A,c,rfl,hlc,hA,_,_⟩:=own_open o2
 obtain ⟨qc,qf,q1,q2⟩:=hj.q
 obtain ⟨nn,nf,n1,n2⟩:=hj.n
 obtain ⟨lf,l1⟩:=hj.lm
 have hlt:=hM.lt
 have hB:=ok.B
 have J:=Lib.hid hj
 have M:=Lib.hid hM
 have O1:=Lib.hid o1
 have O2:=Lib.hid o2
 have hfew:=hj.few
 have hsz:=hj.sz
 have hol:=heap_lt o1
 have hml:=heap_lt hj.m
 have hll:=heap_lt l1
 have L1:=Lib.hid l1
 have hne':=succ_ne hne
 have hf1:l.length+1 < X.lim.answers:=Nat.lt_of_le_of_ne hj.few hne
 have hans':=hroom.2
 have B0:=Lib.hid (show Below w.heap.size w w.drew from (Below.refl _ _).drew)
 have AN:=Lib.hid (answer_any (hM.below B0.out) (hj.t.below B0.out) hroom.1 hans (nc:=r.nc) ((cell_of_row _ _ 0 _ _ _ ((B0.out.block _ (heap_lt n1)).trans n1)).trans n2) (by have:=heap_lt n1;have:=B0.out.size;omega))
 unfold mP at AN
 have c1:w.drew.cell? ⟨r.mb,0,none⟩=some (.pointer (some ⟨X.mb,0,none⟩)):=cell_of_row _ _ 0 _ _ _ ((B0.out.block _ hml).trans hj.m)
 have c3:w.drew.cell? ⟨r.qb,4,none⟩=some (.slice (some ⟨r.ng,0,none⟩) 1 r.nc):=(cell_of_row _ _ 4 _ _ _ ((B0.out.block _ (heap_lt q1)).trans q1)).trans q2
 have c0:w.drew.cell? ⟨r.ob,0,none⟩=some (.slice A l.length c):=cell_of_row _ _ 0 _ _ _ ((B0.out.block _ hol).trans o1)
 unfold RE.caps
 clear hj hM gx hfr o1 o2 q1 n1 hA l1 hans hne
 go_enter Tryz.func27,Tryz.ntmps27
 go_upto_region 0 with fail
 refine rg [(0,fun u => AC u r.ob 0 [.slice A l.length c]),(1,fun u => AC u r.mb 0 [.pointer (some ⟨X.mb,0,none⟩)]),(3,fun u => AC u r.qb 4 [.slice (some ⟨r.ng,0,none⟩) 1 r.nc])] (hS:=⟨⟨c0,trivial⟩,⟨c1,trivial⟩,⟨c3,trivial⟩,trivial⟩) (h:=fun hH => ?_)
 generalize w.drew=W1 at B0 AN c0 c1 c3 hH ⊢
 refine tl 0 (h:=tl 1 (h:=tp 2 (h:=tl 3 (h:=r1 4 [0] (h:=fun K hK => ?_)))))
 go_simp
 refine AN.out.mono ?_
 rintro e w2 ⟨rfl,b2⟩
 have B2:=Lib.hid (B0.out.trans (b2.mono B0.out.size))
 refine hK.out _ _ ⟨⟨cell_of_row _ _ 0 _ _ _ ((B2.out.block _ hol).trans O1.out),trivial⟩,trivial⟩ (fun _ => ?_)
 clear hK K b2 AN hH c0 c1 c3
 refine tp 5 (h:=r1 6 [0] (h:=fun K hK => ?_))
 go_simp
 have yS:(w2.alloc (Obj.cells #[.int .i64 1,.string (ba ([65,32,61,32]++Lib.itoa k))] 31)).heap[w2.heap.size]? =some (Obj.cells #[.int .i64 1,.string (ba ([65,32,61,32]++Lib.itoa k))] 31):=heap_at _ _ rfl
 have CA:=Lib.hid (belA B2.out (Obj.cells #[.int .i64 1,.string (ba ([65,32,61,32]++Lib.itoa k))] 31))
 refine hK.out _ _ ⟨⟨cell_of_row _ _ 0 _ _ _ ((CA.out.block _ hol).trans O1.out),trivial⟩,trivial⟩ (fun _ => ?_)
 clear hK K
 refine r1 7 [] (h:=fun K hK => ?_)
 obtain ⟨oi,oi1,oi2,oi3,oi4⟩:=elOut.hi
 have OC:=Lib.hid (own_below O2.out CA.out)
 refine step_append_lies _ rfl _ _ _ rfl r.Bo 31 oi (.agg #[.int .i64 0,.string ⟨#[]⟩]) 2 24 Tryz.underlying27 oi1 oi2 oi3 oi4 rfl (by omega) _ l.length (l.flatMap outC) rfl OC.out ⟨w2.heap.size,0,none⟩ 1 1 [.int .i64 1,.string (ba ([65,32,61,32]++Lib.itoa k))] rfl rfl (World.news_of_block yS) (by intro u hu;simp at hu;rcases hu with rfl | rfl <;> rfl) (by omega) (by unfold maxLen;omega) (by omega) (Nat.le_trans hsz CA.out.size) _ rfl ?_
 intro g9 c9 w3 o9 hg9 _ _
 have AP:=Lib.hid (out_fin ok J.out M.out CA.out OC.out O1.out o9 hg9)
 have q1:=AP.out.1
 have f1:w3.frozen? ⟨r.ob,0,none⟩=false:=by simp [World.frozen?,q1]
 have z1:w3.cell? ⟨r.ob,0,none⟩=some (.slice A l.length c):=cell_of_row _ _ 0 _ _ _ q1
 have x1:=cell_of_row _ _ 0 _ _ _ AP.out.2.2.2.2
 simp only [List.getElem?_toArray,List.getElem?_cons_zero] at x1
 have l3:∃ f,(w3.setCell ⟨r.ob,0,none⟩ (.slice (some ⟨g9,0,none⟩) (l.length+1) c9)).heap[r.lb]? =some (.cells #[.int .i64 (X.lim.fuel:Int),.int .i64 (X.lim.room:Int),.int .i64 (X.lim.stack:Int),.int .i64 (X.lim.answers:Int)] 40 f):=(AP.out.2.2.1 hf1).lm
 obtain ⟨lf3,l3⟩:=l3
 have x3:=cell_of_row _ _ 3 _ _ _ l3
 simp only [List.getElem?_toArray,List.getElem?_cons_succ,List.getElem?_cons_zero] at x3
 clear l3
 refine hK.out _ _ trivial (fun _ => ?_)
 clear hK K yS o9 hg9 q1
 refine r1 8 [] (h:=fun K hK => ?_)
 go_simp
 refine hK.out _ _ trivial (fun _ => ?_)
 clear hK K
 refine dn (h:=?_)
 generalize w3.setCell ⟨r.ob,0,none⟩ (.slice (some ⟨g9,0,none⟩) (l.length+1) c9)=W9 at*
 go_wp2_with fail
 go_end0
 exact ⟨rfl,AP.out.2.1,AP.out.2.2.1 hf1,AP.out.2.2.2.1⟩
end Go.Proofs.YtdgpmpccfjmmcaaGreatDoor
namespace Go.Proofs.YtdgpmpccfjmmcaaGreatDoor
open Go.RowKit
def RunQ (X:MX) (r:RE) (ro:Ro Int) (w:World) (w':World):Prop:=(∃ S',MSt X S' w')∧OutJ X r ro.outs w'∧KO X r.ob w w'
theorem run1_any {X:MX} {r:RE} (ok:r.ok X) {S:Ms} {w:World} (h:MSt X S w) (gx:GX X w) (hfa:∀ c ∈ X.pr,c.goals=[]) (hl:X.lim.fuel≤100000∧0 < X.lim.room∧X.lim.room≤1000∧X.lim.stack≤1000∧X.lim.answers≤1000) (hj:OutJ X r [] w) {n:Nat} {ro:Ro Int} (hr:runM (goalF X.pr) (ansI X.lim.room) X.pr X.lim n S .step []=some ro) (hno:ro.en.isNo=true) :
 Calls Tryz.prog 25 #[.pointer (some ⟨r.mb,0,none⟩),.pointer (some ⟨r.ob,0,none⟩),.pointer (some ⟨r.qb,0,none⟩),.pointer (some ⟨r.lb,0,none⟩)] w fun e w' => e=.returned (.tuple #[])∧RunQ X r ro w w':=by
 have hmf:∀ (fn:Fn) (first cap:Array Value) (w:World),(Instr.makeFunc fn first cap).run Tryz.prog w=.ok (.func fn first cap) w:=fun _ _ _ _ => rfl
 obtain ⟨v,o1,-⟩:=hj.out
 have RU:=Lib.hid (run_any (ans_clo ok ⟨hl.2.2.1,hl.2.2.2.2⟩) (fun l w w' h k => h.ki ok k) h gx hfa ⟨hl.1,hl.2.1,hl.2.2.1,hl.2.2.2.1⟩ hj (heap_lt o1) hr hno)
 have m0:w.cell? ⟨r.mb,0,none⟩=some (.pointer (some ⟨X.mb,0,none⟩)):=cell_of_row _ _ 0 _ _ _ hj.m
 unfold mP RE.caps at RU
 clear h gx hj hr o1
 go_enter Tryz.func25,Tryz.ntmps25
 go_wp2_with fail
 refine RU.out.mono ?_
 rintro e w1 ⟨rfl,hs,hj,hk⟩
 have R:=Lib.hid (show RunQ X r ro w w1 from ⟨hs,hj,hk⟩)
 clear hs hj hk
 go_wp2_with fail
 go_end0
 exact ⟨rfl,R.out⟩
theorem attrun_any {X:MX} {r:RE} (ok:r.ok X) {S:Ms} {w:World} (h:MSt X S w) (gx:GX X w) (hfa:∀ c ∈ X.pr,c.goals=[]) (hl:X.lim.fuel≤100000∧0 < X.lim.room∧X.lim.room≤1000∧X.lim.stack≤1000∧X.lim.answers≤1000) (hj:OutJ X r [] w) {n:Nat} {ro:Ro Int} (hr:runM (goalF X.pr) (ansI X.lim.room) X.pr X.lim n S .step []=some ro) (hno:ro.en.isNo=true) :
 Calls Tryz.prog 24 #[.func (.func 25) #[] #[.pointer (some ⟨r.mb,0,none⟩),.pointer (some ⟨r.ob,0,none⟩),.pointer (some ⟨r.qb,0,none⟩),.pointer (some ⟨r.lb,0,none⟩)]] w fun e w' => e=.returned .nilIface∧RunQ X r ro w w':=by
 have B0:Below w.heap.size w (w.alloc (Obj.cells #[.nilIface] 20)):=belA (Below.refl _ _) _
 have hlt:=h.lt
 obtain ⟨v,o1,-⟩:=hj.out
 have hol:=heap_lt o1
 have hj0:OutJ X r [] (w.alloc (Obj.cells #[.nilIface] 20)):=hj.ki ok ((KX.of hlt.1 B0).kg _)
 refine (attempt_any (Q:=fun b w2 => b=true∧RunQ X r ro (w.alloc (Obj.cells #[.nilIface] 20)) w2∧w2.heap[w.heap.size]? =some (Obj.cells #[.nilIface] 20 (0,0))) (fun _ _ => by kernel_rfl) ((run1_any ok (h.below B0) (gx.low (B0.mono hlt.1)) hfa hl hj0 hr hno).mono ?_)).mono ?_
 ·rintro e w2 ⟨rfl,hq⟩
  have hbx:=hq.2.2.far w.heap.size _ _ _ (heap_alloc_new _ _) (by omega) (by omega) rfl (by simp;omega)
  exact ⟨true,rfl,⟨rfl,hq,hbx⟩,hbx⟩
 ·rintro e w' ⟨b,w2,⟨rfl,⟨⟨S',hm⟩,hj2,hk2⟩,hbx⟩,rfl,hx,hlow,hoth⟩
  refine ⟨rfl,⟨S',hm.putI hbx hoth⟩,hj2.ki ok ⟨hlow.mono hlt.1,fun b cs t f hb _ _ _ h5 => (hoth b fun e => ?_).trans hb⟩,⟨(B0.mono hlt.1).trans (hk2.low.trans (hlow.mono hlt.1)),fun b cs t f hb h2 h3 h4 h5 => (hoth b (by have:=heap_lt hb;omega)).trans (hk2.far b cs t f ((B0.block b (heap_lt hb)).trans hb) h2 h3 h4 h5)⟩⟩
  subst e
  rw [hbx] at hb
  injection hb with hb
  injection hb with _ hb
  subst hb
  simp at h5
end Go.Proofs.YtdgpmpccfjmmcaaGreatDoor
namespace Go.Proofs.YtdgpmpccfjmmcaaGreatDoor
open Go.RowKit
theorem in_any {a b:Int} (w:World) (h:1≤a∧a≤b):Calls Tryz.prog 40 #[.int .i64 a,.int .i64 b] w fun e w' => e=.returned (.bool true)∧w'=w:=by
 have h1:¬ a < 1:=by omega
 have h2:¬ b < a:=by omega
 obtain ⟨h3,h4⟩:=h
 go_enter Tryz.func40,Tryz.ntmps40
 go_wp2_with fail
 go_ret
 exact ⟨rfl,rfl⟩
theorem check_top (w:World):Calls Tryz.prog 17 #[.agg #[.int .i64 4000,.int .i64 900,.int .i64 200,.int .i64 40]] w fun e w' => e=.returned (.int .i64 0)∧Below w.heap.size w w':=by
 have B0:=Lib.hid (show Below w.heap.size w (w.alloc (Obj.cells #[.int .i64 4000,.int .i64 900,.int .i64 200,.int .i64 40] 40)) from belA (Below.refl _ _) _)
 go_enter Tryz.func17,Tryz.ntmps17
 go_wp2_with fail
 refine (in_any _ (by omega)).mono ?_
 rintro e w1 ⟨rfl,rfl⟩
 go_wp2_with fail
 refine (in_any _ (by omega)).mono ?_
 rintro e w1 ⟨rfl,rfl⟩
 go_wp2_with fail
 refine (in_any _ (by omega)).mono ?_
 rintro e w1 ⟨rfl,rfl⟩
 go_wp2_with fail
 refine (in_any _ (by omega)).mono ?_
 rintro e w1 ⟨rfl,rfl⟩
 go_wp2_with fail
 go_ret
 exact ⟨rfl,B0.out⟩
end Go.Proofs.YtdgpmpccfjmmcaaGreatDoor
namespace Go.Proofs.YtdgpmpccfjmmcaaGreatDoor
open Go.RowKit
set_option maxHeartbeats 8000000 in
set_option maxRecDepth 100000 in
theorem zone_any (s:ByteArray) (w:World) {mx:Int} {x:T × List ByteArray} (hone:OneAs s x)
 (hmx:w.cell? ⟨2,0,none⟩=some (.int .i64 mx)) (htab:TabX w) (herr:ErrX w) (hops:TableX w):Calls Tryz.prog 18 #[.string s] w fun e w' =>
 (∃ k0 k1 k2 A0 m0 c0 NA nc,e=.returned (.tuple #[.agg #[.int .i64 k0,.int .i64 k1,.string k2,.slice A0 m0 c0,.slice NA x.2.length nc],.int .i64 0,.int .i64 0])∧TP w' (fun b => w.heap.size≤b) x.1 (.agg #[.int .i64 k0,.int .i64 k1,.string k2,.slice A0 m0 c0])∧w'.ownsRow w.heap.size 9 1 (.slice NA x.2.length nc) x.2.length (x.2.map Value.string))∧Below w.heap.size w w':=by
 obtain ⟨⟨l,y,hl,hlast⟩,hrd⟩:=hone
 have hw0:=World.block_lt_of_cell? w _ hmx
 dsimp only at hw0
 have HMX:=Lib.hid hmx
 have HTB:=Lib.hid htab
 have HER:=Lib.hid herr
 have HOP:=Lib.hid hops
 have HL:=Lib.hid hl
 have HLA:=Lib.hid hlast
 have HRD:=Lib.hid hrd
 clear hmx htab herr hops hl hlast hrd
 go_enter Tryz.func18,Tryz.ntmps18
 go_wp2_with fail
 refine (ptokens_any s _ ((((Below.refl w.heap.size w).alloc (Nat.le_refl _) (Obj.cells #[.int .i64 0,.int .i64 0,.string ⟨#[]⟩,.slice none 0 0,.slice none 0 0] 54)).cell (p:=⟨2,0,none⟩) hw0).trans HMX.out)).mono ?_
 rintro e w1 ⟨⟨v,p,er,rfl,hok⟩,h1⟩
 have hbx1:=Lib.hid ((h1.block w.heap.size (by simp)).trans (heap_alloc_new w (Obj.cells #[.int .i64 0,.int .i64 0,.string ⟨#[]⟩,.slice none 0 0,.slice none 0 0] 54)))
 have B1:=Lib.hid (((Below.refl w.heap.size w).alloc (Nat.le_refl _) (Obj.cells #[.int .i64 0,.int .i64 0,.string ⟨#[]⟩,.slice none 0 0,.slice none 0 0] 54)).trans (h1.mono (by simp)))
 obtain ⟨x0,x1,x2,x3,x4⟩:=box5 hbx1.out
 have xf:∀ j,w1.frozen? ⟨w.heap.size,j,none⟩=false:=fun j => by simp [World.frozen?,hbx1.out]
 clear h1
 unfold TokQ at hok
 rw [HL.out] at hok
 obtain ⟨rfl,rfl,hown,hn,hsz,htk⟩:=hok
 obtain ⟨n,hl⟩:∃ n,l.length=n:=⟨_,rfl⟩
 rw [hl] at hown hn
 obtain ⟨A,tc,rfl,hc,hA,hcm,hx⟩:=own_open hown
 clear hown
 have hsum:s.size+2≤5000:=by omega
 obtain ⟨m,rfl⟩:∃ m,n=m+1:=by
  obtain ⟨hy,_⟩:=HLA.out
  rcases n with _ | m
  ·rw [List.length_eq_zero_iff.1 hl] at hy;cases hy
  ·exact ⟨m,rfl⟩
 obtain ⟨g,cur,rfl,_,hh,hcur⟩:=hx (by omega)
 have hlm:m < l.length:=by omega
 have hc0:w1.cell? ⟨g,m*4,none⟩=some (.int .i64 (l[m]'hlm).k):=by
  rw [Nat.mul_comm m 4,cell_of_row w1 g (4*m) _ _ _ hh,hcur (4*m) (by omega)]
  simpa [Tk.cells] using tkCells_at l m hlm 0 (by omega)
 obtain ⟨kk,hkk⟩:∃ kk,kk=(l[m]'hlm).k:=⟨_,rfl⟩
 have hk6:(kk != 6)=true:=by
  obtain ⟨hy,hy6⟩:=HLA.out
  rw [List.getLast?_eq_getElem?,hl,show m+1 - 1=m from rfl,List.getElem?_eq_getElem hlm] at hy
  injection hy with hy
  rw [hkk,hy]
  simpa using hy6
 rw [← hkk] at hc0
 clear hcur hh hkk hl htk hx
 go_wp2_with fail
 refine (zread_any _ _ HRD.out ((B1.out.cell (p:=⟨2,0,none⟩) hw0).trans HMX.out) (HTB.out.below B1.out) (HER.out.below B1.out) (HOP.out.below B1.out)).mono ?_
 rintro e w2 ⟨⟨v2,xs,rfl,hown2,hsr⟩,h2⟩
 have hbx2:=Lib.hid ((h2.block _ (heap_lt hbx1.out)).trans hbx1.out)
 have B2:=Lib.hid (B1.out.trans (h2.mono B1.out.size))
 have hs1:=B1.out.size
 clear x0 x1 x2 x3 x4 xf
 obtain ⟨x0,x1,x2,x3,x4⟩:=box5 hbx2.out
 have xf:∀ j,w2.frozen? ⟨w.heap.size,j,none⟩=false:=fun j => by simp [World.frozen?,hbx2.out]
 clear h2
 obtain ⟨k0,k1,k2,A0,m0,cc0,NA,nc,c0,c1,c2,c3,c4,htp,_,_,_,hnm⟩:=hsr 0 x rfl
 obtain ⟨A2,q2,rfl,_,_,_,hx2⟩:=own_open hown2
 obtain ⟨g,cur,rfl,_,hh,hcur⟩:=hx2 (by simp)
 have hr:=fun (j:Nat) (hj:j < 1*5) => (cell_of_row w2 g j _ _ _ hh).trans (hcur j hj)
 have z0:=(hr 0 (by omega)).trans c0
 have z1:=(hr 1 (by omega)).trans c1
 have z2:=(hr 2 (by omega)).trans c2
 have z3:=(hr 3 (by omega)).trans c3
 have z4:=(hr 4 (by omega)).trans c4
 have HT:=Lib.hid htp
 have HN:=Lib.hid hnm
 clear hr hcur hx2 htp hnm c0 c1 c2 c3 c4 hsr hown2
 obtain ⟨nn,hnn⟩:∃ nn,x.2.length=nn:=⟨_,rfl⟩
 have HNN:=Lib.hid hnn
 rw [hnn] at z4 HN
 clear hnn
 go_wp2_with fail
 have P:=box_put5 hbx2.out (.int .i64 k0) (.int .i64 k1) (.string k2) (.slice A0 m0 cc0) (.slice NA nn nc) rfl
 obtain ⟨p0,p1,p2,p3,p4⟩:=box5 P.1
 refine bodyPost_ret (v:=.tuple #[.agg #[.int .i64 k0,.int .i64 k1,.string k2,.slice A0 m0 cc0,.slice NA nn nc],.int .i64 0,.int .i64 0]) (by simp [results,go_sem,p0,p1,p2,p3,p4]) rfl ?_
 rw [HNN.out]
 refine ⟨⟨k0,k1,k2,A0,m0,cc0,NA,nc,rfl,(HT.out.more fun b hb => Nat.le_trans hs1 hb).keep fun b cs f hS hb => ⟨(P.2.1 b (heap_ne hb hbx2.out (by decide))).trans hb,hS⟩,own_keep (ownsRow_more HN.out hs1) fun g hg => ?_⟩,P.2.2 _ _ (Nat.le_refl _) B2.out⟩
 obtain ⟨cs,f,hh⟩:=Go.Lib.ownsRow_kind HN.out g hg
 exact P.2.1 g (heap_ne hh hbx2.out (by decide))
end Go.Proofs.YtdgpmpccfjmmcaaGreatDoor
