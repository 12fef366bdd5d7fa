/- The machine's build:a term of a clause's instructions:plainly. The machine's build:the walk. -/
import Derived.Test.YtdgpmpccfjmmcaaGreatDoorKJAq
import Derived.Test.YtdgpmpccfjmmcaaGreatDoorKJAg
import Derived.Test.YtdgpmpccfjmmcaaGreatDoorKJAr
import Derived.Test.YtdgpmpccfjmmcaaGreatDoorKJAd
import Derived.Deep.DeepCutAuto
set_option linter.unusedVariables false
set_option linter.unusedSimpArgs false
namespace Go.Proofs.YtdgpmpccfjmmcaaGreatDoor
open Go.RowKit
def argsI (b:Nat→Option (P × Nat)):Nat→Nat→Option (List P × Nat)
 | 0,at_ => some ([],at_)
 | n+1,at_ => match b at_ with
  | none => none
  | some (p,a1) => match argsI b n a1 with
   | none => none
   | some (ps,a2) => some (p ::ps,a2)
def buildI (l:List Ins) (base:Nat):Nat→Nat→Option (P × Nat)
 | 0,_ => none
 | f+1,at_ => match l[at_]? with
  | none => none
  | some x =>
   if x.o=2∨x.o=3 then (if 0≤x.a∧x.a≤1000 then some (.v (base+x.a.toNat),at_+1) else none)
   else if x.o=4 then some (.i x.a,at_+1)
   else if x.o=5 then some (.a x.s.data.toList,at_+1)
   else if 0 < x.a∧x.a≤1000 then (match argsI (buildI l base f) x.a.toNat (at_+1) with
    | none => none
    | some (ps,a2) => some (.c x.s.data.toList ps,a2))
   else none
theorem args_len {b:Nat→Option (P × Nat)}:∀ {n at_ a2:Nat} {ps:List P},argsI b n at_=some (ps,a2)→ps.length=n
 | 0,at_,a2,ps,h => by injection h with h;injection h with h;subst h;rfl
 | n+1,at_,a2,ps,h => by
  unfold argsI at h
  split at h
  ·cases h
  ·split at h
   ·cases h
   ·rename_i h2
    injection h with h
    injection h with h
    subst h
    rw [List.length_cons,args_len h2]
theorem args_at {b:Nat→Option (P × Nat)}:∀ {n at_ a2:Nat} {ps:List P},argsI b n at_=some (ps,a2)→∀ i,i < n→∃ (p:P) (q m:Nat),argsI b i at_=some (ps.take i,q)∧b q=some (p,m)∧ps[i]? =some p∧argsI b (i+1) at_=some (ps.take (i+1),m)
 | 0,at_,a2,ps,h,i,hi => absurd hi (by omega)
 | n+1,at_,a2,ps,h,i,hi => by
  have h0:=h
  unfold argsI at h
  split at h
  ·cases h
  ·rename_i p a1 hb
   split at h
   ·cases h
   ·rename_i ps' a2' h2
    injection h with h
    injection h with h h'
    subst h;subst h'
    cases i with
    | zero => exact ⟨p,at_,a1,rfl,hb,rfl,by simp [argsI,hb]⟩
    | succ i =>
     obtain ⟨p',q,m,e1,e2,e3,e4⟩:=args_at h2 i (by omega)
     refine ⟨p',q,m,?_,e2,by simpa using e3,?_⟩
     ·simp [argsI,hb,e1]
     ·rw [argsI];simp only [hb,e4,List.take_succ_cons]
def IRC (w:World) (l:List Ins) (v:Value):Prop:=∃ (g c:Nat) (cs:Array Value) (f:Nat × Nat),v=.slice (some ⟨g,0,none⟩) l.length c∧l.length≤c∧w.heap[g]? =some (.cells cs 67 f)∧∀ (i:Nat) (x:Ins),l[i]? =some x→cs[i*3]? =some (.int .i64 x.o)∧cs[i*3+1]? =some (.int .i64 x.a)∧cs[i*3+2]? =some (.string x.s)
theorem IRC.keep {w w':World} {l:List Ins} {v:Value} (h:IRC w l v) (hk:∀ (b:Nat) (cs:Array Value) (f:Nat × Nat),w.heap[b]? =some (.cells cs 67 f)→w'.heap[b]? =some (.cells cs 67 f)):IRC w' l v:=by
 obtain ⟨g,c,cs,f,e,hc,hh,hx⟩:=h
 exact ⟨g,c,cs,f,e,hc,hk _ _ _ hh,hx⟩
theorem IRC.below {w w':World} {l:List Ins} {v:Value} (h:IRC w l v) (hb:Below w.heap.size w w'):IRC w' l v:=h.keep fun b _ _ hh => (hb.block b (heap_lt hh)).trans hh
end Go.Proofs.YtdgpmpccfjmmcaaGreatDoor
namespace Go.Proofs.YtdgpmpccfjmmcaaGreatDoor
open Go.RowKit
structure MkB (ts:Nat→T) (w:World) (lim tb rb g m:Nat) (tc rc:List Value) (W:World) (i:Nat):Prop where
 bt:W.heap[tb]? =some (.cells tc.toArray 51 (0,0))
 br:W.heap[rb]? =some (.cells rc.toArray 51 (0,0))
 row:∃ cur,W.heap[g]? =some (.cells cur 51 (0,0))∧4*m≤cur.size∧∀ q,q < i→∃ v0 v1 v2 v3,cur[4*q]? =some v0∧cur[4*q+1]? =some v1∧cur[4*q+2]? =some v2∧cur[4*q+3]? =some v3∧TP W (fun b => lim≤b) (ts q) (.agg #[v0,v1,v2,v3])
 low:Below w.heap.size w W
 geo:w.heap.size≤tb∧w.heap.size≤rb∧w.heap.size≤g∧tb < lim∧rb < lim∧g < lim∧lim≤W.heap.size∧tb≠g∧rb≠g∧tb≠rb
 hi:i≤m
section
variable {ts:Nat→T} {w:World} {lim tb rb g m:Nat} {tc rc:List Value} {W W8:World} {i:Nat}
theorem MkB.push (h:MkB ts w lim tb rb g m tc rc W i) (him:i < m) (hb:Below W.heap.size W W8) {a0 a1 a2 a3:Value} (ht:TP W8 (fun b => W.heap.size≤b) (ts i) (.agg #[a0,a1,a2,a3])) :
 MkB ts w lim tb rb g m tc rc ((((W8.setCell ⟨g,i*4,none⟩ a0).setCell ⟨g,i*4+1,none⟩ a1).setCell ⟨g,i*4+2,none⟩ a2).setCell ⟨g,i*4+3,none⟩ a3) (i+1):=by
 obtain ⟨G1,G2,G3,G4,G5,G6,G7,G8,G9,G10⟩:=h.geo
 obtain ⟨cur,hcur,hsz,hq⟩:=h.row
 have hg8:=(hb.block g (heap_lt hcur)).trans hcur
 have keep:∀ b,b≠g→((((W8.setCell ⟨g,i*4,none⟩ a0).setCell ⟨g,i*4+1,none⟩ a1).setCell ⟨g,i*4+2,none⟩ a2).setCell ⟨g,i*4+3,none⟩ a3).heap[b]? =W8.heap[b]?:=fun b hne => by
  rw [Below.heap_setCell _ _ _ b hne,Below.heap_setCell _ _ _ b hne,Below.heap_setCell _ _ _ b hne,Below.heap_setCell _ _ _ b hne]
 have hnew:=blk_set (blk_set (blk_set (blk_set hg8 (i*4) a0) (i*4+1) a1) (i*4+2) a2) (i*4+3) a3
 have tpk:∀ {S:Nat→Prop} {t:T} {v:Value},TP W8 S t v→(∀ b,S b→lim≤b)→TP ((((W8.setCell ⟨g,i*4,none⟩ a0).setCell ⟨g,i*4+1,none⟩ a1).setCell ⟨g,i*4+2,none⟩ a2).setCell ⟨g,i*4+3,none⟩ a3) (fun b => lim≤b) t v:=fun ht hS => ht.keep fun b cs f hb hh => ⟨(keep b (by have:=hS b hb;omega)).trans hh,hS b hb⟩
 have low8:Below w.heap.size w W8:=h.low.trans (hb.mono h.low.size)
 refine ⟨(keep tb G8).trans ((hb.block tb (heap_lt h.bt)).trans h.bt),(keep rb G9).trans ((hb.block rb (heap_lt h.br)).trans h.br),⟨_,hnew,by simpa using hsz,fun q hqi => ?_⟩,?_,⟨G1,G2,G3,G4,G5,G6,by simpa using Nat.le_trans G7 hb.size,G8,G9,G10⟩,him⟩
 ·by_cases hqe:q=i
  ·subst hqe
   refine ⟨a0,a1,a2,a3,?_,?_,?_,?_,tpk ht fun b hS => Nat.le_trans G7 hS⟩
   ·rw [Nat.mul_comm 4 q];simp [Array.getElem?_setIfInBounds];omega
   ·rw [Nat.mul_comm 4 q];simp [Array.getElem?_setIfInBounds];omega
   ·rw [Nat.mul_comm 4 q];simp [Array.getElem?_setIfInBounds];omega
   ·rw [Nat.mul_comm 4 q];simp [Array.getElem?_setIfInBounds];omega
  ·obtain ⟨v0,v1,v2,v3,c0,c1,c2,c3,htq⟩:=hq q (by omega)
   have far:∀ j,j < 4→((((cur.setIfInBounds (i*4) a0).setIfInBounds (i*4+1) a1).setIfInBounds (i*4+2) a2).setIfInBounds (i*4+3) a3)[4*q+j]? =cur[4*q+j]?:=fun j hj => by
    rw [Array.getElem?_setIfInBounds_ne (by omega),Array.getElem?_setIfInBounds_ne (by omega),Array.getElem?_setIfInBounds_ne (by omega),Array.getElem?_setIfInBounds_ne (by omega)]
   exact ⟨v0,v1,v2,v3,(far 0 (by omega)).trans c0,(far 1 (by omega)).trans c1,(far 2 (by omega)).trans c2,(far 3 (by omega)).trans c3,tpk (htq.below hb) fun b hS => hS⟩
 ·exact (((low8.setCell (p:=⟨g,i*4,none⟩) G3 _).setCell (p:=⟨g,i*4+1,none⟩) G3 _).setCell (p:=⟨g,i*4+2,none⟩) G3 _).setCell (p:=⟨g,i*4+3,none⟩) G3 _
theorem MkB.below (h:MkB ts w lim tb rb g m tc rc W i) (hb:Below W.heap.size W W8):MkB ts w lim tb rb g m tc rc W8 i:=by
 obtain ⟨G1,G2,G3,G4,G5,G6,G7,G8⟩:=h.geo
 obtain ⟨cur,hcur,hsz,hq⟩:=h.row
 exact ⟨(hb.block tb (heap_lt h.bt)).trans h.bt,(hb.block rb (heap_lt h.br)).trans h.br,⟨cur,(hb.block g (heap_lt hcur)).trans hcur,hsz,fun q hqi => by
  obtain ⟨v0,v1,v2,v3,c0,c1,c2,c3,ht⟩:=hq q hqi
  exact ⟨v0,v1,v2,v3,c0,c1,c2,c3,ht.below hb⟩⟩,h.low.trans (hb.mono h.low.size),⟨G1,G2,G3,G4,G5,G6,Nat.le_trans G7 hb.size,G8⟩,h.hi⟩
theorem MkB.done (h:MkB ts w lim tb rb g m tc rc W m) (s:ByteArray):TP W (fun b => w.heap.size≤b∧b≠rb) (.mk 4 0 s m ts) (.agg #[.int .i64 4,.int .i64 0,.string s,.slice (some ⟨g,0,none⟩) m m]):=by
 obtain ⟨G1,G2,G3,G4,G5,G6,G7,G8,G9,G10⟩:=h.geo
 obtain ⟨cur,hcur,hsz,hq⟩:=h.row
 refine ⟨_,m,rfl,Nat.le_refl _,(fun h => by cases h),fun _ => ⟨g,cur,(0,0),rfl,⟨G3,Ne.symm G9⟩,hcur,fun q hqm => ?_⟩⟩
 obtain ⟨v0,v1,v2,v3,c0,c1,c2,c3,ht⟩:=hq q hqm
 exact ⟨v0,v1,v2,v3,c0,c1,c2,c3,ht.more fun b hb => ⟨by omega,by omega⟩⟩
end
theorem mkb_of {w W:World} (ts:Nat→T) {tb g m:Nat} {tc rc xs:List Value} (hlow:Below w.heap.size w W) (ht:W.heap[tb]? =some (.cells tc.toArray 51 (0,0))) (hr:W.heap[w.heap.size]? =some (.cells rc.toArray 51 (0,0)))
 (hown:W.ownsRow w.heap.size 51 4 (.slice (some ⟨g,0,none⟩) m m) m xs) (hm:0 < m) (h1:w.heap.size < tb) (h2:tb≠g) (h3:w.heap.size≠g):MkB ts w W.heap.size tb w.heap.size g m tc rc W 0:=by
 obtain ⟨A9,c9,e9,_,_,_,hx9⟩:=own_open hown
 obtain ⟨g9,cur,rfl,hge,hh,hcur⟩:=hx9 hm
 injection e9 with e9
 injection e9 with e9
 injection e9 with e9
 subst e9
 have hl:=own_len hown
 refine ⟨ht,hr,⟨cur,hh,?_,fun q hq => absurd hq (by omega)⟩,hlow,⟨by omega,Nat.le_refl _,hge,heap_lt ht,heap_lt hr,heap_lt hh,Nat.le_refl _,h2,h3,by omega⟩,Nat.zero_le _⟩
 have h1:=hcur (4*m - 1) (by omega)
 rw [List.getElem?_eq_getElem (by omega)] at h1
 have:=(Array.getElem?_eq_some_iff.mp h1).1
 omega
theorem build_leaf {w w1:World} (hb:Below w.heap.size w w1) {z0 z1 z2 z3:Value} (hx:w1.heap[w.heap.size]? =some (.cells #[z0,z1,z2,z3] 51 (0,0))) (k n:Int) (s:ByteArray) :
 ((((w1.setCell ⟨w.heap.size,0,none⟩ (.int .i64 k)).setCell ⟨w.heap.size,1,none⟩ (.int .i64 n)).setCell ⟨w.heap.size,2,none⟩ (.string s)).setCell ⟨w.heap.size,3,none⟩ (.slice none 0 0)).heap[w.heap.size]? =some (.cells #[.int .i64 k,.int .i64 n,.string s,.slice none 0 0] 51 (0,0))∧
 Below w.heap.size w ((((w1.setCell ⟨w.heap.size,0,none⟩ (.int .i64 k)).setCell ⟨w.heap.size,1,none⟩ (.int .i64 n)).setCell ⟨w.heap.size,2,none⟩ (.string s)).setCell ⟨w.heap.size,3,none⟩ (.slice none 0 0)):=by
 have P:=box_put4 hx (.int .i64 k) (.int .i64 n) (.string s) (.slice none 0 0) rfl
 exact ⟨P.1,P.2.2.2 _ _ (Nat.le_refl _) hb⟩
def BuildC (l:List Ins) (base f:Nat):Prop:=∀ (at_:Nat) (p:P) (a2:Nat),buildI l base f at_=some (p,a2)→∀ (w:World) (v:Value),IRC w l v→
 Calls Tryz.prog 127 #[v,.int .i64 (at_:Int),.int .i64 (base:Int)] w fun e w' => (∃ x0 x1 x2 x3,e=.returned (.tuple #[.agg #[x0,x1,x2,x3],.int .i64 (a2:Int)])∧TP w' (fun b => w.heap.size≤b) p.t (.agg #[x0,x1,x2,x3]))∧Below w.heap.size w w'
set_option maxRecDepth 100000 in
set_option maxHeartbeats 8000000 in
theorem build_step {l:List Ins} {base f:Nat} (hl:l.length≤20000) (hb:base≤100000) (ih:BuildC l base f):BuildC l base (f+1):=by
 intro at_ p a2 h w v hir
 have IH:=Lib.hid ih
 have IR:=Lib.hid hir
 obtain ⟨g,c,cs,fg,rfl,hc,hh,hx⟩:=hir
 unfold buildI at h
 obtain ⟨x,hxa⟩:∃ x,l[at_]? =some x:=by
  cases hq:l[at_]? with
  | none => rw [hq] at h;cases h
  | some x => exact ⟨x,rfl⟩
 rw [hxa] at h
 simp only at h
 have hat:at_ < l.length:=(List.getElem?_eq_some_iff.1 hxa).1
 have hati:(at_:Int) < (l.length:Int):=by omega
 obtain ⟨e0,e1,e2⟩:=hx at_ x hxa
 obtain ⟨o,a,s⟩:=x
 have hr:=fun (j:Nat) => cell_of_row w g j _ _ _ hh
 have c0:=(hr (at_*3)).trans e0
 have c1:=(hr (at_*3+1)).trans e1
 have c2:=(hr (at_*3+2)).trans e2
 have hgl:=heap_lt hh
 simp only at c0 c1 c2 h
 have HH:=Lib.hid h
 clear ih hx hh e0 e1 e2 hr hxa h
 have BA:=Lib.hid (belA (belA (Below.refl w.heap.size w) (Obj.cells #[.int .i64 0,.int .i64 0,.string ⟨#[]⟩,.slice none 0 0] 51)) (Obj.cells #[.int .i64 o,.int .i64 a,.string s] 67))
 have XA:=Lib.hid ((Below.heap_alloc (w.alloc (Obj.cells #[.int .i64 0,.int .i64 0,.string ⟨#[]⟩,.slice none 0 0] 51)) (Obj.cells #[.int .i64 o,.int .i64 a,.string s] 67) w.heap.size (by simp)).trans (heap_alloc_new w (Obj.cells #[.int .i64 0,.int .i64 0,.string ⟨#[]⟩,.slice none 0 0] 51)))
 have leafV:(o=2∨o=3)→∃ n:Nat,a=(n:Int)∧n≤1000∧p=.v (base+n)∧a2=at_+1:=fun ho => by
  have h:=HH.out
  rw [if_pos ho] at h
  split at h
  ·rename_i ha
   injection h with h
   injection h with h h'
   exact ⟨a.toNat,by omega,by omega,h.symm,h'.symm⟩
  ·cases h
 cases h2:(o == 2) with
 | true =>
  obtain ⟨n,rfl,hn,rfl,rfl⟩:=leafV (.inl (by simpa using h2))
  have hw1:IntKind.i64.wrap ((base:Int)+(n:Int))=(base:Int)+(n:Int):=Go.IntWalk.i64_in _ ⟨by omega,by omega⟩
  clear leafV
  go_enter Tryz.func127,Tryz.ntmps127
  go_wp2_with fail
  refine (mvariable_any _ _).mono ?_
  rintro e w1 ⟨rfl,h1⟩
  have BW:=Lib.hid (BA.out.trans (h1.mono BA.out.size))
  have XW:=Lib.hid ((h1.block _ (heap_lt XA.out)).trans XA.out)
  obtain ⟨y0,y1,y2,y3⟩:=box4 XW.out
  have yf:∀ j,w1.frozen? ⟨w.heap.size,j,none⟩=false:=fun j => by simp [World.frozen?,XW.out]
  have yl:=heap_lt XW.out
  clear h1
  go_wp2_with fail
  obtain ⟨P1,P2⟩:=build_leaf BW.out XW.out 1 ((base:Int)+(n:Int)) (⟨#[]⟩)
  obtain ⟨p0,p1,p2,p3⟩:=box4 P1
  refine bodyPost_ret (v:=.tuple #[.agg #[.int .i64 1,.int .i64 ((base:Int)+(n:Int)),.string (⟨#[]⟩),.slice none 0 0],.int .i64 ((at_:Int)+1)]) (by simp [results,go_sem,p0,p1,p2,p3]) rfl ?_
  exact ⟨⟨_,_,_,_,rfl,TP.leaf _ _ 1 ((base:Int)+(n:Int)) ⟨#[]⟩⟩,P2⟩
 | false =>
 cases h3:(o == 3) with
 | true =>
  obtain ⟨n,rfl,hn,rfl,rfl⟩:=leafV (.inr (by simpa using h3))
  have hw1:IntKind.i64.wrap ((base:Int)+(n:Int))=(base:Int)+(n:Int):=Go.IntWalk.i64_in _ ⟨by omega,by omega⟩
  clear leafV
  go_enter Tryz.func127,Tryz.ntmps127
  go_wp2_with fail
  refine (mvariable_any _ _).mono ?_
  rintro e w1 ⟨rfl,h1⟩
  have BW:=Lib.hid (BA.out.trans (h1.mono BA.out.size))
  have XW:=Lib.hid ((h1.block _ (heap_lt XA.out)).trans XA.out)
  obtain ⟨y0,y1,y2,y3⟩:=box4 XW.out
  have yf:∀ j,w1.frozen? ⟨w.heap.size,j,none⟩=false:=fun j => by simp [World.frozen?,XW.out]
  have yl:=heap_lt XW.out
  clear h1
  go_wp2_with fail
  obtain ⟨P1,P2⟩:=build_leaf BW.out XW.out 1 ((base:Int)+(n:Int)) (⟨#[]⟩)
  obtain ⟨p0,p1,p2,p3⟩:=box4 P1
  refine bodyPost_ret (v:=.tuple #[.agg #[.int .i64 1,.int .i64 ((base:Int)+(n:Int)),.string (⟨#[]⟩),.slice none 0 0],.int .i64 ((at_:Int)+1)]) (by simp [results,go_sem,p0,p1,p2,p3]) rfl ?_
  exact ⟨⟨_,_,_,_,rfl,TP.leaf _ _ 1 ((base:Int)+(n:Int)) ⟨#[]⟩⟩,P2⟩
 | false =>
 have HN:=Lib.hid (show ¬ (o=2∨o=3) by simp at h2 h3;omega)
 clear leafV
 cases h4:(o == 4) with
 | true =>
  obtain ⟨rfl,rfl⟩:p=.i a∧a2=at_+1:=by
   have h:=HH.out
   rw [if_neg HN.out,if_pos (by simpa using h4)] at h
   injection h with h
   injection h with h h'
   exact ⟨h.symm,h'.symm⟩
  go_enter Tryz.func127,Tryz.ntmps127
  go_wp2_with fail
  refine (minteger_any _ _).mono ?_
  rintro e w1 ⟨rfl,h1⟩
  have BW:=Lib.hid (BA.out.trans (h1.mono BA.out.size))
  have XW:=Lib.hid ((h1.block _ (heap_lt XA.out)).trans XA.out)
  obtain ⟨y0,y1,y2,y3⟩:=box4 XW.out
  have yf:∀ j,w1.frozen? ⟨w.heap.size,j,none⟩=false:=fun j => by simp [World.frozen?,XW.out]
  have yl:=heap_lt XW.out
  clear h1
  go_wp2_with fail
  obtain ⟨P1,P2⟩:=build_leaf BW.out XW.out 2 (a) (⟨#[]⟩)
  obtain ⟨p0,p1,p2,p3⟩:=box4 P1
  refine bodyPost_ret (v:=.tuple #[.agg #[.int .i64 2,.int .i64 (a),.string (⟨#[]⟩),.slice none 0 0],.int .i64 ((at_:Int)+1)]) (by simp [results,go_sem,p0,p1,p2,p3]) rfl ?_
  exact ⟨⟨_,_,_,_,rfl,TP.leaf _ _ 2 a ⟨#[]⟩⟩,P2⟩
 | false =>
 have HN4:=Lib.hid (show ¬ o=4 by simpa using h4)
 cases h5:(o == 5) with
 | true =>
  obtain ⟨rfl,rfl⟩:p=.a s.data.toList∧a2=at_+1:=by
   have h:=HH.out
   rw [if_neg HN.out,if_neg HN4.out,if_pos (by simpa using h5)] at h
   injection h with h
   injection h with h h'
   exact ⟨h.symm,h'.symm⟩
  have hba:ba s.data.toList=s:=by simp [ba]
  have hte:(P.a s.data.toList).t=.mk 3 0 s 0 fun _ => .nil:=by simp only [P.t,hba]
  rw [hte]
  clear hba hte
  go_enter Tryz.func127,Tryz.ntmps127
  go_wp2_with fail
  refine (matom_any _ _).mono ?_
  rintro e w1 ⟨rfl,h1⟩
  have BW:=Lib.hid (BA.out.trans (h1.mono BA.out.size))
  have XW:=Lib.hid ((h1.block _ (heap_lt XA.out)).trans XA.out)
  obtain ⟨y0,y1,y2,y3⟩:=box4 XW.out
  have yf:∀ j,w1.frozen? ⟨w.heap.size,j,none⟩=false:=fun j => by simp [World.frozen?,XW.out]
  have yl:=heap_lt XW.out
  clear h1
  go_wp2_with fail
  obtain ⟨P1,P2⟩:=build_leaf BW.out XW.out 3 (0) (s)
  obtain ⟨p0,p1,p2,p3⟩:=box4 P1
  refine bodyPost_ret (v:=.tuple #[.agg #[.int .i64 3,.int .i64 (0),.string (s),.slice none 0 0],.int .i64 ((at_:Int)+1)]) (by simp [results,go_sem,p0,p1,p2,p3]) rfl ?_
  exact ⟨⟨_,_,_,_,rfl,TP.leaf _ _ 3 0 s⟩,P2⟩
 | false =>
 obtain ⟨m,ps,rfl,hm0,hm1,hargs,rfl⟩:∃ (m:Nat) (ps:List P),a=(m:Int)∧0 < m∧m≤1000∧argsI (buildI l base f) m (at_+1)=some (ps,a2)∧p=.c s.data.toList ps:=by
  have h:=HH.out
  rw [if_neg HN.out,if_neg HN4.out,if_neg (by simpa using h5)] at h
  split at h
  ·rename_i ha
   split at h
   ·cases h
   ·rename_i ps a2' h6
    injection h with h
    injection h with h h'
    subst h'
    exact ⟨a.toNat,ps,by omega,by omega,by omega,h6,h.symm⟩
  ·cases h
 have HA:=Lib.hid hargs
 have hpl:=args_len hargs
 clear HH hargs
 go_enter Tryz.func127,Tryz.ntmps127
 go_upto_region 11 with fail
 go_cut [9] (fun s9 wx => ∃ (tb g lim:Nat),s9=.pointer (some ⟨tb,0,none⟩)∧MkB (tsP ps) w lim tb w.heap.size g m [.int .i64 4,.int .i64 0,.string s,.slice (some ⟨g,0,none⟩) m m] [.int .i64 0,.int .i64 0,.string ⟨#[]⟩,.slice none 0 0] wx 0)
 case first =>
  obtain ⟨item,hi1,hi2,hi3,hi4⟩:=elTerm.hi
  have XI:=Lib.hid (show ((w.alloc (Obj.cells #[.int .i64 0,.int .i64 0,.string ⟨#[]⟩,.slice none 0 0] 51)).alloc (Obj.cells #[.int .i64 o,.int .i64 (m:Int),.string s] 67)).heap[w.heap.size+1]? =some (.cells [.int .i64 o,.int .i64 (m:Int),.string s].toArray 67 (0,0)) from heap_at _ _ (by simp))
  have XR:=Lib.hid XA.out
  have hW0:((w.alloc (Obj.cells #[.int .i64 0,.int .i64 0,.string ⟨#[]⟩,.slice none 0 0] 51)).alloc (Obj.cells #[.int .i64 o,.int .i64 (m:Int),.string s] 67)).heap.size=w.heap.size+2:=by simp
  generalize (w.alloc (Obj.cells #[.int .i64 0,.int .i64 0,.string ⟨#[]⟩,.slice none 0 0] 51)).alloc (Obj.cells #[.int .i64 o,.int .i64 (m:Int),.string s] 67)=W0 at*
  refine rg [(1,fun u => AC u (w.heap.size+1) 0 [.int .i64 o,.int .i64 (m:Int),.string s]),(3,fun u => AC u (w.heap.size+1) 0 [.int .i64 o,.int .i64 (m:Int),.string s])] (hS:=⟨ac_of XI.out,ac_of XI.out,trivial⟩) (h:=fun hH => ?_)
  obtain ⟨w',hrun,q1,q2⟩:=run_make_full (P:=Tryz.prog) W0.drew w.heap.size 47 51 item (.agg #[.int .i64 0,.int .i64 0,.string ⟨#[]⟩,.slice none 0 0]) 4 Tryz.underlying47 hi1 hi2 hi3 .i64 .i64 m (by rw [hi4];omega) (by unfold maxLen;omega) (by show w.heap.size≤W0.heap.size;omega)
  have BW0:=Lib.hid BA.out
  have hs0:W0.drew.heap.size=w.heap.size+2:=hW0
  have hd:∀ b:Nat,W0.drew.heap[b]? =W0.heap[b]?:=fun _ => rfl
  obtain ⟨w2,hrun2,z1,z2⟩:=run_make_full (P:=Tryz.prog) (W0.alloc (Obj.cells #[.int .i64 0,.int .i64 0,.string ⟨#[]⟩,.slice none 0 0] 51)).drew w.heap.size 47 51 item (.agg #[.int .i64 0,.int .i64 0,.string ⟨#[]⟩,.slice none 0 0]) 4 Tryz.underlying47 hi1 hi2 hi3 .i64 .i64 m (by rw [hi4];omega) (by unfold maxLen;omega) (by simp;omega)
  have hs2:(W0.alloc (Obj.cells #[.int .i64 0,.int .i64 0,.string ⟨#[]⟩,.slice none 0 0] 51)).drew.heap.size=w.heap.size+3:=by show (W0.alloc _).heap.size=_;simp;omega
  rw [hs0] at hrun q1
  rw [hs2] at hrun2 z1
  refine tp 0 (h:=tl 1 (h:=tp 2 (h:=tl 3 (h:=r2 4 6 [1] [1,3] (h:=fun K hK => ?_) (h2:=fun K hK => ?_)))))
  ·have hlq:=(q1.lt _ rfl).2
   have qr:=Lib.hid ((q2.block (w.heap.size) (by show w.heap.size < W0.heap.size;omega) (by simp)).trans (show W0.drew.heap[w.heap.size]? =_ from XR.out))
   have qi:=Lib.hid ((q2.block (w.heap.size+1) (by show w.heap.size+1 < W0.heap.size;omega) (by simp)).trans (show W0.drew.heap[w.heap.size+1]? =_ from XI.out))
   have BQ:=Lib.hid ((BW0.out.drew).grown q2 (by show w.heap.size≤W0.heap.size;omega) fun k hk => by cases hk)
   go_simp
   refine hK.out _ _ ⟨ac_of qi.out,trivial⟩ (fun hH2 => ?_)
   clear hK K hrun2 z1 z2
   refine tp 5 (h:=r1 6 [1] (h:=fun K hK => ?_))
   go_simp
   have AQ:=Lib.hid (belA (Below.refl w'.heap.size w') (Obj.cells #[.int .i64 0,.int .i64 0,.string ⟨#[]⟩,.slice none 0 0] 51))
   refine hK.out _ _ ⟨ac_of ((AQ.out.block _ (heap_lt qi.out)).trans qi.out),trivial⟩ (fun hH3 => ?_)
   clear hK K
   refine r1 7 [] (h:=fun K hK => ?_)
   go_simp
   refine hK.out _ _ trivial (fun hH4 => ?_)
   clear hK K
   refine dn (h:=?_)
   go_wp2_with fail
   go_meet
   have AR:=belA (Below.refl w'.heap.size w') (Obj.cells #[.int .i64 4,.int .i64 0,.string s,.slice (some ⟨w.heap.size+2,0,none⟩) m m] 51)
   exact ⟨w'.heap.size,w.heap.size+2,_,rfl,mkb_of (tsP ps) (BQ.out.trans (AR.mono BQ.out.size)) (heap_alloc_new _ _) ((AR.block _ (heap_lt qr.out)).trans qr.out) (own_below q1 AR) hm0 (by omega) (by omega) (by omega)⟩
  ·go_simp
   have AQ:=Lib.hid (belA (Below.refl W0.heap.size W0) (Obj.cells #[.int .i64 0,.int .i64 0,.string ⟨#[]⟩,.slice none 0 0] 51))
   have hs3:(W0.alloc (Obj.cells #[.int .i64 0,.int .i64 0,.string ⟨#[]⟩,.slice none 0 0] 51)).heap.size=w.heap.size+3:=hs2
   have zr:=Lib.hid ((z2.block (w.heap.size) (by show w.heap.size < (W0.alloc _).heap.size;omega) (by simp)).trans ((AQ.out.block _ (heap_lt XR.out)).trans XR.out))
   have zi:=Lib.hid ((z2.block (w.heap.size+1) (by show w.heap.size+1 < (W0.alloc _).heap.size;omega) (by simp)).trans ((AQ.out.block _ (heap_lt XI.out)).trans XI.out))
   have zt:=Lib.hid ((z2.block (w.heap.size+2) (by show w.heap.size+2 < (W0.alloc _).heap.size;omega) (by simp)).trans (show (W0.alloc (Obj.cells #[.int .i64 0,.int .i64 0,.string ⟨#[]⟩,.slice none 0 0] 51)).heap[w.heap.size+2]? =_ from heap_at _ _ (by omega)))
   have BZ:=Lib.hid ((BW0.out.trans (AQ.out.mono (by omega))).drew.grown z2 (by show w.heap.size≤(W0.alloc _).heap.size;omega) fun k hk => by cases hk)
   refine hK.out _ _ ⟨ac_of ((AQ.out.block _ (heap_lt XI.out)).trans XI.out),ac_of ((AQ.out.block _ (heap_lt XI.out)).trans XI.out),trivial⟩ (fun hH2 => ?_)
   clear hK K hrun q1 q2
   refine r1 4 [1] (h:=fun K hK => ?_)
   go_simp
   refine hK.out _ _ ⟨ac_of zi.out,trivial⟩ (fun hH3 => ?_)
   clear hK K
   obtain ⟨y0,y1,y2,y3⟩:=box4 zt.out
   have yf:∀ j,w2.frozen? ⟨w.heap.size+2,j,none⟩=false:=fun j => by simp [World.frozen?,zt.out]
   have yl:=heap_lt zt.out
   refine tp 5 (h:=r1 7 [] (h:=fun K hK => ?_))
   go_simp
   refine hK.out _ _ trivial (fun hH4 => ?_)
   clear hK K
   refine dn (h:=?_)
   go_wp2_with fail
   go_meet
   have P:=box_put4 zt.out (.int .i64 4) (.int .i64 0) (.string s) (.slice (some ⟨w.heap.size+3,0,none⟩) m m) rfl
   have zl:=(z1.lt _ rfl).1
   exact ⟨w.heap.size+2,w.heap.size+3,_,rfl,mkb_of (tsP ps) (P.2.2.2 _ _ (by omega) BZ.out) P.1 ((P.2.2.1 _ (by omega)).trans zr.out) (own_keep z1 fun b hb => P.2.2.1 b (by simp [Value.ownBlock] at hb;omega)) hm0 (by omega) (by omega) (by omega)⟩
 case rest =>
  obtain ⟨tb,g9,lim,rfl,hmk⟩:=hcut
  have MK0:=Lib.hid hmk
  obtain ⟨x0,x1,x2,x3⟩:=box4 hmk.bt
  have hl0:=heap_lt hmk.bt
  have hm0':(0:Int)≤(m:Int):=by omega
  clear hmk XA BA
  go_wp2_with fail
  go_loopw [1,10,49] (fun t1 _ iv wr => ∃ (i q:Nat),t1=.int .i64 (q:Int)∧iv=.int .i64 (i:Int)∧Hid (argsI (buildI l base f) i (at_+1)=some (ps.take i,q))∧MkB (tsP ps) w lim tb w.heap.size g9 m [.int .i64 4,.int .i64 0,.string s,.slice (some ⟨g9,0,none⟩) m m] [.int .i64 0,.int .i64 0,.string ⟨#[]⟩,.slice none 0 0] wr i) (fun _ _ iv _ => m - (intOf iv).toNat)
  case atStart => exact ⟨0,at_+1,by simp,rfl,Lib.hid rfl,MK0.out⟩
  case round =>
   clear MK0 x0 x1 x2 x3 hl0
   obtain ⟨i,q,rfl,rfl,hq,hmk⟩:=hrel
   have MK:=Lib.hid hmk
   have hi:=hmk.hi
   have hlt:=heap_lt hmk.bt
   obtain ⟨x0,x1,x2,x3⟩:=box4 hmk.bt
   by_cases him:i < m
   ·have him':(i:Int) < (m:Int):=by omega
    obtain ⟨p,q',m',e1,e2,e3,e4⟩:=args_at HA.out i him
    rw [hq.out] at e1
    injection e1 with e1
    injection e1 with _ e1
    subst e1
    have E4:=Lib.hid e4
    have HT:=Lib.hid (show tsP ps i=p.t by
     obtain ⟨h1,h2⟩:=List.getElem?_eq_some_iff.1 e3
     rw [ts_at ps i h1,h2])
    have BD:=Lib.hid (show Below wr.heap.size wr wr.drew from (Below.refl _ _).drew)
    have MD:=Lib.hid (hmk.below BD.out)
    have IRD:=Lib.hid ((IR.out.keep (fun b cs f hh => (hmk.low.block b (heap_lt hh)).trans hh)).below BD.out)
    have CI:=Lib.hid (IH.out q p m' e2 _ _ IRD.out)
    obtain ⟨cur,hcur,hsz,_⟩:=MD.out.row
    have HC:=Lib.hid hcur
    clear e2 e3 e4 hmk hcur
    go_wp2_with fail
    refine rg [(1,fun u => AC u tb 0 [.int .i64 4,.int .i64 0,.string s,.slice (some ⟨g9,0,none⟩) m m])] (hS:=⟨ac_of MD.out.bt,trivial⟩) (h:=fun hH => ?_)
    refine tp 0 (h:=tl 1 (h:=tp 2 (h:=tp 3 (h:=tp 4 (h:=tp 5 (h:=r1 6 [1] (h:=fun K hK => ?_)))))))
    go_simp
    refine CI.out.mono ?_
    rintro e w5 ⟨⟨a0,a1,a2',a3,rfl,ht5⟩,h5⟩
    obtain ⟨u0,u1,u2,uA,um,uc,hag⟩:=ht5.agg
    injection hag with hag
    simp only [Array.mk.injEq,List.cons.injEq,and_true] at hag
    obtain ⟨rfl,rfl,rfl,rfl⟩:=hag
    have M5:=Lib.hid (MD.out.below h5)
    have PP:=Lib.hid (MD.out.push him h5 (by rw [HT.out];exact ht5))
    have hc5:=(h5.block g9 (heap_lt HC.out)).trans HC.out
    have hg5:=heap_lt hc5
    have rc:=fun (j:Nat) (hj:j < cur.size) => (cell_of_row w5 g9 j _ _ _ hc5).trans (Array.getElem?_eq_getElem hj)
    have r0:=rc (i*4) (by omega)
    have r1':=rc (i*4+1) (by omega)
    have r2':=rc (i*4+2) (by omega)
    have r3:=rc (i*4+3) (by omega)
    have rf:∀ j,w5.frozen? ⟨g9,j,none⟩=false:=fun j => by simp [World.frozen?,hc5]
    refine hK.out _ _ ⟨ac_of M5.out.bt,trivial⟩ (fun hH2 => ?_)
    clear hK K ht5 h5 rc hc5
    refine tp 7 (h:=tp 8 (h:=tp 9 (h:=tp 10 (h:=r1 11 [] (h:=fun K hK => ?_)))))
    go_simp
    refine hK.out _ _ trivial (fun hH3 => ?_)
    clear hK K
    refine tp 12 (h:=dn (h:=?_))
    go_wp2_with fail
    go_roundw
    case rel => exact ⟨i+1,m',rfl,by go_num,E4,PP.out⟩
    case measure => simp [intOf];omega
   ·obtain rfl:i=m:=by omega
    have hq2:=hq.out
    rw [HA.out] at hq2
    injection hq2 with hq2
    injection hq2 with _ hq2
    subst hq2
    obtain ⟨y0,y1,y2,y3⟩:=box4 hmk.br
    have yf:∀ j,wr.frozen? ⟨w.heap.size,j,none⟩=false:=fun j => by simp [World.frozen?,MK.out.br]
    have yl:=heap_lt MK.out.br
    have D:=Lib.hid (MK.out.done s)
    clear hmk
    go_wp2_with fail
    have P:=box_put4 MK.out.br (.int .i64 4) (.int .i64 0) (.string s) (.slice (some ⟨g9,0,none⟩) i i) rfl
    obtain ⟨p0,p1,p2,p3⟩:=box4 P.1
    refine bodyPost_ret (v:=.tuple #[.agg #[.int .i64 4,.int .i64 0,.string s,.slice (some ⟨g9,0,none⟩) i i],.int .i64 (a2:Int)]) (by simp [results,go_sem,p0,p1,p2,p3]) rfl ?_
    have hte:(Go.Proofs.YtdgpmpccfjmmcaaGreatDoor.P.c s.data.toList ps).t=.mk 4 0 s i (tsP ps):=by simp only [Go.Proofs.YtdgpmpccfjmmcaaGreatDoor.P.t,hpl];rw [show ba s.data.toList=s by simp [ba]]
    refine ⟨⟨_,_,_,_,rfl,?_⟩,P.2.2.2 _ _ (Nat.le_refl _) MK.out.low⟩
    rw [hte]
    exact D.out.keep fun b cs f hS hh => ⟨(P.2.2.1 b hS.2).trans hh,hS.1⟩
theorem build_any {l:List Ins} {base:Nat} (hl:l.length≤20000) (hb:base≤100000):∀ f,BuildC l base f
 | 0 => fun _ _ _ h => by cases h
 | f+1 => build_step hl hb (build_any hl hb f)
end Go.Proofs.YtdgpmpccfjmmcaaGreatDoor
