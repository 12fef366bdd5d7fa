/- The walk through num.Print. The walk through num.Parse. The program's parser:TrimLeft of zeros;integer. The program's parser:integer,variable. The program's parser:variable. -/
import Derived.Test.YtdgpmpccfjmmcaaGreatDoorKJAd
import Derived.Test.YtdgpmpccfjmmcaaGreatDoorKJAc
import Derived.Test.YtdgpmpccfjmmcaaGreatDoorKShelf
import Derived.Lib.Hide
import Derived.Lib.AppendIntMem
import Derived.WalkSmall
set_option linter.unusedVariables false
set_option linter.unusedSimpArgs false
namespace Go.Proofs.YtdgpmpccfjmmcaaGreatDoor
open Go.RowKit
theorem blk_lt {w:World} {b:Nat} {o:Obj} (h:w.heap[b]? =some o):b < w.heap.size:=by
 rcases Nat.lt_or_ge b w.heap.size with h' | h'
 ·exact h'
 ·rw [Array.getElem?_eq_none h'] at h;cases h
def TabX (w:World):Prop:=Lib.TabIs Tryz.prog w "internal/strconv.uint64pow10" .u64 Lib.pow10Tab
theorem TabX.below {w w':World} (h:TabX w) (hb:Below w.heap.size w w'):TabX w':=by
 unfold TabX Lib.TabIs World.var? at h ⊢
 cases hg:Tryz.prog.globalNamed "internal/strconv.uint64pow10" with
 | none => rw [hg] at h;cases h
 | some g =>
  rw [hg] at h
  simp only [Option.bind_some] at h ⊢
  cases hh:w.heap[g]? with
  | none => rw [hh] at h;cases h
  | some o =>
   rw [hb.block g (blk_lt hh),hh]
   rw [hh] at h
   exact h
theorem itoa_any (a:Int) (w:World) (ha:I64 a) (ht:TabX w):Calls Tryz.prog 41 #[.int .i64 a] w fun e w' => e=.returned (.string ⟨(Lib.itoa a).toArray⟩)∧Below w.heap.size w w':=by
 refine (Tryz.strconv_Itoa a ha.1 ha.2 w ht).mono ?_
 rintro e w1 ⟨rfl,k,os,rfl⟩
 exact ⟨rfl,Lib.below_grow _ _ (Nat.le_refl _) _ _⟩
end Go.Proofs.YtdgpmpccfjmmcaaGreatDoor
namespace Go.Proofs.YtdgpmpccfjmmcaaGreatDoor
open Go.RowKit
def ErrX (w:World):Prop:=(∃ te pe,w.cell? ⟨8,0,none⟩=some (.iface te pe))∧∃ te pe,w.cell? ⟨9,0,none⟩=some (.iface te pe)
theorem ErrX.below {w w':World} (h:ErrX w) (hb:Below w.heap.size w w'):ErrX w':=by
 obtain ⟨⟨t1,p1,h1⟩,t2,p2,h2⟩:=h
 exact ⟨⟨t1,p1,(hb.cell (Lib.lt_of_cell h1)).trans h1⟩,t2,p2,(hb.cell (Lib.lt_of_cell h2)).trans h2⟩
def ParseP (s:ByteArray) (w:World) (e:Ending) (w':World):Prop:=
 (∃ n er,e=.returned (.tuple #[.int .i64 n,.int .i64 er])∧I64 n∧Hid ((er=0∧parseN s=some n)∨(er=12∧n=0∧parseN s=none)))∧Below w.heap.size w w'
theorem bytes_itoa {s:ByteArray} {v:Int} (h:Lib.itoa v=s.toList):s.data.toList=Lib.itoa v:=by rw [h,ByteArray.toList_eq]
set_option maxRecDepth 100000 in
set_option maxHeartbeats 4000000 in
theorem pparse_any (s:ByteArray) (w:World) (hs:s.size≤281474976710656) (ht:TabX w) (he:ErrX w):Calls Tryz.prog 230 #[.string s] w fun e w' => ParseP s w e w':=by
 have no:Lib.atoiAll s.data.toList=.syntax∨Lib.atoiAll s.data.toList=.range→parseN s=none:=fun h => parse_not fun n h0 h1 e => by
  rw [← e,atoi_itoa h0 h1] at h
  rcases h with h | h <;> cases h
 have NO:=Lib.hid no
 have TX:=Lib.hid ht
 have EX:=Lib.hid he
 obtain ⟨⟨t1,p1,h1⟩,t2,p2,h2⟩:=he
 have bad:∀ w',Below w.heap.size w w'→parseN s=none→ParseP s w (.returned (.tuple #[.int .i64 0,.int .i64 12])) w':=fun w' hb hp => ⟨⟨0,12,rfl,by unfold I64;omega,Lib.hid (.inr ⟨rfl,rfl,hp⟩)⟩,hb⟩
 have BAD:=Lib.hid bad
 clear no bad ht
 rcases ha:Lib.atoiAll s.data.toList with v | _ | _
 rotate_left
 ·
  have CA:=Lib.hid (Tryz.strconv_Atoi_syntax s hs ha _ w h1 (.inr ⟨_,_,rfl⟩))
  have HP:=Lib.hid (NO.out (.inl ha))
  clear ha h1 h2
  go_enter Tryz.func230,Tryz.ntmps230
  go_wp2_with fail
  refine CA.out.mono ?_
  rintro e w1 ⟨N,rfl,_,_,hb⟩
  have B1:=Lib.hid hb
  clear hb CA
  go_wp2_with fail
  go_ret2
  exact BAD.out _ B1.out HP.out
 ·
  have CA:=Lib.hid (Tryz.strconv_Atoi_range s hs ha _ w h2 (.inr ⟨_,_,rfl⟩))
  have HP:=Lib.hid (NO.out (.inr ha))
  clear ha h1 h2
  go_enter Tryz.func230,Tryz.ntmps230
  go_wp2_with fail
  refine CA.out.mono ?_
  rintro e w1 ⟨N,rfl,_,_,hb⟩
  have B1:=Lib.hid hb
  clear hb CA
  go_wp2_with fail
  go_ret2
  exact BAD.out _ B1.out HP.out
 ·
  have hv:=Lib.atoiAll_bounds ha
  have HV:=Lib.hid (show I64 v from ⟨hv.1,hv.2⟩)
  have CA:=Lib.hid (Tryz.strconv_Atoi_ok s (by omega) v ha w)
  have HA:=Lib.hid ha
  clear ha h1 h2
  go_enter Tryz.func230,Tryz.ntmps230
  go_wp2_with fail
  refine CA.out.mono ?_
  rintro e w1 ⟨rfl,hw⟩
  have B1:=Lib.hid (show Below w.heap.size w w1 by
   rcases hw with rfl | ⟨t,rfl⟩
   ·exact Below.refl _ _
   ·exact Lib.bytesWorld_below _ _ _)
  have CI:=Lib.hid (itoa_any v w1 HV.out (TX.out.below B1.out))
  clear hw CA
  go_wp2_with fail
  refine CI.out.mono ?_
  rintro e w2 ⟨rfl,hb⟩
  have B2:=Lib.hid (B1.out.trans (hb.mono B1.out.size))
  clear hb CI
  cases hq:(Lib.itoa v == s.toList) with
  | true =>
   have HP:=Lib.hid (parse_itoa (bytes_itoa (beq_iff_eq.1 hq)) HV.out.1 HV.out.2)
   go_wp2_with fail
   go_ret2
   exact ⟨⟨v,0,rfl,HV.out,Lib.hid (.inl ⟨rfl,HP.out⟩)⟩,B2.out⟩
  | false =>
   have HP:=Lib.hid (show parseN s=none from parse_not fun n h0 h1 e => by
    have h:=HA.out
    rw [← e,atoi_itoa h0 h1] at h
    injection h with h
    subst h
    rw [e,ByteArray.toList_eq,beq_self_eq_true] at hq
    cases hq)
   go_wp2_with fail
   go_ret2
   exact BAD.out _ B2.out HP.out
end Go.Proofs.YtdgpmpccfjmmcaaGreatDoor
namespace Go.Proofs.YtdgpmpccfjmmcaaGreatDoor
open Go.RowKit
def Ev (c:Rdc) (w:World):Prop:=c.B+c.N≤w.heap.size∧∃ W0,TabX W0∧ErrX W0∧TableX W0∧W0.heap.size≤c.B∧Below W0.heap.size W0 w
theorem Ev.fr {c:Rdc} {w w':World} (h:Ev c w) (f:Frp c w w'):Ev c w':=by
 obtain ⟨hn,W0,h1,h2,h3,h4,h5⟩:=h
 exact ⟨Nat.le_trans hn f.size,W0,h1,h2,h3,h4,h5.trans (f.low.mono h4)⟩
theorem Ev.tab {c:Rdc} {w:World} (h:Ev c w):TabX w:=by
 obtain ⟨hn,W0,h1,h2,h3,h4,h5⟩:=h
 exact h1.below h5
theorem Ev.err {c:Rdc} {w:World} (h:Ev c w):ErrX w:=by
 obtain ⟨hn,W0,h1,h2,h3,h4,h5⟩:=h
 exact h2.below h5
theorem Ev.ops {c:Rdc} {w:World} (h:Ev c w):TableX w:=by
 obtain ⟨hn,W0,h1,h2,h3,h4,h5⟩:=h
 exact h3.below h5
def trimF:List UInt8→List UInt8
 | [] => []
 | c ::l => if c=48 then trimF l else c ::l
theorem trim_zeros:∀ {l:List UInt8},l≠[]→zerosL l=if trimF l=[] then [48] else trimF l
 | [],h => absurd rfl h
 | [c],_ => by
  unfold zerosL trimF
  by_cases hc:c=48
  ·rw [if_pos hc,hc];rfl
  ·rw [if_neg hc,if_neg (by simp)]
 | c ::d ::l,_ => by
  unfold zerosL trimF
  by_cases hc:c=48
  ·rw [if_pos hc,if_pos hc,trim_zeros (l:=d ::l) (by simp)]
  ·rw [if_neg hc,if_neg hc,if_neg (by simp)]
theorem trim_first:∀ (l:List UInt8),trimF l≠[48]
 | [] => by simp [trimF]
 | c ::l => by
  unfold trimF
  split
  ·exact trim_first l
  ·rename_i h
   intro e
   injection e with e _
   exact h e
theorem ext_from1 (s:ByteArray):(s.extract 1 s.size).data.toList=s.data.toList.drop 1:=by
 simp only [ByteArray.data_extract,Array.toList_extract,List.extract]
 rw [List.take_of_length_le]
 rw [List.length_drop,Array.length_toList]
 exact Nat.le_refl _
set_option maxRecDepth 100000 in
set_option maxHeartbeats 4000000 in
theorem trimbyte_any (s:ByteArray) (w:World):Calls Tryz.prog 297 #[.string s,.int .u8 48] w fun e w' => (∃ t,e=.returned (.string t)∧Hid (t.data.toList=trimF s.data.toList)∧t.size≤s.size)∧w'=w:=by
 go_enter Tryz.func297,Tryz.ntmps297
 go_wp2_with fail
 go_loopw [0] (fun sv wr => (∃ t:ByteArray,sv=.string t∧t.size≤s.size∧Hid (trimF t.data.toList=trimF s.data.toList))∧w=wr) (fun sv _ => match sv with | .string t => t.size | _ => 0)
 case atStart => exact ⟨⟨s,rfl,Nat.le_refl _,Lib.hid rfl⟩,rfl⟩
 case round =>
  obtain ⟨⟨t,rfl,ht,hz⟩,rfl⟩:=hrel
  have hb:∀ (i:Nat) (h:i < t.size),(t[i]'h).toNat=bn t i:=bn_eq t
  by_cases h0:0 < t.size
  ·have h0':(0:Int) < (t.size:Int):=by omega
   have hd:=data_bu h0
   cases h48:((bn t 0:Int) == 48) with
   | true =>
    have hc:bu t 0=48:=by
     apply UInt8.toNat_inj.1
     show bn t 0=48
     have:(bn t 0:Int)=48:=by simpa using h48
     omega
    have HZ:=Lib.hid (show trimF (t.extract 1 t.size).data.toList=trimF s.data.toList by
     rw [ext_from1,← hz.out]
     conv => rhs;rw [hd,trimF,if_pos hc])
    clear hd hc
    go_wp2_with fail
    go_roundw
    case rel => exact ⟨⟨_,rfl,by rw [ByteArray.size_extract];omega,HZ⟩,by trivial⟩
    case measure => simp;omega
   | false =>
    have hc:bu t 0≠48:=by
     intro e
     have:bn t 0=48:=by rw [bn_bu,e];rfl
     rw [this] at h48
     exact absurd h48 (by decide)
    have HZ:=Lib.hid (show t.data.toList=trimF s.data.toList by
     rw [← hz.out]
     conv => rhs;rw [hd,trimF,if_neg hc]
     exact hd)
    clear hd hc
    go_wp2_with fail
    go_ret
    exact ⟨⟨_,rfl,HZ,ht⟩,rfl⟩
  ·have h0':¬ (0:Int) < (t.size:Int):=by omega
   have HZ:=Lib.hid (show t.data.toList=trimF s.data.toList by
    have:t.data.toList=[]:=by
     apply List.length_eq_zero_iff.1
     have:t.data.toList.length=t.size:=Array.length_toList
     omega
    rw [← hz.out,this];rfl)
   have h00:t.size=0:=by omega
   go_wp2_with fail
   go_ret
   exact ⟨⟨_,rfl,HZ,ht⟩,rfl⟩
set_option maxRecDepth 100000 in
set_option maxHeartbeats 4000000 in
theorem trim_any (s:ByteArray) (w:World):Calls Tryz.prog 229 #[.string s,.string ⟨#[48]⟩] w fun e w' => (∃ t,e=.returned (.string t)∧Hid (t.data.toList=trimF s.data.toList)∧t.size≤s.size)∧w'=w:=by
 have e48:(⟨#[48]⟩:ByteArray).size=1:=rfl
 cases he:(s.toList == []) with
 | true =>
  have HZ:=Lib.hid (show s.data.toList=trimF s.data.toList by
   have:s.data.toList=[]:=by rw [← ByteArray.toList_eq];simpa using he
   rw [this];rfl)
  go_enter Tryz.func229,Tryz.ntmps229
  go_wp2_with fail
  go_ret
  exact ⟨⟨_,rfl,HZ,Nat.le_refl _⟩,rfl⟩
 | false =>
  have CT:=Lib.hid (trimbyte_any s w)
  go_enter Tryz.func229,Tryz.ntmps229
  go_wp2_with fail
  refine CT.out.mono ?_
  rintro e w1 ⟨⟨t,rfl,h1,h2⟩,rfl⟩
  go_wp2_with fail
  go_ret
  exact ⟨⟨_,rfl,h1,h2⟩,rfl⟩
end Go.Proofs.YtdgpmpccfjmmcaaGreatDoor
namespace Go.Proofs.YtdgpmpccfjmmcaaGreatDoor
open Go.RowKit
theorem belP {w w1:World} (h:Below w.heap.size w w1) (o:Obj):Below w.heap.size w (w1.alloc o):=h.alloc h.size o
theorem int_what {x:Tk} {bl:Bool} {s s':ByteArray} {n er2:Int} {i:Nat} {ns:List ByteArray} (hne:x.t.data.toList≠[]) (hz:s.data.toList=trimF x.t.data.toList)
 (hs:s'=if s.data.toList=[] then ⟨#[48]⟩ else if bl=true then ⟨#[45]⟩++s else s) (hp:(er2=0∧parseN s'=some n)∨(er2=12∧n=0∧parseN s'=none)) :
 intP x bl i ns=if er2=0 then .ok (inT n,i,ns) else .error ((x.a:Int),51):=by
 refine int_sp (s:=ba (zerosL x.t.data.toList)) (s':=s') (by simp [ba]) ?_ hp
 rw [hs,hz,show (ba (zerosL x.t.data.toList)).data.toList=zerosL x.t.data.toList by simp [ba],trim_zeros hne]
 by_cases h0:trimF x.t.data.toList=[]
 ·rw [if_pos h0,if_pos h0,if_neg (by simp)]
  rfl
 ·rw [if_neg h0,if_neg h0]
  have h48:=trim_first x.t.data.toList
  have e:ba (trimF x.t.data.toList)=s:=by
   rw [← hz]
   exact ba_eq s
  cases bl with
  | true => rw [if_pos rfl,if_pos ⟨rfl,h48⟩,e]
  | false => rw [if_neg (by simp),if_neg (by simp),e]
set_option maxRecDepth 100000 in
set_option maxHeartbeats 4000000 in
theorem pinteger_any {c:Rdc} {i:Nat} {ns:List ByteArray} (x:Tk) (bl:Bool) (w:World) (h:Pd w c i ns) (hev:Ev c w) (hi:0 < i) (ht:x.t.size≤4096) (hne:x.t.data.toList≠[]) :
 Calls Tryz.prog 158 #[.pointer (some ⟨c.R,0,none⟩),.agg #[.int .i64 x.k,.string x.t,.int .i64 (x.a:Int),.int .i64 (x.b:Int)],.string (if bl=true then ⟨#[45]⟩ else ⟨#[]⟩)] w fun e w' =>
  PQ c w i (intP x bl i ns) (fun t _ v _ => ∃ n,t=inT n∧I64 n∧v=.agg #[.int .i64 2,.int .i64 n,.string ⟨#[]⟩,.slice none 0 0]) e w':=by
 have H:=Lib.hid h
 have HE:=Lib.hid hev
 have HNE:=Lib.hid hne
 have HI:=Lib.hid (fun s s' n er2 => int_what (x:=x) (bl:=bl) (s:=s) (s':=s') (n:=n) (er2:=er2) (i:=i) (ns:=ns) hne)
 clear h hev hne
 obtain ⟨k,tx,a,b⟩:=x
 have B2:=Lib.hid (belP (belP (Below.refl w.heap.size w) (Obj.cells #[.int .i64 k,.string tx,.int .i64 (a:Int),.int .i64 (b:Int)] 116)) (Obj.cells #[.int .i64 0,.int .i64 0,.string ⟨#[]⟩,.slice none 0 0] 51))
 have t0:=Lib.hid ((Below.heap_alloc (w.alloc (Obj.cells #[.int .i64 k,.string tx,.int .i64 (a:Int),.int .i64 (b:Int)] 116)) (Obj.cells #[.int .i64 0,.int .i64 0,.string ⟨#[]⟩,.slice none 0 0] 51) w.heap.size (by simp)).trans (heap_alloc_new w _))
 have F2:=Lib.hid (Frp.of_below B2.out H.out.base)
 have CT:=Lib.hid (trim_any tx)
 have CP:=Lib.hid (fun (s:ByteArray) (W:World) (hs:s.size≤281474976710656) (hf:Frp c w W) => pparse_any s W hs (HE.out.fr hf).tab (HE.out.fr hf).err)
 have x0:=Lib.hid (show ((w.alloc (Obj.cells #[.int .i64 k,.string tx,.int .i64 (a:Int),.int .i64 (b:Int)] 116)).alloc (Obj.cells #[.int .i64 0,.int .i64 0,.string ⟨#[]⟩,.slice none 0 0] 51)).heap[w.heap.size+1]? =some (Obj.cells #[.int .i64 0,.int .i64 0,.string ⟨#[]⟩,.slice none 0 0] 51) from heap_at _ _ (by simp))
 have HTA:=Lib.hid (show ∀ g,c.TA=some ⟨g,0,none⟩→w.heap.size+1≠g from fun g hg => by
  have:=H.out.tok_lt (by have:=H.out.up;omega) hg;omega)
 obtain ⟨sg,hsg⟩:∃ sg,(if bl=true then ⟨#[45]⟩ else ⟨#[]⟩:ByteArray)=sg:=⟨_,rfl⟩
 rw [hsg]
 cases bl with
 | true =>
  obtain rfl:sg=⟨#[45]⟩:=by rw [← hsg];rfl
  clear hsg
  go_enter Tryz.func158,Tryz.ntmps158
  go_wp2_with fail
  refine (CT.out _).mono ?_
  rintro e w1 ⟨⟨s,rfl,HZ,hsz⟩,rfl⟩
  cases h0:(s.toList == []) with
  | true =>
   have HS0:=Lib.hid (show s.data.toList=[] by rw [← ByteArray.toList_eq];simpa using h0)
   have hsz2:((⟨#[]⟩++⟨#[48]⟩):ByteArray).size≤281474976710656:=by
    rw [ByteArray.size_append]
    have z1:(⟨#[]⟩:ByteArray).size=0:=rfl
    have z2:(⟨#[48]⟩:ByteArray).size=1:=rfl
    have z3:(⟨#[45]⟩:ByteArray).size=1:=rfl
    omega
   have CPX:=Lib.hid (CP.out (⟨#[]⟩++⟨#[48]⟩) _ hsz2 F2.out)
   clear hsz2
   go_wp2_with fail
   with_reducible refine CPX.out.mono ?_
   clear CPX
   rintro e w1 ⟨⟨n,er2,rfl,hn,hp⟩,hb1⟩
   have HW:=Lib.hid (HI.out s (⟨#[]⟩++⟨#[48]⟩) n er2 HZ.out (by rw [if_pos HS0.out];rfl) hp.out)
   have F3:=Lib.hid (F2.out.trans (Frp.of_below hb1 (Nat.le_trans H.out.base B2.out.size)))
   have P3:=Lib.hid (((H.out.alloc _).alloc _).below hb1)
   have T3:=Lib.hid ((hb1.block _ (heap_lt t0.out)).trans t0.out)
   have X3:=Lib.hid ((hb1.block _ (heap_lt x0.out)).trans x0.out)
   have HN:=Lib.hid hn
   clear hn hp hb1
   obtain ⟨c0,c1,c2,c3⟩:=box4t T3.out
   obtain ⟨d0,d1,d2,d3⟩:=box4t X3.out
   have hlt0:=heap_lt T3.out
   have hlt1:=heap_lt X3.out
   have df:∀ j,w1.frozen? ⟨w.heap.size+1,j,none⟩=false:=fun j => by simp [World.frozen?,X3.out]
   by_cases he2:er2=0
   ·have HP0:=Lib.hid (HW.out.trans (if_pos he2))
    subst he2
    clear HW
    have PB:=box4t (box_put4 X3.out (.int .i64 2) (.int .i64 n) (.string ⟨#[]⟩) (.slice none 0 0) rfl).1
    have G3:=Lib.hid (F3.out.newput4 (b:=w.heap.size+1) (by omega) (by have:=H.out.base;omega) (.int .i64 2) (.int .i64 n) (.string ⟨#[]⟩) (.slice none 0 0))
    have Q3:=Lib.hid (P3.out.put4 X3.out (.int .i64 2) (.int .i64 n) (.string ⟨#[]⟩) (.slice none 0 0) (by decide) (by have:=H.out.lt;omega) HTA.out)
    go_wp2_with fail
    refine bodyPost_ret (v:=.agg #[.int .i64 2,.int .i64 n,.string ⟨#[]⟩,.slice none 0 0]) (by simp [results,go_sem,PB]) rfl ?_
    rw [HP0.out]
    exact ⟨G3.out,_,rfl,Q3.out,Nat.le_refl _,n,rfl,HN.out,rfl⟩
   ·have he2':(er2 != 0)=true:=by simpa using he2
    have HP0:=Lib.hid (HW.out.trans (if_neg he2))
    clear HW he2
    go_wp2_with fail
    refine ⟨rfl,?_⟩
    rw [HP0.out]
    exact ⟨F3.out,rfl⟩
  | false =>
   have HS0:=Lib.hid (show ¬ s.data.toList=[] by
    rw [← ByteArray.toList_eq]
    intro e
    rw [e] at h0
    exact absurd h0 (by decide))
   have hsz2:((⟨#[45]⟩++s):ByteArray).size≤281474976710656:=by
    rw [ByteArray.size_append]
    have z1:(⟨#[]⟩:ByteArray).size=0:=rfl
    have z2:(⟨#[48]⟩:ByteArray).size=1:=rfl
    have z3:(⟨#[45]⟩:ByteArray).size=1:=rfl
    omega
   have CPX:=Lib.hid (CP.out (⟨#[45]⟩++s) _ hsz2 F2.out)
   clear hsz2
   go_wp2_with fail
   with_reducible refine CPX.out.mono ?_
   clear CPX
   rintro e w1 ⟨⟨n,er2,rfl,hn,hp⟩,hb1⟩
   have HW:=Lib.hid (HI.out s (⟨#[45]⟩++s) n er2 HZ.out (by rw [if_neg HS0.out];simp) hp.out)
   have F3:=Lib.hid (F2.out.trans (Frp.of_below hb1 (Nat.le_trans H.out.base B2.out.size)))
   have P3:=Lib.hid (((H.out.alloc _).alloc _).below hb1)
   have T3:=Lib.hid ((hb1.block _ (heap_lt t0.out)).trans t0.out)
   have X3:=Lib.hid ((hb1.block _ (heap_lt x0.out)).trans x0.out)
   have HN:=Lib.hid hn
   clear hn hp hb1
   obtain ⟨c0,c1,c2,c3⟩:=box4t T3.out
   obtain ⟨d0,d1,d2,d3⟩:=box4t X3.out
   have hlt0:=heap_lt T3.out
   have hlt1:=heap_lt X3.out
   have df:∀ j,w1.frozen? ⟨w.heap.size+1,j,none⟩=false:=fun j => by simp [World.frozen?,X3.out]
   by_cases he2:er2=0
   ·have HP0:=Lib.hid (HW.out.trans (if_pos he2))
    subst he2
    clear HW
    have PB:=box4t (box_put4 X3.out (.int .i64 2) (.int .i64 n) (.string ⟨#[]⟩) (.slice none 0 0) rfl).1
    have G3:=Lib.hid (F3.out.newput4 (b:=w.heap.size+1) (by omega) (by have:=H.out.base;omega) (.int .i64 2) (.int .i64 n) (.string ⟨#[]⟩) (.slice none 0 0))
    have Q3:=Lib.hid (P3.out.put4 X3.out (.int .i64 2) (.int .i64 n) (.string ⟨#[]⟩) (.slice none 0 0) (by decide) (by have:=H.out.lt;omega) HTA.out)
    go_wp2_with fail
    refine bodyPost_ret (v:=.agg #[.int .i64 2,.int .i64 n,.string ⟨#[]⟩,.slice none 0 0]) (by simp [results,go_sem,PB]) rfl ?_
    rw [HP0.out]
    exact ⟨G3.out,_,rfl,Q3.out,Nat.le_refl _,n,rfl,HN.out,rfl⟩
   ·have he2':(er2 != 0)=true:=by simpa using he2
    have HP0:=Lib.hid (HW.out.trans (if_neg he2))
    clear HW he2
    go_wp2_with fail
    refine ⟨rfl,?_⟩
    rw [HP0.out]
    exact ⟨F3.out,rfl⟩
 | false =>
  obtain rfl:sg=⟨#[]⟩:=by rw [← hsg];rfl
  clear hsg
  go_enter Tryz.func158,Tryz.ntmps158
  go_wp2_with fail
  refine (CT.out _).mono ?_
  rintro e w1 ⟨⟨s,rfl,HZ,hsz⟩,rfl⟩
  cases h0:(s.toList == []) with
  | true =>
   have HS0:=Lib.hid (show s.data.toList=[] by rw [← ByteArray.toList_eq];simpa using h0)
   have hsz2:((⟨#[]⟩++⟨#[48]⟩):ByteArray).size≤281474976710656:=by
    rw [ByteArray.size_append]
    have z1:(⟨#[]⟩:ByteArray).size=0:=rfl
    have z2:(⟨#[48]⟩:ByteArray).size=1:=rfl
    have z3:(⟨#[45]⟩:ByteArray).size=1:=rfl
    omega
   have CPX:=Lib.hid (CP.out (⟨#[]⟩++⟨#[48]⟩) _ hsz2 F2.out)
   clear hsz2
   go_wp2_with fail
   with_reducible refine CPX.out.mono ?_
   clear CPX
   rintro e w1 ⟨⟨n,er2,rfl,hn,hp⟩,hb1⟩
   have HW:=Lib.hid (HI.out s (⟨#[]⟩++⟨#[48]⟩) n er2 HZ.out (by rw [if_pos HS0.out];rfl) hp.out)
   have F3:=Lib.hid (F2.out.trans (Frp.of_below hb1 (Nat.le_trans H.out.base B2.out.size)))
   have P3:=Lib.hid (((H.out.alloc _).alloc _).below hb1)
   have T3:=Lib.hid ((hb1.block _ (heap_lt t0.out)).trans t0.out)
   have X3:=Lib.hid ((hb1.block _ (heap_lt x0.out)).trans x0.out)
   have HN:=Lib.hid hn
   clear hn hp hb1
   obtain ⟨c0,c1,c2,c3⟩:=box4t T3.out
   obtain ⟨d0,d1,d2,d3⟩:=box4t X3.out
   have hlt0:=heap_lt T3.out
   have hlt1:=heap_lt X3.out
   have df:∀ j,w1.frozen? ⟨w.heap.size+1,j,none⟩=false:=fun j => by simp [World.frozen?,X3.out]
   by_cases he2:er2=0
   ·have HP0:=Lib.hid (HW.out.trans (if_pos he2))
    subst he2
    clear HW
    have PB:=box4t (box_put4 X3.out (.int .i64 2) (.int .i64 n) (.string ⟨#[]⟩) (.slice none 0 0) rfl).1
    have G3:=Lib.hid (F3.out.newput4 (b:=w.heap.size+1) (by omega) (by have:=H.out.base;omega) (.int .i64 2) (.int .i64 n) (.string ⟨#[]⟩) (.slice none 0 0))
    have Q3:=Lib.hid (P3.out.put4 X3.out (.int .i64 2) (.int .i64 n) (.string ⟨#[]⟩) (.slice none 0 0) (by decide) (by have:=H.out.lt;omega) HTA.out)
    go_wp2_with fail
    refine bodyPost_ret (v:=.agg #[.int .i64 2,.int .i64 n,.string ⟨#[]⟩,.slice none 0 0]) (by simp [results,go_sem,PB]) rfl ?_
    rw [HP0.out]
    exact ⟨G3.out,_,rfl,Q3.out,Nat.le_refl _,n,rfl,HN.out,rfl⟩
   ·have he2':(er2 != 0)=true:=by simpa using he2
    have HP0:=Lib.hid (HW.out.trans (if_neg he2))
    clear HW he2
    go_wp2_with fail
    refine ⟨rfl,?_⟩
    rw [HP0.out]
    exact ⟨F3.out,rfl⟩
  | false =>
   have HS0:=Lib.hid (show ¬ s.data.toList=[] by
    rw [← ByteArray.toList_eq]
    intro e
    rw [e] at h0
    exact absurd h0 (by decide))
   have hsz2:((⟨#[]⟩++s):ByteArray).size≤281474976710656:=by
    rw [ByteArray.size_append]
    have z1:(⟨#[]⟩:ByteArray).size=0:=rfl
    have z2:(⟨#[48]⟩:ByteArray).size=1:=rfl
    have z3:(⟨#[45]⟩:ByteArray).size=1:=rfl
    omega
   have CPX:=Lib.hid (CP.out (⟨#[]⟩++s) _ hsz2 F2.out)
   clear hsz2
   go_wp2_with fail
   with_reducible refine CPX.out.mono ?_
   clear CPX
   rintro e w1 ⟨⟨n,er2,rfl,hn,hp⟩,hb1⟩
   have HW:=Lib.hid (HI.out s (⟨#[]⟩++s) n er2 HZ.out (by rw [if_neg HS0.out,if_neg (by simp)];apply ByteArray.ext;simp) hp.out)
   have F3:=Lib.hid (F2.out.trans (Frp.of_below hb1 (Nat.le_trans H.out.base B2.out.size)))
   have P3:=Lib.hid (((H.out.alloc _).alloc _).below hb1)
   have T3:=Lib.hid ((hb1.block _ (heap_lt t0.out)).trans t0.out)
   have X3:=Lib.hid ((hb1.block _ (heap_lt x0.out)).trans x0.out)
   have HN:=Lib.hid hn
   clear hn hp hb1
   obtain ⟨c0,c1,c2,c3⟩:=box4t T3.out
   obtain ⟨d0,d1,d2,d3⟩:=box4t X3.out
   have hlt0:=heap_lt T3.out
   have hlt1:=heap_lt X3.out
   have df:∀ j,w1.frozen? ⟨w.heap.size+1,j,none⟩=false:=fun j => by simp [World.frozen?,X3.out]
   by_cases he2:er2=0
   ·have HP0:=Lib.hid (HW.out.trans (if_pos he2))
    subst he2
    clear HW
    have PB:=box4t (box_put4 X3.out (.int .i64 2) (.int .i64 n) (.string ⟨#[]⟩) (.slice none 0 0) rfl).1
    have G3:=Lib.hid (F3.out.newput4 (b:=w.heap.size+1) (by omega) (by have:=H.out.base;omega) (.int .i64 2) (.int .i64 n) (.string ⟨#[]⟩) (.slice none 0 0))
    have Q3:=Lib.hid (P3.out.put4 X3.out (.int .i64 2) (.int .i64 n) (.string ⟨#[]⟩) (.slice none 0 0) (by decide) (by have:=H.out.lt;omega) HTA.out)
    go_wp2_with fail
    refine bodyPost_ret (v:=.agg #[.int .i64 2,.int .i64 n,.string ⟨#[]⟩,.slice none 0 0]) (by simp [results,go_sem,PB]) rfl ?_
    rw [HP0.out]
    exact ⟨G3.out,_,rfl,Q3.out,Nat.le_refl _,n,rfl,HN.out,rfl⟩
   ·have he2':(er2 != 0)=true:=by simpa using he2
    have HP0:=Lib.hid (HW.out.trans (if_neg he2))
    clear HW he2
    go_wp2_with fail
    refine ⟨rfl,?_⟩
    rw [HP0.out]
    exact ⟨F3.out,rfl⟩
end Go.Proofs.YtdgpmpccfjmmcaaGreatDoor
namespace Go.Proofs.YtdgpmpccfjmmcaaGreatDoor
open Go.RowKit
def firstI (nm:ByteArray):List ByteArray→Nat→Option Nat
 | [],_ => none
 | x ::l,i => if x=nm then some i else firstI nm l (i+1)
theorem var_first {nm:ByteArray} (h:nm≠⟨#[95]⟩):∀ (ns:List ByteArray) (i:Nat),varI nm ns i=firstI nm ns i
 | [],_ => rfl
 | x ::l,i => by
  unfold varI firstI
  by_cases hx:x=nm
  ·rw [if_pos ⟨hx,h⟩,if_pos hx]
  ·rw [if_neg (fun e => hx e.1),if_neg hx,var_first h l (i+1)]
theorem var_us (ns:List ByteArray):∀ i,varI ⟨#[95]⟩ ns i=none:=by
 induction ns with
 | nil => exact fun _ => rfl
 | cons x l ih =>
  intro i
  unfold varI
  rw [if_neg (fun e => e.2 rfl),ih]
theorem first_on {nm y:ByteArray} {ns:List ByteArray} {j:Nat} (h:j < ns.length) (hy:ns[j]'h=y) (h1:y≠nm) (hI:firstI nm ns 0=firstI nm (ns.drop j) j):firstI nm ns 0=firstI nm (ns.drop (j+1)) (j+1):=by
 rw [hI,List.drop_eq_getElem_cons h,hy,firstI,if_neg h1]
theorem first_hit {nm y:ByteArray} {ns:List ByteArray} {j:Nat} (h:j < ns.length) (hy:ns[j]'h=y) (h1:y=nm) (hI:firstI nm ns 0=firstI nm (ns.drop j) j):firstI nm ns 0=some j:=by
 rw [hI,List.drop_eq_getElem_cons h,hy,firstI,if_pos h1]
theorem first_end {nm:ByteArray} {ns:List ByteArray} (hI:firstI nm ns 0=firstI nm (ns.drop ns.length) ns.length):firstI nm ns 0=none:=by
 rw [hI,List.drop_length,firstI]
set_option maxRecDepth 100000 in
set_option maxHeartbeats 2000000 in
theorem indexS_any {B:Nat} {names:List ByteArray} {A:Option Addr} {cc:Nat} {w:World} (ho:w.ownsRow B 9 1 (.slice A names.length cc) names.length (names.map Value.string)) (hl:names.length≤1000) (nm:ByteArray) :
 Calls Tryz.prog 231 #[.slice A names.length cc,.string nm] w fun e w' => (∃ r:Int,e=.returned (.int .i64 r)∧Hid ((∃ j:Nat,r=j∧j < names.length∧firstI nm names 0=some j)∨(r= -1∧firstI nm names 0=none)))∧w'=w:=by
 obtain ⟨A',cc',e,hcc,hA,hcm,hx⟩:=own_open ho
 injection e with e1 _ e3
 subst e1 e3
 have HX:=Lib.hid hx
 clear hx ho
 go_enter Tryz.func231,Tryz.ntmps231
 go_wp2_with fail
 go_loopw [4,5,8] (fun _ _ iv wr => ∃ j:Nat,iv=.int .i64 (j:Int)∧j≤names.length∧Hid (firstI nm names 0=firstI nm (names.drop j) j)∧w=wr) (fun _ _ iv _ => names.length - (intOf iv).toNat)
 case atStart => exact ⟨0,rfl,Nat.zero_le _,Lib.hid rfl,rfl⟩
 case round =>
  obtain ⟨j,rfl,hj,hI,rfl⟩:=hrel
  by_cases hjn:j < names.length
  ·have hjn':(j:Int) < (names.length:Int):=by omega
   obtain ⟨g,cur,rfl,_,hg,hcur⟩:=HX.out (by omega)
   have hgl:=heap_lt hg
   have hcell:w.cell? ⟨g,j,none⟩=some (.string (names[j]'(by omega))):=by
    rw [cell_of_row w g j _ _ _ hg,hcur j (by omega)]
    simp [List.getElem?_eq_getElem (show j < names.length by omega)]
   obtain ⟨y,hy⟩:∃ y,names[j]'(by omega)=y:=⟨_,rfl⟩
   rw [hy] at hcell
   have HY:=Lib.hid hy
   have HN:=Lib.hid hjn
   clear hy
   cases q1:(nm.toList == y.toList) with
   | true =>
    have HV:=Lib.hid (first_hit hjn HY.out (by apply ByteArray.ext;apply Array.toList_inj.1;have h:nm.toList=y.toList:=by simpa using q1
                                               rw [ByteArray.toList_eq,ByteArray.toList_eq] at h;exact h.symm) hI.out)
    go_wp2_with fail
    go_ret
    exact ⟨⟨_,rfl,Lib.hid (.inl ⟨j,rfl,HN.out,HV.out⟩)⟩,rfl⟩
   | false =>
    have HV:=Lib.hid (first_on hjn HY.out (by rintro rfl;simp at q1) hI.out)
    go_wp2_with fail
    go_roundw
    case rel => exact ⟨j+1,by go_num,by omega,HV,trivial⟩
    case measure => simp [intOf];omega
  ·obtain rfl:j=names.length:=by omega
   have HV:=Lib.hid (first_end hI.out)
   go_wp2_with fail
   go_ret
   exact ⟨⟨_,rfl,Lib.hid (.inr ⟨rfl,HV.out⟩)⟩,rfl⟩
theorem Frp.grown {c:Rdc} {w w':World} {v:Value} {n:Nat} {xs:List Value} (h:w.ownsRow (c.B+c.N) 9 1 v n xs) (hg:w.grownBy w' v.ownBlock) (hB:c.B≤w.heap.size):Frp c w w':=
 ⟨(Below.refl _ _).grown hg hB fun k hk => Nat.le_trans (Nat.le_add_right _ _) (h.lt k hk).1,fun b _ t _ hb _ ht => (hg.block b (heap_lt hb) (by
   by_cases hs:t=9
   ·intro e
    have:=(h.lt b e.symm).1
    have:=ht hs
    omega
   ·exact own_ne h hb hs)).trans hb⟩
theorem Pd.named {w w1:World} {c:Rdc} {j:Nat} {lv nv v1:Value} {nn:Nat} {names names':List ByteArray} (ht:TokW w c) (hf:∀ x ∈ c.tk,x.fine) (hr:PdW w c j lv nv nn names) (hn:nn+1≤j)
 (hg:w.grownBy w1 nv.ownBlock) (hown:w1.ownsRow (c.B+c.N) 9 1 v1 (nn+1) (names'.map Value.string)):Pd (w1.setCell ⟨c.R,2,none⟩ v1) c j names'∧w1.heap[c.R]? =w.heap[c.R]?:=by
 have hblk:=(hg.block c.R (heap_lt hr.blk) (own_ne hr.own hr.blk (by decide))).trans hr.blk
 have ht1:TokW w1 c:=ht.keep fun b cs hb => hg.block b (heap_lt hb) (own_ne hr.own hb (by decide))
 refine ⟨⟨ht1.keep fun b cs hb => Below.heap_setCell _ _ _ _ (by
  rintro rfl
  rw [hblk] at hb
  injection hb with hb
  injection hb with _ hb
  exact absurd hb (by decide)),hf,lv,v1,nn+1,by simpa using blk_set hblk 2 v1,hr.lok,own_keep hown fun g hg' => Below.heap_setCell _ _ _ _ (by
  rintro rfl
  exact own_ne hown hblk (by decide) hg'.symm),hr.up,hn⟩,hblk.trans hr.blk.symm⟩
theorem PdW.below {w w':World} {c:Rdc} {j:Nat} {lv nv:Value} {nn:Nat} {names:List ByteArray} (h:PdW w c j lv nv nn names) (hb:Below w.heap.size w w'):PdW w' c j lv nv nn names:=
 ⟨(hb.block _ (heap_lt h.blk)).trans h.blk,h.lok,own_below h.own hb,h.up,h.few⟩
set_option maxRecDepth 100000 in
set_option maxHeartbeats 4000000 in
theorem pvariable_any {c:Rdc} {i:Nat} {names:List ByteArray} (nm:ByteArray) (w:World) (h:Pd w c (i+1) names) (hni:names.length≤i) (hN:c.B+c.N≤w.heap.size) :
 Calls Tryz.prog 159 #[.pointer (some ⟨c.R,0,none⟩),.string nm] w fun e w' => e=.returned (.agg #[.int .i64 1,.int .i64 ((varN nm names).1:Int),.string ⟨#[]⟩,.slice none 0 0])∧Pd w' c (i+1) (varN nm names).2∧Frp c w w':=by
 have H:=Lib.hid h
 have hlt:=h.lt
 have hB:=h.base
 have hBR:=h.1.BR
 obtain ⟨ht,hfi,lv,nv,nn,hr⟩:=h
 have htn:=hr.up
 have hfew:=ht.few
 obtain ⟨r0,r1,r2⟩:=hr.cells
 have rf:=hr.thaw
 have hl:names.length=nn:=by have:=own_len hr.own;simpa using this
 subst hl
 obtain ⟨A,cc,rfl,hcc,hA,hcm,_⟩:=own_open hr.own
 have HR:=Lib.hid hr
 have HT:=Lib.hid ht
 have HFI:=Lib.hid hfi
 have B1:=Lib.hid (belP (Below.refl w.heap.size w) (Obj.cells #[.int .i64 0,.int .i64 0,.string ⟨#[]⟩,.slice none 0 0] 51))
 have F1:=Lib.hid (Frp.of_below B1.out hB)
 have x0:=Lib.hid (heap_alloc_new w (Obj.cells #[.int .i64 0,.int .i64 0,.string ⟨#[]⟩,.slice none 0 0] 51))
 have CI:=Lib.hid (indexS_any (own_below hr.own B1.out) (by omega) nm)
 have HTA:=Lib.hid (show ∀ g,c.TA=some ⟨g,0,none⟩→w.heap.size≠g from fun g hg => by
  have:=H.out.tok_lt (by omega) hg;omega)
 clear hr ht hfi
 go_enter Tryz.func159,Tryz.ntmps159
 go_wp2_with fail
 refine CI.out.mono ?_
 rintro e w1 ⟨⟨r,rfl,hrr⟩,rfl⟩
 cases q2:(nm.toList == [95]) with
 | true =>
  have hnm:nm=⟨#[95]⟩:=by
   apply ByteArray.ext;apply Array.toList_inj.1
   have h:nm.toList=[95]:=by simpa using q2
   rw [ByteArray.toList_eq] at h
   exact h
  have HV:=Lib.hid (show varN nm names=(names.length,names++[nm]) by
   unfold varN
   rw [hnm,var_us])
  clear hnm
  rcases hrr.out with ⟨j,rfl,hj,hfj⟩ | ⟨rfl,hfn⟩
  ·have hj0:¬ ((j:Int) < 0):=by omega
   clear hfj hrr CI
   have hnn:names.length+1≤i+1:=by omega
   have B2:=Lib.hid (belP B1.out (Obj.cells #[.string nm] 9))
   have HR2:=Lib.hid (HR.out.below B2.out)
   have HT2:=Lib.hid (HT.out.below B2.out)
   have hbox:=Lib.hid ((Below.heap_alloc (w.alloc (Obj.cells #[.int .i64 0,.int .i64 0,.string ⟨#[]⟩,.slice none 0 0] 51)) (Obj.cells #[.string nm] 9) w.heap.size (by simp)).trans x0.out)
   go_wp2_with (at_builtin;go_must (refine wpList_append_cells _ rfl _ _ _ rfl elStr (c.B+c.N) _ _ _ rfl HR2.out.own (some ⟨w.heap.size+1,0,none⟩) 1 1 [.string nm] rfl (fun h => by cases h) (Nat.le_refl _) rfl (fun _ => ⟨_,0,rfl,?_⟩) ?_ (by omega) (by unfold maxLen;omega) (by simp;omega) ?_))
   ·intro k u hu
    match k,hu with
    | 0,hu => simp at hu;subst hu;exact (cell_of_row _ _ 0 _ _ _ ((congrArg _ (by simp)).trans (heap_alloc_new _ _)))
   ·intro u hu
    simp at hu
    subst hu
    rfl
   intro v1 w1 hown1 hg1
   obtain ⟨P1,P2⟩:=Pd.named (names':=names++[nm]) HT2.out HFI.out HR2.out hnn hg1 (by simpa using hown1)
   obtain ⟨A1,c1,rfl,_,_,_,_⟩:=own_open hown1
   have rblk:=P2.trans HR2.out.blk
   have rfz:∀ j,w1.frozen? ⟨c.R,j,none⟩=false:=fun j => by simp [World.frozen?,rblk]
   have r2':w1.cell? ⟨c.R,2,none⟩=some (.slice A names.length cc):=cell_of_row w1 _ 2 _ _ _ rblk
   have hbx:=(hg1.block w.heap.size (by simp;omega) (own_ne HR2.out.own hbox.out (by decide))).trans hbox.out
   have hne:c.R≠w.heap.size:=by omega
   have hbx2:=Lib.hid ((Below.heap_setCell w1 ⟨c.R,2,none⟩ (.slice A1 (names.length+1) c1) w.heap.size (fun e => hne e.symm)).trans hbx)
   have F2:=Lib.hid (((Frp.of_below B2.out hB).trans (Frp.grown HR2.out.own hg1 (by simp;omega))).trans (Frp.setR hBR 2 (.slice A1 (names.length+1) c1)))
   have P:=Lib.hid P1
   have bf:∀ j,w1.frozen? ⟨w.heap.size,j,none⟩=false:=fun j => by simp [World.frozen?,hbx]
   obtain ⟨y0,y1,y2,y3⟩:=box4t hbx
   clear P1 P2 hown1 hg1 rblk hbx r0 r1 r2 rf
   go_wp2_with fail
   obtain ⟨p0,p1,p2,p3⟩:=box4t (box_put4 hbx2.out (.int .i64 1) (.int .i64 (names.length:Int)) (.string ⟨#[]⟩) (.slice none 0 0) rfl).1
   refine bodyPost_ret (v:=.agg #[.int .i64 1,.int .i64 (names.length:Int),.string ⟨#[]⟩,.slice none 0 0]) (by simp [results,go_sem,p0,p1,p2,p3]) rfl ?_
   rw [HV.out]
   exact ⟨rfl,P.out.put4 hbx2.out _ _ _ _ (by decide) (fun e => hne e.symm) HTA.out,F2.out.newput4 (Nat.le_refl _) hB _ _ _ _⟩
  ·clear hfn hrr CI
   have hnn:names.length+1≤i+1:=by omega
   have B2:=Lib.hid (belP B1.out (Obj.cells #[.string nm] 9))
   have HR2:=Lib.hid (HR.out.below B2.out)
   have HT2:=Lib.hid (HT.out.below B2.out)
   have hbox:=Lib.hid ((Below.heap_alloc (w.alloc (Obj.cells #[.int .i64 0,.int .i64 0,.string ⟨#[]⟩,.slice none 0 0] 51)) (Obj.cells #[.string nm] 9) w.heap.size (by simp)).trans x0.out)
   go_wp2_with (at_builtin;go_must (refine wpList_append_cells _ rfl _ _ _ rfl elStr (c.B+c.N) _ _ _ rfl HR2.out.own (some ⟨w.heap.size+1,0,none⟩) 1 1 [.string nm] rfl (fun h => by cases h) (Nat.le_refl _) rfl (fun _ => ⟨_,0,rfl,?_⟩) ?_ (by omega) (by unfold maxLen;omega) (by simp;omega) ?_))
   ·intro k u hu
    match k,hu with
    | 0,hu => simp at hu;subst hu;exact (cell_of_row _ _ 0 _ _ _ ((congrArg _ (by simp)).trans (heap_alloc_new _ _)))
   ·intro u hu
    simp at hu
    subst hu
    rfl
   intro v1 w1 hown1 hg1
   obtain ⟨P1,P2⟩:=Pd.named (names':=names++[nm]) HT2.out HFI.out HR2.out hnn hg1 (by simpa using hown1)
   obtain ⟨A1,c1,rfl,_,_,_,_⟩:=own_open hown1
   have rblk:=P2.trans HR2.out.blk
   have rfz:∀ j,w1.frozen? ⟨c.R,j,none⟩=false:=fun j => by simp [World.frozen?,rblk]
   have r2':w1.cell? ⟨c.R,2,none⟩=some (.slice A names.length cc):=cell_of_row w1 _ 2 _ _ _ rblk
   have hbx:=(hg1.block w.heap.size (by simp;omega) (own_ne HR2.out.own hbox.out (by decide))).trans hbox.out
   have hne:c.R≠w.heap.size:=by omega
   have hbx2:=Lib.hid ((Below.heap_setCell w1 ⟨c.R,2,none⟩ (.slice A1 (names.length+1) c1) w.heap.size (fun e => hne e.symm)).trans hbx)
   have F2:=Lib.hid (((Frp.of_below B2.out hB).trans (Frp.grown HR2.out.own hg1 (by simp;omega))).trans (Frp.setR hBR 2 (.slice A1 (names.length+1) c1)))
   have P:=Lib.hid P1
   have bf:∀ j,w1.frozen? ⟨w.heap.size,j,none⟩=false:=fun j => by simp [World.frozen?,hbx]
   obtain ⟨y0,y1,y2,y3⟩:=box4t hbx
   clear P1 P2 hown1 hg1 rblk hbx r0 r1 r2 rf
   go_wp2_with fail
   obtain ⟨p0,p1,p2,p3⟩:=box4t (box_put4 hbx2.out (.int .i64 1) (.int .i64 (names.length:Int)) (.string ⟨#[]⟩) (.slice none 0 0) rfl).1
   refine bodyPost_ret (v:=.agg #[.int .i64 1,.int .i64 (names.length:Int),.string ⟨#[]⟩,.slice none 0 0]) (by simp [results,go_sem,p0,p1,p2,p3]) rfl ?_
   rw [HV.out]
   exact ⟨rfl,P.out.put4 hbx2.out _ _ _ _ (by decide) (fun e => hne e.symm) HTA.out,F2.out.newput4 (Nat.le_refl _) hB _ _ _ _⟩
 | false =>
  have hnm:nm≠⟨#[95]⟩:=by
   rintro rfl
   rw [ByteArray.toList_eq] at q2
   exact absurd q2 (by decide)
  rcases hrr.out with ⟨j,rfl,hj,hfj⟩ | ⟨rfl,hfn⟩
  ·have HV:=Lib.hid (show varN nm names=(j,names) by
    unfold varN
    rw [var_first hnm,hfj])
   have hj0:¬ ((j:Int) < 0):=by omega
   clear hfj hrr CI hnm
   go_wp2_with fail
   refine bodyPost_ret (v:=.agg #[.int .i64 1,.int .i64 (j:Int),.string ⟨#[]⟩,.slice none 0 0]) (by simp [results,go_sem]) rfl ?_
   rw [HV.out]
   exact ⟨rfl,H.out.alloc _,Frp.of_below ((Below.refl _ _).alloc (Nat.le_refl _) _) hB⟩
  ·have HV:=Lib.hid (show varN nm names=(names.length,names++[nm]) by
    unfold varN
    rw [var_first hnm,hfn])
   clear hfn hrr CI hnm
   have hnn:names.length+1≤i+1:=by omega
   have B2:=Lib.hid (belP B1.out (Obj.cells #[.string nm] 9))
   have HR2:=Lib.hid (HR.out.below B2.out)
   have HT2:=Lib.hid (HT.out.below B2.out)
   have hbox:=Lib.hid ((Below.heap_alloc (w.alloc (Obj.cells #[.int .i64 0,.int .i64 0,.string ⟨#[]⟩,.slice none 0 0] 51)) (Obj.cells #[.string nm] 9) w.heap.size (by simp)).trans x0.out)
   go_wp2_with (at_builtin;go_must (refine wpList_append_cells _ rfl _ _ _ rfl elStr (c.B+c.N) _ _ _ rfl HR2.out.own (some ⟨w.heap.size+1,0,none⟩) 1 1 [.string nm] rfl (fun h => by cases h) (Nat.le_refl _) rfl (fun _ => ⟨_,0,rfl,?_⟩) ?_ (by omega) (by unfold maxLen;omega) (by simp;omega) ?_))
   ·intro k u hu
    match k,hu with
    | 0,hu => simp at hu;subst hu;exact (cell_of_row _ _ 0 _ _ _ ((congrArg _ (by simp)).trans (heap_alloc_new _ _)))
   ·intro u hu
    simp at hu
    subst hu
    rfl
   intro v1 w1 hown1 hg1
   obtain ⟨P1,P2⟩:=Pd.named (names':=names++[nm]) HT2.out HFI.out HR2.out hnn hg1 (by simpa using hown1)
   obtain ⟨A1,c1,rfl,_,_,_,_⟩:=own_open hown1
   have rblk:=P2.trans HR2.out.blk
   have rfz:∀ j,w1.frozen? ⟨c.R,j,none⟩=false:=fun j => by simp [World.frozen?,rblk]
   have r2':w1.cell? ⟨c.R,2,none⟩=some (.slice A names.length cc):=cell_of_row w1 _ 2 _ _ _ rblk
   have hbx:=(hg1.block w.heap.size (by simp;omega) (own_ne HR2.out.own hbox.out (by decide))).trans hbox.out
   have hne:c.R≠w.heap.size:=by omega
   have hbx2:=Lib.hid ((Below.heap_setCell w1 ⟨c.R,2,none⟩ (.slice A1 (names.length+1) c1) w.heap.size (fun e => hne e.symm)).trans hbx)
   have F2:=Lib.hid (((Frp.of_below B2.out hB).trans (Frp.grown HR2.out.own hg1 (by simp;omega))).trans (Frp.setR hBR 2 (.slice A1 (names.length+1) c1)))
   have P:=Lib.hid P1
   have bf:∀ j,w1.frozen? ⟨w.heap.size,j,none⟩=false:=fun j => by simp [World.frozen?,hbx]
   obtain ⟨y0,y1,y2,y3⟩:=box4t hbx
   clear P1 P2 hown1 hg1 rblk hbx r0 r1 r2 rf
   go_wp2_with fail
   obtain ⟨p0,p1,p2,p3⟩:=box4t (box_put4 hbx2.out (.int .i64 1) (.int .i64 (names.length:Int)) (.string ⟨#[]⟩) (.slice none 0 0) rfl).1
   refine bodyPost_ret (v:=.agg #[.int .i64 1,.int .i64 (names.length:Int),.string ⟨#[]⟩,.slice none 0 0]) (by simp [results,go_sem,p0,p1,p2,p3]) rfl ?_
   rw [HV.out]
   exact ⟨rfl,P.out.put4 hbx2.out _ _ _ _ (by decide) (fun e => hne e.symm) HTA.out,F2.out.newput4 (Nat.le_refl _) hB _ _ _ _⟩
end Go.Proofs.YtdgpmpccfjmmcaaGreatDoor
