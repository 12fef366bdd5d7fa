/- The machine's terms,plainly:trees of lists;bindings;what a term stands for;making two the same. No program in sight. Reserved names,plainly:a name between blanks in a list is one of the list's words. What both Consult make of a text,plainly. Plain facts on texts that are joined:a text with a blank behind it;two texts that are the same from two places on. Plain facts on quoting:which names stand without quotes;what a quoted name is read as. Terms that can be written,plain. Terms' texts,plain:what is written;what tokens it has;no program in sight. Terms' texts,plain:the tokens of a term's text are read as the term,its variables numbered;or it stands too deep. Terms' texts,plain:a term's text,ahead of something that ends it,has the term's tokens. The reference's parser:Read. The reference's parser:One. A written text,read back:plain. Texts that are read,plainly:from their tokens;the texts of ReadNumbers. The reader,plainly:its errors are none that is OK. -/
import Derived.WalkKit
import Derived.Test.YtdgpmpccfjmmcaaGreatDoorKJAb
import Derived.Test.YtdgpmpccfjmmcaaGreatDoorKJAc
import Derived.Test.YtdgpmpccfjmmcaaGreatDoorKJAa
import Derived.Test.YtdgpmpccfjmmcaaGreatDoorKJAd
import Derived.Deep.RegionHeld3
import Derived.Deep.RegionLaw
set_option linter.unusedVariables false
set_option linter.unusedSimpArgs false
namespace Go.Proofs.YtdgpmpccfjmmcaaGreatDoor
inductive P where
 | v (n:Nat)
 | i (n:Int)
 | a (s:List UInt8)
 | c (s:List UInt8) (l:List P)
abbrev Bp:=List (Nat × P)
def findP:Bp→Nat→Option P
 | [],_ => none
 | (k,x) ::L,n => if k=n then some x else findP L n
def walkQ (L:Bp):Nat→P→P
 | 0,p => p
 | j+1,.v n => match findP L n with
  | none => .v n
  | some x => walkQ L j x
 | _+1,p => p
def walkP (L:Bp) (p:P):P:=walkQ L L.length p
def occP (L:Bp) (n:Nat):Nat→P→Option Bool
 | 0,_ => none
 | f+1,.v m => if m=n then some true else match findP L m with
  | none => some false
  | some x => occP L n f x
 | f+1,.c _ l => l.foldr (fun x r => match occP L n f x with
  | none => none
  | some true => some true
  | some false => r) (some false)
 | _+1,_ => some false
inductive RP where
 | ok (L:Bp) (f:Nat)
 | many
 | unlike
def uniP (fo:Nat):Nat→Bp→List (P × P)→Option RP
 | 0,L,[] => some (.ok L 0)
 | 0,_,_ ::_ => some .many
 | f+1,L,[] => some (.ok L (f+1))
 | f+1,L,p ::r => match walkP L p.1,walkP L p.2 with
  | .v n,.v m => if n=m then uniP fo f L r else if n < m then uniP fo f (L++[(m,.v n)]) r else uniP fo f (L++[(n,.v m)]) r
  | .v n,y => match occP L n fo y with
   | none => none
   | some true => some .unlike
   | some false => uniP fo f (L++[(n,y)]) r
  | x,.v m => match occP L m fo x with
   | none => none
   | some true => some .unlike
   | some false => uniP fo f (L++[(m,x)]) r
  | .i n,.i m => if n=m then uniP fo f L r else some .unlike
  | .a s,.a t => if s=t then uniP fo f L r else some .unlike
  | .c s l,.c t m => if s=t∧l.length=m.length then uniP fo f L (l.zip m++r) else some .unlike
  | _,_ => some .unlike
def resP (L:Bp):Nat→P→Option P
 | 0,_ => none
 | f+1,p => match walkP L p with
  | .c s l => (l.foldr (fun x r => match resP L f x,r with
   | some y,some ys => some (y ::ys)
   | _,_ => none) (some [])).map (.c s)
  | q => some q
def szP (L:Bp) (most:Nat):Nat→Nat→P→Option Nat
 | 0,_,_ => none
 | f+1,n,p => if most < n+1 then some (n+1) else match walkP L p with
  | .c _ l => l.foldl (fun r x => match r with
   | none => none
   | some n => if n≤most then szP L most f n x else some n) (some (n+1))
  | _ => some (n+1)
mutual
def mapP (f:Nat→Nat):P→P
 | .v n => .v (f n)
 | .c s l => .c s (mapPs f l)
 | .i n => .i n
 | .a s => .a s
def mapPs (f:Nat→Nat):List P→List P
 | [] => []
 | p ::l => mapP f p ::mapPs f l
end
def shiftP (k:Nat) (p:P):P:=mapP (·+k) p
mutual
def P.size:P→Nat
 | .c _ l => 1+sizesP l
 | _ => 1
def sizesP:List P→Nat
 | [] => 0
 | p ::l => p.size+sizesP l
end
mutual
def kn (n:Nat):P→Bool
 | .v k => k < n
 | .c _ l => kns n l
 | _ => true
def kns (n:Nat):List P→Bool
 | [] => true
 | p ::l => kn n p && kns n l
end
def okP (n:Nat) (p:P):Bool:=kn n p && decide (p.size≤1000)
end Go.Proofs.YtdgpmpccfjmmcaaGreatDoor
namespace Go.Proofs.YtdgpmpccfjmmcaaGreatDoor
def joinW:List (List UInt8)→List UInt8
 | [] => []
 | w ::ws => w++32 ::joinW ws
theorem first_blank:∀ {w n x y:List UInt8},32 ∉ w→32 ∉ n→w++32 ::x=n++32 ::y→w=n∧x=y
 | [],[],_,_,_,_,h => by injection h with _ h;exact ⟨rfl,h⟩
 | [],c ::n,_,_,_,hn,h => by
  injection h with h _
  exact absurd (h ▸ List.mem_cons_self) hn
 | c ::w,[],_,_,hw,_,h => by
  injection h with h _
  exact absurd (h ▸ List.mem_cons_self) hw
 | c ::w,d ::n,x,y,hw,hn,h => by
  injection h with h1 h2
  obtain ⟨h3,h4⟩:=first_blank (fun h => hw (List.mem_cons_of_mem _ h)) (fun h => hn (List.mem_cons_of_mem _ h)) h2
  exact ⟨by rw [h1,h3],h4⟩
theorem past_blank:∀ {w a x y:List UInt8},32 ∉ w→w++32 ::x=a++32 ::y→∃ a',(a=w++a'∧32 ::x=a'++32 ::y)
 | [],a,_,_,_,h => ⟨a,rfl,h⟩
 | c ::w,[],_,_,hw,h => by
  injection h with h _
  exact absurd (h ▸ List.mem_cons_self) hw
 | c ::w,d ::a,x,y,hw,h => by
  injection h with h1 h2
  obtain ⟨a',h3,h4⟩:=past_blank (fun h => hw (List.mem_cons_of_mem _ h)) h2
  exact ⟨a',by rw [h1,h3];rfl,h4⟩
theorem infix_words {n:List UInt8} (hn:32 ∉ n):∀ {ws:List (List UInt8)},(∀ w ∈ ws,32 ∉ w)→((∃ a b,32 ::joinW ws=a++32 ::(n++32 ::b))↔n ∈ ws)
 | [],_ => by
  constructor
  ·rintro ⟨a,b,h⟩
   have:=congrArg List.length h
   simp [joinW] at this
   omega
  ·exact fun h => absurd h (by simp)
 | w ::ws,hw => by
  have h0:=hw w List.mem_cons_self
  have ih:=infix_words hn (ws:=ws) fun x hx => hw x (List.mem_cons_of_mem _ hx)
  constructor
  ·rintro ⟨a,b,h⟩
   cases a with
   | nil =>
    injection h with _ h
    exact (first_blank h0 hn h).1 ▸ List.mem_cons_self
   | cons c a =>
    injection h with _ h
    obtain ⟨a',_,h2⟩:=past_blank h0 h
    exact List.mem_cons_of_mem _ (ih.1 ⟨a',b,h2⟩)
  ·intro h
   rcases List.mem_cons.1 h with rfl | h
   ·exact ⟨[],joinW ws,rfl⟩
   ·obtain ⟨a,b,h⟩:=ih.2 h
    exact ⟨32 ::(w++a),b,by show 32 ::(w++32 ::joinW ws)=_;rw [h];simp⟩
end Go.Proofs.YtdgpmpccfjmmcaaGreatDoor
namespace Go.Proofs.YtdgpmpccfjmmcaaGreatDoor
def anyN:Nat→(Nat→Bool)→Bool
 | 0,_ => false
 | n+1,f => anyN n f || f n
theorem anyN_iff {f:Nat→Bool}:∀ {n:Nat},anyN n f=true↔∃ i,i < n∧f i=true
 | 0 => by simp [anyN]
 | n+1 => by
  rw [anyN,Bool.or_eq_true,anyN_iff]
  constructor
  ·rintro (⟨i,h,e⟩ | h)
   ·exact ⟨i,by omega,e⟩
   ·exact ⟨n,by omega,h⟩
  ·rintro ⟨i,h,e⟩
   rcases Nat.lt_or_ge i n with h1 | h1
   ·exact .inl ⟨i,h1,e⟩
   ·obtain rfl:i=n:=by omega
    exact .inr e
def nameT:T→Option (List UInt8 × Nat)
 | .nil => none
 | .mk k _ s m _ => if k=3 then some (s.data.toList,0) else if k=4 then some (s.data.toList,m) else none
def isN (t:T) (nm:List UInt8) (q:Nat):Bool:=nameT t == some (nm,q)
def ctlT (t:T):Bool:=isN t [44] 2 || isN t [59] 2 || isN t [45,62] 2 || isN t [92,43] 1 || isN t [33] 0
def wrongT:T→Bool
 | .nil => false
 | .mk k n s m a => k == 2 || (ctlT (.mk k n s m a) && anyN m fun i => wrongT (a i))
def resW:Nat→List (List UInt8)
 | 0 => [[33],[116,114,117,101],[102,97,105,108]]
 | 1 => [[92,43],[58,45],[99,97,108,108],[116,104,114,111,119],[118,97,114],[110,111,110,118,97,114],[97,116,111,109],[105,110,116,101,103,101,114],[99,111,109,112,111,117,110,100],[99,97,108,108,97,98,108,101],[103,114,111,117,110,100],[97,108,108,95,100,105,102,102,101,114,101,110,116],[108,97,98,101,108]]
 | 2 => [[44],[59],[45,62],[58,45],[99,97,108,108],[109,105,110,105,109,105,122,101],[109,97,120,105,109,105,122,101],[61],[92,61],[61,61],[92,61,61],[64,60],[64,62],[64,61,60],[64,62,61],[99,111,112,121,95,116,101,114,109],[61,46,46],[115,111,114,116],[105,115],[61,58,61],[61,92,61],[60],[62],[61,60],[62,61],[102,114,101,101,122,101],[100,105,102],[119,104,101,110],[105,110],[102,100,95,100,111,109],[35,61],[35,92,61],[35,60],[35,62],[35,61,60],[35,62,61],[35,60,61,62],[108,97,98,101,108,105,110,103]]
 | 3 => [[99,97,108,108],[99,97,116,99,104],[102,105,110,100,97,108,108],[102,117,110,99,116,111,114],[97,114,103]]
 | 4 => [[99,97,108,108]]
 | _ => []
def resL:Nat→List UInt8
 | 0 => [32,33,32,116,114,117,101,32,102,97,105,108,32]
 | 1 => [32,92,43,32,58,45,32,99,97,108,108,32,116,104,114,111,119,32,118,97,114,32,110,111,110,118,97,114,32,97,116,111,109,32,105,110,116,101,103,101,114,32,99,111,109,112,111,117,110,100,32,99,97,108,108,97,98,108,101,32,103,114,111,117,110,100,32,97,108,108,95,100,105,102,102,101,114,101,110,116,32,108,97,98,101,108,32]
 | 2 => [32,44,32,59,32,45,62,32,58,45,32,99,97,108,108,32,109,105,110,105,109,105,122,101,32,109,97,120,105,109,105,122,101,32,61,32,92,61,32,61,61,32,92,61,61,32,64,60,32,64,62,32,64,61,60,32,64,62,61,32,99,111,112,121,95,116,101,114,109,32,61,46,46,32,115,111,114,116,32,105,115,32,61,58,61,32,61,92,61,32,60,32,62,32,61,60,32,62,61,32,102,114,101,101,122,101,32,100,105,102,32,119,104,101,110,32,105,110,32,102,100,95,100,111,109,32,35,61,32,35,92,61,32,35,60,32,35,62,32,35,61,60,32,35,62,61,32,35,60,61,62,32,108,97,98,101,108,105,110,103,32]
 | 3 => [32,99,97,108,108,32,99,97,116,99,104,32,102,105,110,100,97,108,108,32,102,117,110,99,116,111,114,32,97,114,103,32]
 | 4 => [32,99,97,108,108,32]
 | _ => []
theorem resL_words:∀ n,n < 5→resL n=32 ::joinW (resW n):=by decide+kernel
theorem resW_plain:∀ n,n < 5→∀ w ∈ resW n,32 ∉ w∧w≠[]:=by decide+kernel
theorem resW_none {n:Nat} (h:5≤n):resW n=[]:=by
 match n,h with
 | n+5,_ => rfl
def resT (nm:List UInt8) (n:Nat):Bool:=(resW n).contains nm
theorem res_prog {nm:List UInt8} {n:Nat} (hn:n < 5):resT nm n=true↔nm≠[]∧32 ∉ nm∧∃ a b,resL n=a++32 ::(nm++32 ::b):=by
 unfold resT
 rw [List.contains_iff_mem]
 constructor
 ·intro h
  obtain ⟨h1,h2⟩:=resW_plain n hn nm h
  refine ⟨h2,h1,?_⟩
  rw [resL_words n hn]
  exact (infix_words h1 fun w hw => (resW_plain n hn w hw).1).2 h
 ·rintro ⟨_,h1,h2⟩
  rw [resL_words n hn] at h2
  exact (infix_words h1 fun w hw => (resW_plain n hn w hw).1).1 h2
end Go.Proofs.YtdgpmpccfjmmcaaGreatDoor
namespace Go.Proofs.YtdgpmpccfjmmcaaGreatDoor
def HP (o o':Nat) (q:Bool) (r r':Option (Int × Nat)):Prop:=(r=none∧r'=none)∨∃ K j j',r=some (K,j)∧r'=some (K,j')∧(q=false→∃ d,j=o+d∧j'=o'+d)
theorem HP.ite {o o':Nat} {q:Bool} {c:Prop} [Decidable c] {a b a' b':Option (Int × Nat)} (h1:c→HP o o' q a a') (h2:¬c→HP o o' q b b'):HP o o' q (if c then a else b) (if c then a' else b'):=by
 by_cases h:c
 ·rw [if_pos h,if_pos h];exact h1 h
 ·rw [if_neg h,if_neg h];exact h2 h
theorem HP.mk {o o':Nat} {q:Bool} (K:Int) (d:Nat):HP o o' q (some (K,o+d)) (some (K,o'+d)):=.inr ⟨K,_,_,rfl,rfl,fun _ => ⟨d,rfl,rfl⟩⟩
end Go.Proofs.YtdgpmpccfjmmcaaGreatDoor
namespace Go.Proofs.YtdgpmpccfjmmcaaGreatDoor
def esc1 (c:UInt8):Option (List UInt8):=
 if c=10 then some [92,110] else if c=9 then some [92,116] else if c=92∨c=39 then some [92,c]
 else if c.toNat < 32∨126 < c.toNat then none else some [c]
def escN:List UInt8→Option (List UInt8)
 | [] => some []
 | c ::l => match esc1 c,escN l with
  | some x,some y => some (x++y)
  | _,_ => none
def plainN (s:ByteArray):Bool:=decide (0 < s.size) &&
 (if smallB (bn s 0) then decide (runN 1 s 0=s.size)
  else if signB (bn s 0) then !(decide (s.size=1) && (bn s 0:Int) == 46) && !(twoB s 0 47 42) && decide (runN 3 s 0=s.size)
  else ((bn s 0:Int) == 33 || (bn s 0:Int) == 59) && decide (s.size=1))
def quotedN (l:List UInt8):ByteArray:=⟨(39 ::(l++[39])).toArray⟩
def quoteN (s:ByteArray):ByteArray:=if plainN s then s else match escN s.data.toList with
 | some l => quotedN l
 | none => ⟨#[]⟩
theorem bet_none {s:ByteArray} {j:Nat} (h:j < s.size) (h1:blankB (bn s j)=false) (h2:((bn s j:Int) == 37)=false) (h3:twoB s j 47 42=false):betN s j=(j,true):=by
 rw [betN_eq h,h1,h2,h3]
 simp
theorem bytes_same {a b:ByteArray} (h:a.data.toList=b.data.toList):a=b:=by
 apply ByteArray.ext
 exact Array.toList_inj.1 h
end Go.Proofs.YtdgpmpccfjmmcaaGreatDoor
namespace Go.Proofs.YtdgpmpccfjmmcaaGreatDoor
open Go.RowKit
end Go.Proofs.YtdgpmpccfjmmcaaGreatDoor
namespace Go.Proofs.YtdgpmpccfjmmcaaGreatDoor
open Go.RowKit
def T.wr:T→Prop
 | .nil => False
 | .mk k n s m a => (k=1∧0≤n)∨(k=2∧-9223372036854775808≤n∧n≤9223372036854775807)∨(k=3∧(quoteN s).size≠0)∨(k=4∧(quoteN s).size≠0∧0 < m∧∀ i,i < m→(a i).wr)
section
variable (V:Int→List UInt8)
end
def Mk (x:Tk) (c:UInt8):Prop:=x.k=5∧x.t=ba [c]
section
variable (V:Int→List UInt8)
end
end Go.Proofs.YtdgpmpccfjmmcaaGreatDoor
namespace Go.Proofs.YtdgpmpccfjmmcaaGreatDoor
open Go.RowKit
section
variable (V:Int→List UInt8)
end
section
variable {tk:List Tk} {sz:Nat}
theorem nx_at {i:Nat} {x:Tk} {r:List Tk} (h:tk.drop i=x ::r):nxT tk sz i=x:=by
 have hi:i < tk.length:=by
  rcases Nat.lt_or_ge i tk.length with h1 | h1
  ·exact h1
  ·rw [List.drop_eq_nil_of_le h1] at h;cases h
 unfold nxT
 rw [dif_pos hi]
 rw [List.drop_eq_getElem_cons hi] at h
 injection h
theorem ba_toList (l:List UInt8):(ba l).toList=l:=by rw [ByteArray.toList_eq];simp [ba]
theorem zeros_same {c:UInt8} {l:List UInt8} (h:c.toNat≠48):zerosL (c ::l)=c ::l:=by
 cases l with
 | nil => rfl
 | cons d l =>
  rw [zerosL,if_neg (fun e => h (by rw [e];rfl))]
theorem zeros_dec (u:Nat):zerosL (Lib.decDigits u)=Lib.decDigits u:=by
 by_cases h:u < 10
 ·rw [dec_small h];rfl
 ·obtain ⟨c,l,e,h1,_⟩:=dec_head u (by omega)
  rw [e]
  exact zeros_same (by omega)
theorem int_pos {n:Int} (h0:0≤n) (h1:n≤9223372036854775807):intN (ba (Lib.itoa n)) false=some n:=by
 have e:Lib.itoa n=Lib.decDigits n.toNat:=by rw [Lib.itoa,if_neg (by omega)]
 unfold intN
 rw [show (ba (Lib.itoa n)).data.toList=Lib.itoa n from by simp [ba],e,zeros_dec,if_neg (by simp),← e]
 exact parse_itoa (by simp [ba]) (by omega) h1
theorem int_neg {n:Int} (h0:n < 0) (h1: -9223372036854775808≤n):intN (ba (Lib.decDigits n.natAbs)) true=some n:=by
 have e:Lib.itoa n=45 ::Lib.decDigits n.natAbs:=by rw [Lib.itoa,if_pos h0]
 have hne:Lib.decDigits n.natAbs≠[48]:=fun h => by
  obtain ⟨c,l,e2,h2,_⟩:=dec_head n.natAbs (by omega)
  rw [e2] at h
  injection h with h
  rw [h] at h2
  exact absurd h2 (by decide)
 unfold intN
 rw [show (ba (Lib.decDigits n.natAbs)).data.toList=Lib.decDigits n.natAbs from by simp [ba],zeros_dec,if_pos ⟨rfl,hne⟩,← e]
 exact parse_itoa (by simp [ba]) h1 (by omega)
end
end Go.Proofs.YtdgpmpccfjmmcaaGreatDoor
namespace Go.Proofs.YtdgpmpccfjmmcaaGreatDoor
open Go.RowKit
def stopK (K:Int) (R:List UInt8):Prop:=R=[]∨∃ c r,R=c ::r∧kindB K c.toNat=false
def stopC (c:UInt8):Bool:=!(kindB 1 c.toNat) && !(kindB 2 c.toNat) && !(kindB 3 c.toNat) && !(c == 39)
def stopR (R:List UInt8):Prop:=R=[]∨∃ c r,R=c ::r∧stopC c=true
theorem stopR.k {R:List UInt8} (h:stopR R) {K:Int} (hK:K=1∨K=2∨K=3):stopK K R:=by
 rcases h with h | ⟨c,r,h,hc⟩
 ·exact .inl h
 ·refine .inr ⟨c,r,h,?_⟩
  simp only [stopC,Bool.and_eq_true,Bool.not_eq_true'] at hc
  rcases hK with rfl | rfl | rfl
  ·exact hc.1.1.1
  ·exact hc.1.1.2
  ·exact hc.1.2
theorem stopR_of {c:UInt8} (r:List UInt8) (h:stopC c=true):stopR (c ::r):=.inr ⟨c,r,rfl,h⟩
theorem bu_drop {u:ByteArray} {p:Nat} {L:List UInt8} (h:u.data.toList.drop p=L) (i:Nat):bu u (p+i)=L.getD i 0:=by
 unfold bu
 rw [← h]
 simp [List.getD_eq_getElem?_getD,List.getElem?_drop]
theorem bu_here {u:ByteArray} {p:Nat} {c:UInt8} {L:List UInt8} (h:u.data.toList.drop p=c ::L):bu u p=c:=bu_drop h 0
theorem bn_here {u:ByteArray} {p:Nat} {c:UInt8} {L:List UInt8} (h:u.data.toList.drop p=c ::L):(bn u p:Int)=(c.toNat:Int):=by rw [bn_bu,bu_here h]
theorem len_u (u:ByteArray):u.data.toList.length=u.size:=Array.length_toList
theorem drop_lt {u:ByteArray} {p:Nat} {L:List UInt8} (h:u.data.toList.drop p=L) (hL:L≠[]):p < u.size:=by
 have:=len_u u
 rcases Nat.lt_or_ge p u.size with h1 | h1
 ·exact h1
 ·rw [List.drop_eq_nil_of_le (by omega)] at h
  exact absurd h.symm hL
theorem drop_more {u:ByteArray} {p:Nat} {A B:List UInt8} (h:u.data.toList.drop p=A++B):u.data.toList.drop (p+A.length)=B:=by
 rw [← List.drop_drop,h,List.drop_left]
theorem run_word {K:Int} {u:ByteArray}:∀ (W:List UInt8) (p:Nat) (R:List UInt8),u.data.toList.drop p=W++R→(∀ c ∈ W,kindB K c.toNat=true)→stopK K R→runN K u p=p+W.length
 | [],p,R,h,_,hR => by
  rcases hR with rfl | ⟨c,r,rfl,hc⟩
  ·have:=len_u u
   have h2:(u.data.toList.drop p).length=0:=by rw [h];rfl
   rw [List.length_drop] at h2
   rw [runN_end (by omega)]
   rfl
  ·rw [runN_stop (by rw [bn_here h];exact hc)]
   rfl
 | c ::W,p,R,h,hW,hR => by
  have hp:=drop_lt h (by simp)
  have hk:kindB K (bn u p)=true:=by rw [bn_here h];exact hW c List.mem_cons_self
  rw [runN_step hp hk,run_word W (p+1) R (by have:=drop_more (A:=[c]) (B:=W++R) h;exact this) (fun d hd => hW d (List.mem_cons_of_mem _ hd)) hR]
  simp only [List.length_cons]
  omega
theorem extract_word {u:ByteArray} {p:Nat} {W R:List UInt8} (h:u.data.toList.drop p=W++R):u.extract p (p+W.length)=ba W:=by
 apply bytes_same
 simp only [ByteArray.data_extract,Array.toList_extract,List.extract]
 rw [h,show p+W.length - p=W.length by omega,List.take_left]
 simp [ba]
def LexTo (u:ByteArray) (p:Nat) (l:List Tk) (p':Nat) (l':List Tk):Prop:=(toksN u p l=toksN u p' l'∧l'.length≤1000)∨(l.length=1000∧∃ q,toksN u p l=.bad q 34)
theorem toks_word {u:ByteArray} {p:Nat} {W R:List UInt8} {K:Int} {l:List Tk} (h:u.data.toList.drop p=W++R) (hW:W≠[]) (hb:blankB (bn u p)=false) (h37:((bn u p:Int) == 37)=false)
 (h2:twoB u p 47 42=false) (h39:((bn u p:Int) == 39)=false) (hh:headN u p l.getLast? =some (K,p+W.length)) (hl:l.length≤1000):LexTo u p l (p+W.length) (l++[⟨K,ba W,p,p+W.length⟩]):=by
 have hp:=drop_lt h (by cases W with | nil => exact absurd rfl hW | cons c W => simp)
 have e:toksN u p l=match oneN u p l with
  | .ok x => toksN u x.b (l++[x])
  | .bad p e => .bad p e:=by
  rw [toksN_one hp,bet_none hp hb h37 h2]
  dsimp only
  rw [if_neg (by omega)]
  cases oneN u p l <;> rfl
 unfold oneN at e
 rw [hh] at e
 dsimp only at e
 by_cases h1:l.length=1000
 ·rw [if_pos h1] at e
  exact .inr ⟨h1,p,e⟩
 ·rw [if_neg h1,h39,extract_word h] at e
  refine .inl ⟨e,?_⟩
  rw [List.length_append,List.length_singleton]
  omega
def varTok (W:List UInt8):Prop:=∃ c r,W=c ::r∧greatB c.toNat=true∧∀ d ∈ W,kindB 1 d.toNat=true
theorem great_facts {c:Int} (h:greatB c=true):blankB c=false∧(c == 37)=false∧(c == 39)=false∧(c == 46)=false∧(c == 47)=false∧smallB c=false:=by
 simp only [greatB,Bool.or_eq_true,Bool.and_eq_true,decide_eq_true_eq] at h
 refine ⟨?_,?_,?_,?_,?_,?_⟩
 ·simp only [blankB,Bool.or_eq_false_iff,beq_eq_false_iff_ne];omega
 ·rw [beq_eq_false_iff_ne];omega
 ·rw [beq_eq_false_iff_ne];omega
 ·rw [beq_eq_false_iff_ne];omega
 ·rw [beq_eq_false_iff_ne];omega
 ·simp only [smallB,Bool.and_eq_false_iff,decide_eq_false_iff_not];omega
theorem digit_facts {c:Int} (h:digitB c=true):blankB c=false∧(c == 37)=false∧(c == 39)=false∧(c == 46)=false∧(c == 47)=false∧smallB c=false∧greatB c=false:=by
 simp only [digitB,Bool.and_eq_true,decide_eq_true_eq] at h
 refine ⟨?_,?_,?_,?_,?_,?_,?_⟩
 ·simp only [blankB,Bool.or_eq_false_iff,beq_eq_false_iff_ne];omega
 ·rw [beq_eq_false_iff_ne];omega
 ·rw [beq_eq_false_iff_ne];omega
 ·rw [beq_eq_false_iff_ne];omega
 ·rw [beq_eq_false_iff_ne];omega
 ·simp only [smallB,Bool.and_eq_false_iff,decide_eq_false_iff_not];omega
 ·simp only [greatB,Bool.or_eq_false_iff,Bool.and_eq_false_iff,decide_eq_false_iff_not];omega
theorem two_first {u:ByteArray} {p:Nat} {a b:Int} (h:((bn u p:Int) == a)=false):twoB u p a b=false:=by unfold twoB;rw [h];simp
theorem tok_var {u:ByteArray} {p:Nat} {W R:List UInt8} {l:List Tk} (h:u.data.toList.drop p=W++R) (hW:varTok W) (hR:stopR R) (hl:l.length≤1000) :
 ∃ x:Tk,x.k=2∧x.t=ba W∧x.a=p∧x.b=p+W.length∧LexTo u p l (p+W.length) (l++[x]):=by
 obtain ⟨c,r,e,hc,hk⟩:=hW
 have hb:(bn u p:Int)=(c.toNat:Int):=bn_here (L:=r++R) (by rw [h,e];rfl)
 obtain ⟨f1,f2,f3,f4,f5,f6⟩:=great_facts hc
 rw [← hb] at f1 f2 f3 f4 f5 f6 hc
 refine ⟨⟨2,ba W,p,p+W.length⟩,rfl,rfl,rfl,rfl,toks_word h (by rw [e];simp) f1 f2 (two_first f5) f3 ?_ hl⟩
 unfold headN
 rw [f4,f6,hc,run_word W p R h hk (hR.k (.inl rfl))]
 simp
theorem tok_int {u:ByteArray} {p:Nat} {W R:List UInt8} {l:List Tk} (h:u.data.toList.drop p=W++R) (hW:W≠[]) (hd:∀ c ∈ W,48≤c.toNat∧c.toNat≤57) (hR:stopR R) (hl:l.length≤1000) :
 ∃ x:Tk,x.k=3∧x.t=ba W∧x.a=p∧x.b=p+W.length∧LexTo u p l (p+W.length) (l++[x]):=by
 obtain ⟨c,r,e⟩:∃ c r,W=c ::r:=by
  cases W with
  | nil => exact absurd rfl hW
  | cons c r => exact ⟨c,r,rfl⟩
 have hb:(bn u p:Int)=(c.toNat:Int):=bn_here (L:=r++R) (by rw [h,e];rfl)
 have dig:∀ c ∈ W,digitB c.toNat=true:=fun c hc => by
  have:=hd c hc
  simp only [digitB,Bool.and_eq_true,decide_eq_true_eq]
  omega
 have hc:=dig c (by rw [e];exact List.mem_cons_self)
 obtain ⟨f1,f2,f3,f4,f5,f6,f7⟩:=digit_facts hc
 rw [← hb] at f1 f2 f3 f4 f5 f6 f7 hc
 refine ⟨⟨3,ba W,p,p+W.length⟩,rfl,rfl,rfl,rfl,toks_word h hW f1 f2 (two_first f5) f3 ?_ hl⟩
 unfold headN
 rw [f4,f6,f7,hc,run_word W p R h (fun c hc => by simp [kindB,dig c hc]) (hR.k (.inr (.inl rfl)))]
 simp
theorem minus_facts:blankB 45=false∧((45:Int) == 37)=false∧((45:Int) == 39)=false∧((45:Int) == 46)=false∧((45:Int) == 47)=false∧smallB 45=false∧greatB 45=false∧digitB 45=false∧signB 45=true:=by decide
theorem tok_minus {u:ByteArray} {p:Nat} {R:List UInt8} {l:List Tk} (h:u.data.toList.drop p=45 ::R) (hR:stopK 3 R) (hl:l.length≤1000) :
 ∃ x:Tk,x.k=1∧x.t=ba [45]∧x.a=p∧x.b=p+1∧LexTo u p l (p+1) (l++[x]):=by
 have hb:(bn u p:Int)=45:=bn_here h
 obtain ⟨f1,f2,f3,f4,f5,f6,f7,f8,f9⟩:=minus_facts
 rw [← hb] at f1 f2 f3 f4 f5 f6 f7 f8 f9
 refine ⟨⟨1,ba [45],p,p+1⟩,rfl,rfl,rfl,rfl,toks_word (W:=[45]) (R:=R) h (by simp) f1 f2 (two_first f5) f3 ?_ hl⟩
 unfold headN
 rw [f4,f6,f7,f8,f9,run_word [45] p R h (fun c hc => by rw [List.mem_singleton.1 hc];decide) hR]
 simp
theorem mark_facts {c:UInt8} (h:markB c.toNat=true):blankB c.toNat=false∧(((c.toNat:Nat):Int) == 37)=false∧(((c.toNat:Nat):Int) == 39)=false∧(((c.toNat:Nat):Int) == 46)=false∧(((c.toNat:Nat):Int) == 47)=false∧smallB c.toNat=false∧greatB c.toNat=false∧digitB c.toNat=false∧signB c.toNat=false∧((((c.toNat:Nat):Int) == 33)=false∧(((c.toNat:Nat):Int) == 59)=false):=by
 simp only [markB,Bool.or_eq_true,beq_iff_eq] at h
 have h2:∀ d:Int,(((((((d=40∨d=41)∨d=91)∨d=93)∨d=123)∨d=125)∨d=44)∨d=124)→blankB d=false∧(d == 37)=false∧(d == 39)=false∧(d == 46)=false∧(d == 47)=false∧smallB d=false∧greatB d=false∧digitB d=false∧signB d=false∧((d == 33)=false∧(d == 59)=false):=by
  rintro d (((((((rfl | rfl) | rfl) | rfl) | rfl) | rfl) | rfl) | rfl) <;> decide
 exact h2 _ h
theorem tok_mark {u:ByteArray} {p:Nat} {c:UInt8} {R:List UInt8} {l:List Tk} (h:u.data.toList.drop p=c ::R) (hm:markB c.toNat=true) (h40:c≠40) (hl:l.length≤1000) :
 ∃ x:Tk,Mk x c∧x.a=p∧x.b=p+1∧LexTo u p l (p+1) (l++[x]):=by
 have hb:(bn u p:Int)=(c.toNat:Int):=bn_here h
 obtain ⟨f1,f2,f3,f4,f5,f6,f7,f8,f9,f10,f11⟩:=mark_facts hm
 have h40':(((c.toNat:Nat):Int) == 40)=false:=by
  rw [beq_eq_false_iff_ne]
  intro e
  exact h40 (UInt8.toNat_inj.1 (by have:c.toNat=40:=by omega
                                   rw [this];rfl))
 rw [← hb] at f1 f2 f3 f4 f5 f6 f7 f8 f9 f10 f11 hm h40'
 refine ⟨⟨5,ba [c],p,p+1⟩,⟨rfl,rfl⟩,rfl,rfl,toks_word (W:=[c]) (R:=R) h (by simp) f1 f2 (two_first f5) f3 ?_ hl⟩
 unfold headN
 rw [f4,f6,f7,f8,f9,f10,f11,f3,hm,h40']
 simp
theorem tok_open {u:ByteArray} {p:Nat} {R:List UInt8} {l:List Tk} {y:Tk} (h:u.data.toList.drop p=40 ::R) (hy:y.k=1) (hyb:y.b=p) (hl:(l++[y]).length≤1000) :
 ∃ x:Tk,x.k=4∧x.a=p∧x.b=p+1∧LexTo u p (l++[y]) (p+1) (l++[y]++[x]):=by
 have hb:(bn u p:Int)=40:=bn_here h
 obtain ⟨f1,f2,f3,f4,f5,f6,f7,f8,f9,f10,f11⟩:=mark_facts (c:=40) (by decide)
 have hm:markB ((40:UInt8).toNat:Int)=true:=by decide
 have e40:(((40:UInt8).toNat:Nat):Int)=40:=rfl
 rw [e40,← hb] at f1 f2 f3 f4 f5 f6 f7 f8 f9 f10 f11 hm
 refine ⟨⟨4,ba [40],p,p+1⟩,rfl,rfl,rfl,toks_word (W:=[40]) (R:=R) h (by simp) f1 f2 (two_first f5) f3 ?_ hl⟩
 unfold headN
 rw [f4,f6,f7,f8,f9,f10,f11,f3,hm,hb]
 simp [opens,hy,hyb]
theorem digits_stop3 (u:Nat) (R:List UInt8):stopK 3 (Lib.decDigits u++R):=by
 cases hd:Lib.decDigits u with
 | nil => exact absurd hd (dec_ne _)
 | cons c l =>
  refine .inr ⟨c,l++R,rfl,?_⟩
  have:=dec_digits u c (by rw [hd];exact List.mem_cons_self)
  have h2:∀ n:Nat,48≤n→n≤57→kindB 3 n=false:=by
   intro n h0 h1
   have:n=48∨n=49∨n=50∨n=51∨n=52∨n=53∨n=54∨n=55∨n=56∨n=57:=by omega
   rcases this with rfl | rfl | rfl | rfl | rfl | rfl | rfl | rfl | rfl | rfl <;> decide
  exact h2 _ this.1 this.2
end Go.Proofs.YtdgpmpccfjmmcaaGreatDoor
namespace Go.Proofs.YtdgpmpccfjmmcaaGreatDoor
open Go.RowKit
section
variable {tk:List Tk} {sz f j j':Nat} {l:List (T × List ByteArray)} {t:T} {ns:List ByteArray}
end
def S5 (w:World) (lo:Nat) (xs:List Value) (n:Nat) (ts:Nat→T):Prop:=
 ∀ k,k < n→∃ v0 v1 v2 v3 A m c,xs[5*k]? =some v0∧xs[5*k+1]? =some v1∧xs[5*k+2]? =some v2∧xs[5*k+3]? =some v3∧xs[5*k+4]? =some (.slice A m c)∧
  TP w (fun b => lo≤b) (ts k) (.agg #[v0,v1,v2,v3])∧(ts k).good∧(ts k).nodes≤1000
theorem S5.keep {w w':World} {lo:Nat} {xs:List Value} {n:Nat} {ts:Nat→T} (h:S5 w lo xs n ts) (hk:∀ (b:Nat) (cs:Array Value) (f:Nat × Nat),w.heap[b]? =some (.cells cs 51 f)→w'.heap[b]? =some (.cells cs 51 f)):S5 w' lo xs n ts:=by
 intro k hk'
 obtain ⟨v0,v1,v2,v3,A,m,c,h0,h1,h2,h3,h4,ht,hg⟩:=h k hk'
 exact ⟨v0,v1,v2,v3,A,m,c,h0,h1,h2,h3,h4,ht.keep fun b cs f hS hb => ⟨hk b cs f hb,hS⟩,hg⟩
theorem Tryz.info_sen:(Tryz.prog.info? 54).map (fun i => (i.zero,i.size,i.bytes))=some (some (.agg #[.int .i64 0,.int .i64 0,.string ⟨#[]⟩,.slice none 0 0,.slice none 0 0]),5,80):=by kernel_rfl
theorem own_ne5 {w:World} {B:Nat} {e:TypeId} {size:Nat} {v:Value} {n:Nat} {xs:List Value} (h:w.ownsRow B e size v n xs) {b:Nat} {cs:Array Value} {t:TypeId} {m:Nat × Nat} (hb:w.heap[b]? =some (.cells cs t m)) (ht:t≠e):some b≠v.ownBlock:=by
 intro he
 rcases h.2 with ⟨hv,_⟩ | ⟨g,cap,cur,hv,_,hh,_⟩
 ·rw [hv] at he;simp [Value.ownBlock] at he
 ·rw [hv] at he
  simp [Value.ownBlock] at he
  subst he
  rw [hb] at hh
  injection hh with hh
  injection hh with _ hh
  exact ht hh
abbrev Sens:=List (T × List ByteArray)
def sensT (l:Sens):Nat→T:=fun k => (l.map Prod.fst).getD k .nil
end Go.Proofs.YtdgpmpccfjmmcaaGreatDoor
namespace Go.Proofs.YtdgpmpccfjmmcaaGreatDoor
open Go.RowKit
theorem box5 {w:World} {g:Nat} {t:TypeId} {f:Nat × Nat} {a b c d e:Value} (h:w.heap[g]? =some (.cells #[a,b,c,d,e] t f)) :
 w.cell? ⟨g,0,none⟩=some a∧w.cell? ⟨g,1,none⟩=some b∧w.cell? ⟨g,2,none⟩=some c∧w.cell? ⟨g,3,none⟩=some d∧w.cell? ⟨g,4,none⟩=some e:=
 ⟨cell_of_row w g 0 _ _ _ h,cell_of_row w g 1 _ _ _ h,cell_of_row w g 2 _ _ _ h,cell_of_row w g 3 _ _ _ h,cell_of_row w g 4 _ _ _ h⟩
theorem box_put5 {w:World} {g:Nat} {t:TypeId} {m:Nat × Nat} {u0 u1 u2 u3 u4:Value} (h:w.heap[g]? =some (.cells #[u0,u1,u2,u3,u4] t m)) (a b c d e:Value) {W:World}
 (hW:((((w.setCell ⟨g,0,none⟩ a).setCell ⟨g,1,none⟩ b).setCell ⟨g,2,none⟩ c).setCell ⟨g,3,none⟩ d).setCell ⟨g,4,none⟩ e=W) :
 W.heap[g]? =some (.cells #[a,b,c,d,e] t m)∧(∀ k,k≠g→W.heap[k]? =w.heap[k]?)∧∀ B w0,B≤g→Below B w0 w→Below B w0 W:=by
 subst hW
 refine ⟨by simpa using blk_set (blk_set (blk_set (blk_set (blk_set h 0 a) 1 b) 2 c) 3 d) 4 e,fun k hk => ?_,fun B w0 hB hw => ((((hw.setCell hB a).setCell hB b).setCell hB c).setCell hB d).setCell hB e⟩
 rw [Below.heap_setCell _ _ _ k hk,Below.heap_setCell _ _ _ k hk,Below.heap_setCell _ _ _ k hk,Below.heap_setCell _ _ _ k hk,Below.heap_setCell _ _ _ k hk]
end Go.Proofs.YtdgpmpccfjmmcaaGreatDoor
namespace Go.Proofs.YtdgpmpccfjmmcaaGreatDoor
open Go.RowKit
theorem Mk.no {x:Tk} {c:UInt8} (h:Mk x c):x.k≠6:=by rw [h.1];decide
theorem toks_end {u:ByteArray} {p:Nat} {l:List Tk} (h:u.data.toList.drop p=[32,46]) (hl:l.length≤1000) :
 (toksN u p l=.ok (l++[⟨6,ba [46],p+1,p+2⟩])∧(l++[(⟨6,ba [46],p+1,p+2⟩:Tk)]).length≤1000)∨(l.length=1000∧∃ q,toksN u p l=.bad q 34):=by
 have h1:u.data.toList.drop (p+1)=[46]:=drop_more (A:=[32]) (B:=[46]) h
 have h2:u.size=p+2:=by
  have e:=congrArg List.length h
  rw [List.length_drop,len_u] at e
  have:=drop_lt h (by simp)
  simp at e
  omega
 have b0:(bn u p:Int)=32:=bn_here h
 have b1:(bn u (p+1):Int)=46:=bn_here h1
 have e:toksN u p l=toksN u (p+1) l:=by
  rw [toksN_one (by omega),toksN_one (by omega),betN_eq (j:=p) (by omega),if_pos (by rw [b0];decide)]
 rw [e]
 have c46:blankB 46=false∧((46:Int) == 37)=false∧((46:Int) == 47)=false∧((46:Int) == 39)=false:=by decide
 rcases toks_word (u:=u) (p:=p+1) (W:=[46]) (R:=[]) (K:=6) (l:=l) h1 (by simp) (by rw [b1];exact c46.1) (by rw [b1];exact c46.2.1) (two_first (by rw [b1];exact c46.2.2.1)) (by rw [b1];exact c46.2.2.2) (by
  unfold headN
  rw [if_pos (by rw [b1];simp;omega)]
  rfl) hl with ⟨h3,h4⟩ | h3
 ·exact .inl ⟨h3.trans (toksN_end (by show u.size≤p+1+1;omega)),h4⟩
 ·exact .inr h3
end Go.Proofs.YtdgpmpccfjmmcaaGreatDoor
namespace Go.Proofs.YtdgpmpccfjmmcaaGreatDoor
open Go.RowKit
def LexS (u:ByteArray) (p:Nat) (l:List Tk) (p':Nat) (P:List Tk→Prop) (n:Nat):Prop:=∃ tks,P tks∧toksN u p l=toksN u p' (l++tks)∧tks.length≤n
theorem LexTo.sure {u:ByteArray} {p p':Nat} {l l':List Tk} (h:LexTo u p l p' l') (hl:l.length < 1000):toksN u p l=toksN u p' l':=by
 rcases h with ⟨h,_⟩ | ⟨h,_⟩
 ·exact h
 ·omega
theorem LexS.one {u:ByteArray} {p p':Nat} {l:List Tk} {x:Tk} {P:List Tk→Prop} (h:LexTo u p l p' (l++[x])) (hl:l.length < 1000) (hP:P [x]):LexS u p l p' P 1:=⟨[x],hP,h.sure hl,Nat.le_refl _⟩
theorem LexS.bind {u:ByteArray} {p p1 p2:Nat} {l:List Tk} {P Q:List Tk→Prop} {n m:Nat} (h:LexS u p l p1 P n) (h2:∀ a,P a→a.length≤n→LexS u p1 (l++a) p2 (fun b => Q (a++b)) m):LexS u p l p2 Q (n+m):=by
 obtain ⟨a,ha,h,hl⟩:=h
 obtain ⟨b,hb,h3,hl3⟩:=h2 a ha hl
 exact ⟨a++b,hb,by rw [h,h3,List.append_assoc],by rw [List.length_append];omega⟩
theorem LexS.mono {u:ByteArray} {p p1:Nat} {l:List Tk} {P Q:List Tk→Prop} {n m:Nat} (h:LexS u p l p1 P n) (hq:∀ a,P a→Q a) (hn:n≤m):LexS u p l p1 Q m:=by
 obtain ⟨a,ha,h,hl⟩:=h
 exact ⟨a,hq a ha,h,by omega⟩
theorem LexS.at {u:ByteArray} {p p1 p2:Nat} {l:List Tk} {P:List Tk→Prop} {n:Nat} (h:LexS u p l p1 P n) (e:p1=p2):LexS u p l p2 P n:=e ▸ h
theorem LexS.mark {u:ByteArray} {p:Nat} {c:UInt8} {R:List UInt8} {l:List Tk} (h:u.data.toList.drop p=c ::R) (hm:markB c.toNat=true) (h40:c≠40) (hl:l.length < 1000):LexS u p l (p+1) (fun tks => ∃ x,tks=[x]∧Mk x c) 1:=by
 obtain ⟨x,hx,_,_,hL⟩:=tok_mark h hm h40 (Nat.le_of_lt hl)
 exact .one hL hl ⟨x,rfl,hx⟩
section
variable {V:Int→List UInt8} {u:ByteArray}
end
theorem skip_blank {u:ByteArray} {p:Nat} {R:List UInt8} {l:List Tk} (h:u.data.toList.drop p=32 ::R) (hR:R≠[]):toksN u p l=toksN u (p+1) l:=by
 have h1:u.data.toList.drop (p+1)=R:=drop_more (A:=[32]) (B:=R) h
 have h2:=drop_lt h1 hR
 have b0:(bn u p:Int)=32:=bn_here h
 rw [toksN_one (by omega),toksN_one (by omega),betN_eq (j:=p) (by omega),if_pos (by rw [b0];decide)]
theorem LexS.blank {u:ByteArray} {p p':Nat} {l:List Tk} {R:List UInt8} {P:List Tk→Prop} {n:Nat} (h:u.data.toList.drop p=32 ::R) (hR:R≠[]) (h2:LexS u (p+1) l p' P n):LexS u p l p' P n:=by
 obtain ⟨t,h3,h4,h5⟩:=h2
 exact ⟨t,h3,(skip_blank h hR).trans h4,h5⟩
def V0:Int→List UInt8:=fun _ => []
end Go.Proofs.YtdgpmpccfjmmcaaGreatDoor
namespace Go.Proofs.YtdgpmpccfjmmcaaGreatDoor
section
variable {tk:List Tk} {sz:Nat} {tm:Int→Nat→List ByteArray→PR T}
end
end Go.Proofs.YtdgpmpccfjmmcaaGreatDoor
