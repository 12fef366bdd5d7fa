/- Terms:as plain trees,and as they lie in memory. The reference's reader as one plain function over tokens:terms,sentences,or the place and the error. No program in sight. The plain lexer,token by token;what its tokens are. Names:what a token's text is made of;names that can be quoted. The reference's parser:its reader in memory;what a call leaves alone;terms in blocks of terms. The reference's parser:next,mark,fail,wrong,must. Tokens,plain:what the marks are,digits;when a prefix operator has no argument;the infix loop's equations. The program's parser:its reader in memory,over what the reference's reader shares. -/
import Derived.WalkKit
import Derived.Lib.Hide
import Derived.Below
import Derived.Laws.Rows
import Derived.Test.YtdgpmpccfjmmcaaGreatDoorKJAa
import Derived.Lib.ItoaNum
import Derived.RowKit
import Derived.Deep.DeepMust
set_option linter.unusedVariables false
set_option linter.unusedSimpArgs false
namespace Go.Proofs.YtdgpmpccfjmmcaaGreatDoor
open Go.RowKit
inductive T where
 | nil
 | mk (k n:Int) (s:ByteArray) (m:Nat) (a:Nat→T)
def TIn (w:World) (B:Nat):T→Value→Prop
 | .nil,_ => False
 | .mk k n s m a,v => ∃ A c,v=.agg #[.int .i64 k,.int .i64 n,.string s,.slice A m c]∧m≤c∧(A=none→c=0)∧
  (0 < m→∃ b off,A=some ⟨b,off,none⟩∧b < B∧∀ i,i < m→∃ v0 v1 v2 v3,w.cell? ⟨b,off+4*i,none⟩=some v0∧w.cell? ⟨b,off+4*i+1,none⟩=some v1∧
    w.cell? ⟨b,off+4*i+2,none⟩=some v2∧w.cell? ⟨b,off+4*i+3,none⟩=some v3∧TIn w B (a i) (.agg #[v0,v1,v2,v3]))
theorem TIn.below {w w':World} {B:Nat} (h:Below B w w'):∀ {t:T} {v:Value},TIn w B t v→TIn w' B t v:=by
 intro t
 induction t with
 | nil => exact fun h => h.elim
 | mk k n s m a ih =>
  rintro v ⟨A,c,rfl,hmc,hA,hx⟩
  refine ⟨A,c,rfl,hmc,hA,fun hm => ?_⟩
  obtain ⟨b,off,rfl,hb,hc⟩:=hx hm
  refine ⟨b,off,rfl,hb,fun i hi => ?_⟩
  obtain ⟨v0,v1,v2,v3,h0,h1,h2,h3,ht⟩:=hc i hi
  exact ⟨v0,v1,v2,v3,(h.cell hb).trans h0,(h.cell hb).trans h1,(h.cell hb).trans h2,(h.cell hb).trans h3,ih i ht⟩
theorem TIn.more {w:World} {B B':Nat} (h:B≤B'):∀ {t:T} {v:Value},TIn w B t v→TIn w B' t v:=by
 intro t
 induction t with
 | nil => exact fun h => h.elim
 | mk k n s m a ih =>
  rintro v ⟨A,c,rfl,hmc,hA,hx⟩
  refine ⟨A,c,rfl,hmc,hA,fun hm => ?_⟩
  obtain ⟨b,off,rfl,hb,hc⟩:=hx hm
  refine ⟨b,off,rfl,by omega,fun i hi => ?_⟩
  obtain ⟨v0,v1,v2,v3,h0,h1,h2,h3,ht⟩:=hc i hi
  exact ⟨v0,v1,v2,v3,h0,h1,h2,h3,ih i ht⟩
structure TAt (w:World) (B:Nat) (k n:Int) (s:ByteArray) (m:Nat) (a:Nat→T) (A:Option Addr) (c:Nat):Prop where
 cap:m≤c
 nil:A=none→c=0
 cells:0 < m→∃ b off,A=some ⟨b,off,none⟩∧b < B∧∀ i,i < m→∃ v0 v1 v2 v3,w.cell? ⟨b,off+4*i,none⟩=some v0∧w.cell? ⟨b,off+4*i+1,none⟩=some v1∧
  w.cell? ⟨b,off+4*i+2,none⟩=some v2∧w.cell? ⟨b,off+4*i+3,none⟩=some v3∧TIn w B (a i) (.agg #[v0,v1,v2,v3])
theorem TIn.open_ {w:World} {B:Nat} {k n:Int} {s:ByteArray} {m:Nat} {a:Nat→T} {v:Value} (h:TIn w B (.mk k n s m a) v) :
 ∃ A c,v=.agg #[.int .i64 k,.int .i64 n,.string s,.slice A m c]∧TAt w B k n s m a A c:=by
 obtain ⟨A,c,rfl,hmc,hA,hx⟩:=h
 exact ⟨A,c,rfl,hmc,hA,hx⟩
theorem box4 {w:World} {g:Nat} {t:TypeId} {f:Nat × Nat} {a b c d:Value} (h:w.heap[g]? =some (.cells #[a,b,c,d] t f)) :
 w.cell? ⟨g,0,none⟩=some a∧w.cell? ⟨g,1,none⟩=some b∧w.cell? ⟨g,2,none⟩=some c∧w.cell? ⟨g,3,none⟩=some d:=
 ⟨cell_of_row w g 0 _ _ _ h,cell_of_row w g 1 _ _ _ h,cell_of_row w g 2 _ _ _ h,cell_of_row w g 3 _ _ _ h⟩
end Go.Proofs.YtdgpmpccfjmmcaaGreatDoor
namespace Go.Proofs.YtdgpmpccfjmmcaaGreatDoor
open Go.RowKit
def nxT (tk:List Tk) (sz i:Nat):Tk:=if h:i < tk.length then tk[i] else ⟨0,⟨#[]⟩,sz,0⟩
def isM (tk:List Tk) (sz i:Nat) (tx:ByteArray):Bool:=((nxT tk sz i).k == 5) && ((nxT tk sz i).t.toList == tx.toList)
def wordsF:List UInt8→List UInt8→List (List UInt8)
 | acc,[] => [acc]
 | acc,c ::l => if c=32 then acc ::wordsF [] l else wordsF (acc++[c]) l
def inW (nm s:ByteArray):Bool:=(wordsF [] s.data.toList).any fun x => x == nm.data.toList
def iW0:ByteArray:=⟨#[58,45]⟩
def iW1:ByteArray:=⟨#[59]⟩
def iW2:ByteArray:=⟨#[45,62]⟩
def iW3:ByteArray:=⟨#[44]⟩
def iW4:ByteArray:=⟨#[35,60,61,62]⟩
def iW5:ByteArray:=⟨#[61,32,92,61,32,61,61,32,92,61,61,32,64,60,32,64,62,32,64,61,60,32,64,62,61,32,105,115,32,61,58,61,32,61,92,61,32,60,32,62,32,61,60,32,62,61,32,61,46,46,32,35,61,32,35,92,61,32,35,60,32,35,62,32,35,61,60,32,35,62,61,32,105,110]⟩
def iW6:ByteArray:=⟨#[92,47]⟩
def iW7:ByteArray:=⟨#[46,46]⟩
def iW8:ByteArray:=⟨#[43,32,45]⟩
def iW9:ByteArray:=⟨#[42,32,47,47,32,114,101,109,32,109,111,100,32,100,105,118]⟩
def iW10:ByteArray:=⟨#[94]⟩
def pW0:ByteArray:=⟨#[58,45]⟩
def pW1:ByteArray:=⟨#[92,43]⟩
def pW2:ByteArray:=⟨#[43,32,45]⟩
def opIn (nm:ByteArray):Option (Int × Int × Int):=
 if inW nm iW0 then some (1200,1199,1199)
 else if inW nm iW1 then some (1100,1099,1100)
 else if inW nm iW2 then some (1050,1049,1050)
 else if inW nm iW3 then some (1000,999,1000)
 else if inW nm iW4 then some (760,759,759)
 else if inW nm iW5 then some (700,699,699)
 else if inW nm iW6 then some (550,550,549)
 else if inW nm iW7 then some (450,449,449)
 else if inW nm iW8 then some (500,500,499)
 else if inW nm iW9 then some (400,400,399)
 else if inW nm iW10 then some (200,199,200)
 else none
def opPre (nm:ByteArray):Option (Int × Int):=
 if inW nm pW0 then some (1200,1199)
 else if inW nm pW1 then some (900,900)
 else if inW nm pW2 then some (200,200)
 else none
theorem opIn_11 {nm:ByteArray} (h0:inW nm iW0=false) (h1:inW nm iW1=false) (h2:inW nm iW2=false) (h3:inW nm iW3=false) (h4:inW nm iW4=false) (h5:inW nm iW5=false) (h6:inW nm iW6=false) (h7:inW nm iW7=false) (h8:inW nm iW8=false) (h9:inW nm iW9=false) (h10:inW nm iW10=false):opIn nm=none:=by simp [opIn,h0,h1,h2,h3,h4,h5,h6,h7,h8,h9,h10]
theorem opPre_3 {nm:ByteArray} (h0:inW nm pW0=false) (h1:inW nm pW1=false) (h2:inW nm pW2=false):opPre nm=none:=by simp [opPre,h0,h1,h2]
abbrev PR (α:Type):=Except (Int × Int) (α × Nat × List ByteArray)
def PR.andThen {α β:Type} (r:PR α) (f:α→Nat→List ByteArray→PR β):PR β:=match r with
 | .error e => .error e
 | .ok (t,j,ns) => f t j ns
def cmpT (s:ByteArray) (l:List T):T:=.mk 4 0 s l.length fun k => l.getD k .nil
def atT (s:ByteArray):T:=.mk 3 0 s 0 fun _ => .nil
def inT (n:Int):T:=.mk 2 n ⟨#[]⟩ 0 fun _ => .nil
def vrT (n:Int):T:=.mk 1 n ⟨#[]⟩ 0 fun _ => .nil
def zerosL:List UInt8→List UInt8
 | [] => []
 | [c] => [c]
 | c ::d ::l => if c=48 then zerosL (d ::l) else c ::d ::l
def ba (l:List UInt8):ByteArray:=⟨l.toArray⟩
def digS (n:Int) (c:UInt8):Int:=if 48≤(c.toNat:Int)∧(c.toNat:Int)≤57 then (n*10+((c.toNat:Int) - 48)) % 18446744073709551616 else n
def digF (l:List UInt8) (n:Int):Int:=l.foldl digS n
def parseN (s:ByteArray):Option Int:=
 if s.size < 1∨20 < s.size then none
 else
  let a:=wrap64 (digF s.data.toList 0)
  let b:=if bn s 0=45 then wrap64 (-a) else a
  if Lib.itoa b=s.data.toList then some b else none
def intN (tx:ByteArray) (below:Bool):Option Int:=
 parseN (ba (if below=true∧zerosL tx.data.toList≠[48] then 45 ::zerosL tx.data.toList else zerosL tx.data.toList))
def varI (nm:ByteArray):List ByteArray→Nat→Option Nat
 | [],_ => none
 | x ::l,i => if x=nm∧nm≠⟨#[95]⟩ then some i else varI nm l (i+1)
def varN (nm:ByteArray) (ns:List ByteArray):Nat × List ByteArray:=match varI nm ns 0 with
 | some i => (i,ns)
 | none => (ns.length,ns++[nm])
section
variable (tk:List Tk) (sz:Nat)
def errA (i:Nat) (k:Int):Int × Int:=(((nxT tk sz i).a:Int),k)
def mustN {α:Type} (m:ByteArray) (a:α) (i:Nat) (ns:List ByteArray):PR α:=if isM tk sz i m then .ok (a,i+1,ns) else .error (errA tk sz i 50)
def intP (x:Tk) (below:Bool) (j:Nat) (ns:List ByteArray):PR T:=match intN x.t below with
 | some n => .ok (inT n,j,ns)
 | none => .error ((x.a:Int),51)
end
end Go.Proofs.YtdgpmpccfjmmcaaGreatDoor
namespace Go.Proofs.YtdgpmpccfjmmcaaGreatDoor
inductive OneR where
 | ok (x:Tk)
 | bad (p:Nat) (e:Int)
def oneN (s:ByteArray) (f:Nat) (l:List Tk):OneR:=
 match headN s f l.getLast? with
 | none => .bad f 30
 | some (K,j) =>
  if l.length=1000 then .bad f 34
  else if (bn s f:Int) == 39 then
   match quoN s f (f+1) [] with
   | .ok t p => .ok ⟨K,⟨t.toArray⟩,f,p⟩
   | .bad p e => .bad p e
  else .ok ⟨K,s.extract f j,f,j⟩
theorem toksN_one {s:ByteArray} {k:Nat} {l:List Tk} (h:k < s.size):toksN s k l =
 match betN s k with
 | (f,false) => .bad f 31
 | (f,true) => if f=s.size then .ok l else match oneN s f l with
  | .ok x => toksN s x.b (l++[x])
  | .bad p e => .bad p e:=by
 rw [toksN_eq h]
 unfold oneN
 cases betN s k with
 | mk f ok =>
  cases ok with
  | false => rfl
  | true =>
   dsimp only
   by_cases hf:f=s.size
   ·rw [if_pos hf,if_pos hf]
   ·rw [if_neg hf,if_neg hf]
    cases headN s f l.getLast? with
    | none => rfl
    | some q =>
     obtain ⟨K,j⟩:=q
     dsimp only
     split
     ·rfl
     ·split
      ·cases quoN s f (f+1) [] <;> rfl
      ·rfl
theorem oneN_ok {s:ByteArray} {f:Nat} {l:List Tk} {x:Tk} (h:oneN s f l=.ok x) (hf:f < s.size):x.ok s.size∧x.a=f∧f < x.b∧x.b≤s.size∧l.length≠1000:=by
 unfold oneN at h
 cases hh:headN s f l.getLast? with
 | none => rw [hh] at h;cases h
 | some q =>
  obtain ⟨K,j⟩:=q
  rw [hh] at h
  dsimp only at h
  have hk:=headN_kind hh
  split at h
  ·cases h
  ·rename_i hl
   split at h
   ·cases hq:quoN s f (f+1) [] with
    | ok t p =>
     rw [hq] at h
     injection h with h
     subst h
     have:=quoF_ok _ _ _ _ _ _ _ (by simp) (Nat.zero_le _) hq
     refine ⟨⟨hk.1,hk.2,?_,by show f < p;omega,this.2.1⟩,rfl,by show f < p;omega,this.2.1,hl⟩
     show t.toArray.size≤_
     simp
     omega
    | bad p e => rw [hq] at h;cases h
   ·rename_i h39
    injection h with h
    subst h
    have:=headN_ok hh hf (by simpa using h39)
    refine ⟨⟨hk.1,hk.2,?_,this.2.2.1,this.2.2.2⟩,rfl,this.2.2.1,this.2.2.2,hl⟩
    show (s.extract f j).size≤_
    rw [ByteArray.size_extract]
    omega
theorem toks_ind {s:ByteArray} (P:Nat→List Tk→Prop) (step:∀ k l f x,k < s.size→P k l→betN s k=(f,true)→f < s.size→oneN s f l=.ok x→P x.b (l++[x])) :
 ∀ (n k:Nat) (l r:List Tk),s.size - k≤n→P k l→toksN s k l=.ok r→∃ k',P k' r∧(s.size≤k'∨betN s k'=(s.size,true))
 | n,k,l,r,hn,hp,h => by
  by_cases hk:k < s.size
  ·rw [toksN_one hk] at h
   have hb:=betN_ge (s:=s) (j:=k) (by omega)
   cases hbe:betN s k with
   | mk f ok =>
    rw [hbe] at h hb
    dsimp only at hb
    cases ok with
    | false => cases h
    | true =>
     dsimp only at h
     by_cases hf:f=s.size
     ·rw [if_pos hf] at h
      injection h with h
      subst h
      exact ⟨k,hp,.inr (by rw [hbe,hf])⟩
     ·rw [if_neg hf] at h
      cases ho:oneN s f l with
      | bad p e => rw [ho] at h;cases h
      | ok x =>
       rw [ho] at h
       have hx:=oneN_ok ho (by omega)
       match n,hn with
       | 0,hn => omega
       | n+1,hn => exact toks_ind P step n x.b _ r (by omega) (step k l f x hk hp hbe (by omega) ho) h
  ·rw [toksN_end (by omega)] at h
   injection h with h
   subst h
   exact ⟨k,hp,.inl (by omega)⟩
theorem lexN_ok {s:ByteArray} {r:List Tk} (h:lexN s=.ok r):r.length≤1000∧s.size≤4096∧∀ x ∈ r,x.ok s.size:=by
 unfold lexN at h
 split at h
 ·cases h
 ·rename_i hs
  obtain ⟨_,hp,_⟩:=toks_ind (fun _ l => l.length≤1000∧∀ x ∈ l,x.ok s.size) (fun k l f x _ hp _ hf ho => by
   have hx:=oneN_ok ho hf
   refine ⟨by simp;omega,fun y hy => ?_⟩
   rcases List.mem_append.1 hy with h1 | h1
   ·exact hp.2 y h1
   ·simp at h1;subst h1;exact hx.1) s.size 0 [] r (by omega) ⟨by simp,by simp⟩ h
  exact ⟨hp.1,by omega,hp.2⟩
theorem betF_blank:∀ (n:Nat) (s:ByteArray) (j f:Nat),betF n s j=(f,true)→f < s.size→s.size≤j+n→blankB (bn s f)=false
 | 0,s,j,f,h,hf,hn => by unfold betF at h;injection h with h _;omega
 | n+1,s,j,f,h,hf,hn => by
  unfold betF at h
  by_cases hj:j < s.size
  ·rw [if_pos hj] at h
   split at h
   ·exact betF_blank n s _ f h hf (by omega)
   ·rename_i hb
    split at h
    ·rename_i h37
     have:=line_gt hj h37
     exact betF_blank n s _ f h hf (by omega)
    ·split at h
     ·have:=endN_ge s (j+2)
      split at h
      ·exact betF_blank n s _ f h hf (by omega)
      ·injection h with _ h;cases h
     ·injection h with h _
      subst h
      simpa using hb
  ·rw [if_neg hj] at h
   injection h with h _
   omega
theorem betN_blank {s:ByteArray} {j f:Nat} (h:betN s j=(f,true)) (hf:f < s.size):blankB (bn s f)=false:=betF_blank _ s j f h hf (by omega)
end Go.Proofs.YtdgpmpccfjmmcaaGreatDoor
namespace Go.Proofs.YtdgpmpccfjmmcaaGreatDoor
def nameB (s:ByteArray):Prop:=s.data.toList.all byteB=true
def nameOk (s:ByteArray):Prop:=s.size≤4096∧nameB s
instance (s:ByteArray):Decidable (nameB s):=inferInstanceAs (Decidable (_=true))
instance (s:ByteArray):Decidable (nameOk s):=inferInstanceAs (Decidable (_∧_))
theorem byteB_of {c:UInt8} (h:32≤c.toNat) (h2:c.toNat≤126):byteB c=true:=by
 unfold byteB
 rw [decide_eq_true h,decide_eq_true h2]
 simp
theorem runF_all:∀ (f:Nat) (k:Int) (s:ByteArray) (j i:Nat),j≤i→i < runF f k s j→kindB k (bn s i)=true
 | 0,k,s,j,i,h1,h2 => by unfold runF at h2;omega
 | f+1,k,s,j,i,h1,h2 => by
  unfold runF at h2
  split at h2
  ·rename_i hc
   rcases Nat.eq_or_lt_of_le h1 with h | h
   ·subst h
    exact hc
   ·exact runF_all f k s (j+1) i (by omega) h2
  ·omega
theorem kind_byte {k:Int} {s:ByteArray} {i:Nat} (h:kindB k (bn s i)=true):byteB (bu s i)=true:=by
 have hb:bn s i=(bu s i).toNat:=bn_bu s i
 have key:(32:Int)≤(bn s i:Int)∧(bn s i:Int)≤126:=by
  unfold kindB at h
  simp only [Bool.or_eq_true,Bool.and_eq_true,decide_eq_true_eq] at h
  rcases h with (⟨_,h⟩ | ⟨_,h⟩) | ⟨_,h⟩
  ·unfold namedB smallB greatB digitB at h
   simp only [Bool.or_eq_true,Bool.and_eq_true,decide_eq_true_eq] at h
   omega
  ·unfold digitB at h
   simp only [Bool.and_eq_true,decide_eq_true_eq] at h
   omega
  ·have h2:=signB_iff.1 h
   simp only [List.mem_cons,List.not_mem_nil,or_false] at h2
   omega
 exact byteB_of (by omega) (by omega)
theorem headN_bytes {s:ByteArray} {f:Nat} {o:Option Tk} {K:Int} {j:Nat} (h:headN s f o=some (K,j)) (hq:((bn s f:Int) == 39)=false):∀ i,f≤i→i < j→byteB (bu s i)=true:=by
 have one:(32:Int)≤(bn s f:Int)→(bn s f:Int)≤126→∀ i,f≤i→i < f+1→byteB (bu s i)=true:=fun h1 h2 i hi hj => by
  obtain rfl:i=f:=by omega
  have hb:bn s i=(bu s i).toNat:=bn_bu s i
  exact byteB_of (by omega) (by omega)
 unfold headN at h
 split at h
 ·rename_i hc
  injection h with h;injection h with h1 h2;subst h2
  simp only [Bool.and_eq_true,beq_iff_eq] at hc
  exact one (by omega) (by omega)
 ·split at h
  ·injection h with h;injection h with h1 h2;subst h2
   exact fun i hi hj => kind_byte (runF_all _ 1 s f i hi hj)
  ·split at h
   ·injection h with h;injection h with h1 h2;subst h2
    exact fun i hi hj => kind_byte (runF_all _ 1 s f i hi hj)
   ·split at h
    ·injection h with h;injection h with h1 h2;subst h2
     exact fun i hi hj => kind_byte (runF_all _ 2 s f i hi hj)
    ·split at h
     ·injection h with h;injection h with h1 h2;subst h2
      exact fun i hi hj => kind_byte (runF_all _ 3 s f i hi hj)
     ·split at h
      ·rename_i hc
       injection h with h;injection h with h1 h2;subst h2
       simp only [Bool.or_eq_true,beq_iff_eq] at hc
       exact one (by omega) (by omega)
      ·split at h
       ·rename_i hc
        rw [hc] at hq;cases hq
       ·split at h
        ·rename_i hc
         injection h with h;injection h with h1 h2;subst h2
         unfold markB at hc
         simp only [Bool.or_eq_true,beq_iff_eq] at hc
         exact one (by omega) (by omega)
        ·cases h
theorem extract_bytes {s:ByteArray} {f j:Nat} (hj:j≤s.size) (h:∀ i,f≤i→i < j→byteB (bu s i)=true):nameB (s.extract f j):=by
 unfold nameB
 rw [List.all_eq_true]
 intro c hc
 simp only [ByteArray.data_extract,Array.toList_extract,List.extract] at hc
 obtain ⟨n,hn,rfl⟩:=List.getElem_of_mem hc
 have hn2:n < j - f:=by simp at hn;omega
 have e:((s.data.toList.drop f).take (j - f))[n]=bu s (f+n):=by
  rw [List.getElem_take,List.getElem_drop]
  unfold bu
  rw [List.getD_eq_getElem?_getD,List.getElem?_eq_getElem (by rw [Array.length_toList];exact (show f+n < s.size by omega))]
  rfl
 rw [e]
 exact h _ (by omega) (by omega)
theorem oneN_name {s:ByteArray} {f:Nat} {l:List Tk} {x:Tk} (h:oneN s f l=.ok x) (hf:f < s.size):nameB x.t:=by
 have hb:=oneN_ok h hf
 unfold oneN at h
 cases hh:headN s f l.getLast? with
 | none => rw [hh] at h;cases h
 | some q =>
  obtain ⟨K,j⟩:=q
  rw [hh] at h
  dsimp only at h
  split at h
  ·cases h
  ·split at h
   ·cases hq:quoN s f (f+1) [] with
    | ok t p =>
     rw [hq] at h
     injection h with h
     subst h
     have:=quoF_ok _ _ _ _ _ _ _ (by simp) (Nat.zero_le _) hq
     unfold nameB
     rw [List.all_eq_true]
     exact fun c hc => this.2.2.2 c (by simpa using hc)
    | bad p e => rw [hq] at h;cases h
   ·rename_i h39
    injection h with h
    subst h
    exact extract_bytes hb.2.2.2.1 (headN_bytes hh (by simpa using h39))
theorem lexN_names {s:ByteArray} {r:List Tk} (h:lexN s=.ok r):∀ x ∈ r,nameB x.t:=by
 unfold lexN at h
 split at h
 ·cases h
 ·obtain ⟨_,hP,_⟩:=toks_ind (s:=s) (fun _ l => ∀ x ∈ l,nameB x.t) (fun k l f x _ hl _ hf ho y hy => by
   rcases List.mem_append.1 hy with hy | hy
   ·exact hl y hy
   ·rw [List.mem_singleton.1 hy]
    exact oneN_name ho hf) (s.size - 0) 0 [] r (Nat.le_refl _) (fun x hx => by cases hx) h
  exact hP
end Go.Proofs.YtdgpmpccfjmmcaaGreatDoor
namespace Go.Proofs.YtdgpmpccfjmmcaaGreatDoor
open Go.RowKit
def TP (w:World) (S:Nat→Prop):T→Value→Prop
 | .nil,_ => False
 | .mk k n s m a,v => ∃ A c,v=.agg #[.int .i64 k,.int .i64 n,.string s,.slice A m c]∧m≤c∧(A=none→c=0)∧
  (0 < m→∃ b cs f,A=some ⟨b,0,none⟩∧S b∧w.heap[b]? =some (.cells cs 51 f)∧∀ i,i < m→∃ v0 v1 v2 v3,cs[4*i]? =some v0∧cs[4*i+1]? =some v1∧
    cs[4*i+2]? =some v2∧cs[4*i+3]? =some v3∧TP w S (a i) (.agg #[v0,v1,v2,v3]))
theorem TP.keep {w w':World} {S S':Nat→Prop} (h:∀ b cs f,S b→w.heap[b]? =some (.cells cs 51 f)→w'.heap[b]? =some (.cells cs 51 f)∧S' b) :
 ∀ {t:T} {v:Value},TP w S t v→TP w' S' t v:=by
 intro t
 induction t with
 | nil => exact fun h => h.elim
 | mk k n s m a ih =>
  rintro v ⟨A,c,rfl,hmc,hA,hx⟩
  refine ⟨A,c,rfl,hmc,hA,fun hm => ?_⟩
  obtain ⟨b,cs,f,rfl,hS,hb,hc⟩:=hx hm
  refine ⟨b,cs,f,rfl,(h b cs f hS hb).2,(h b cs f hS hb).1,fun i hi => ?_⟩
  obtain ⟨v0,v1,v2,v3,h0,h1,h2,h3,ht⟩:=hc i hi
  exact ⟨v0,v1,v2,v3,h0,h1,h2,h3,ih i ht⟩
theorem TP.more {w:World} {S S':Nat→Prop} (h:∀ b,S b→S' b) {t:T} {v:Value} (ht:TP w S t v):TP w S' t v:=ht.keep fun b _ _ hS hb => ⟨hb,h b hS⟩
theorem TP.tin {w:World} {S:Nat→Prop}:∀ {t:T} {v:Value},TP w S t v→TIn w w.heap.size t v:=by
 intro t
 induction t with
 | nil => exact fun h => h.elim
 | mk k n s m a ih =>
  rintro v ⟨A,c,rfl,hmc,hA,hx⟩
  refine ⟨A,c,rfl,hmc,hA,fun hm => ?_⟩
  obtain ⟨b,cs,f,rfl,_,hb,hc⟩:=hx hm
  refine ⟨b,0,rfl,heap_lt hb,fun i hi => ?_⟩
  obtain ⟨v0,v1,v2,v3,h0,h1,h2,h3,ht⟩:=hc i hi
  have hr:=fun (j:Nat) => cell_of_row w b j _ _ _ hb
  simp only [Nat.zero_add]
  exact ⟨v0,v1,v2,v3,(hr _).trans h0,(hr _).trans h1,(hr _).trans h2,(hr _).trans h3,ih i ht⟩
theorem TP.agg {w:World} {S:Nat→Prop} {t:T} {v:Value} (h:TP w S t v):∃ k n s A m c,v=.agg #[.int .i64 k,.int .i64 n,.string s,.slice A m c]:=by
 cases t with
 | nil => exact h.elim
 | mk k n s m a => obtain ⟨A,c,rfl,_⟩:=h;exact ⟨_,_,_,_,_,_,rfl⟩
theorem TP.leaf (w:World) (S:Nat→Prop) (k n:Int) (s:ByteArray):TP w S (.mk k n s 0 fun _ => .nil) (.agg #[.int .i64 k,.int .i64 n,.string s,.slice none 0 0]):=
 ⟨none,0,rfl,Nat.le_refl _,fun _ => rfl,fun h => absurd h (by decide)⟩
structure Rdc where
 R:Nat
 B:Nat
 s:ByteArray
 TA:Option Addr
 tn:Nat
 tc:Nat
 tk:List Tk
 N:Nat
structure TokW (w:World) (c:Rdc):Prop where
 len:c.tk.length=c.tn
 few:c.tn≤1000
 long:c.s.size≤4096
 ok:∀ x ∈ c.tk,x.ok c.s.size
 cap:c.tn≤c.tc
 nil:c.TA=none→c.tc=0
 BR:c.B≤c.R
 nm:∀ x ∈ c.tk,nameB x.t
 blk:0 < c.tn→∃ g cur,c.TA=some ⟨g,0,none⟩∧w.heap[g]? =some (.cells cur 116 (0,0))∧∀ j,j < c.tn*4→cur[j]? =(tkCells c.tk)[j]?
theorem TokW.keep {w w':World} {c:Rdc} (h:TokW w c) (hk:∀ (b:Nat) (cs:Array Value),w.heap[b]? =some (.cells cs 116 (0,0))→w'.heap[b]? =w.heap[b]?):TokW w' c:=
 ⟨h.len,h.few,h.long,h.ok,h.cap,h.nil,h.BR,h.nm,fun h0 => by
  obtain ⟨g,cur,hA,hg,hc⟩:=h.blk h0
  exact ⟨g,cur,hA,(hk g cur hg).trans hg,hc⟩⟩
def nx (c:Rdc) (at_:Nat):Tk:=nxT c.tk c.s.size at_
end Go.Proofs.YtdgpmpccfjmmcaaGreatDoor
namespace Go.Proofs.YtdgpmpccfjmmcaaGreatDoor
open Go.RowKit
theorem tok_cells {w:World} {c:Rdc} (h:TokW w c) {i:Nat} (hi:i < c.tn):∃ g,c.TA=some ⟨g,0,none⟩∧w.cell? ⟨g,i*4,none⟩=some (.int .i64 (nx c i).k)∧w.cell? ⟨g,i*4+1,none⟩=some (.string (nx c i).t)∧
 w.cell? ⟨g,i*4+2,none⟩=some (.int .i64 ((nx c i).a:Int))∧w.cell? ⟨g,i*4+3,none⟩=some (.int .i64 ((nx c i).b:Int)):=by
 obtain ⟨g,cur,hA,hg,hc⟩:=h.blk (by omega)
 have hl:i < c.tk.length:=by have:=h.len;omega
 have hx:nx c i=c.tk[i]:=by simp [nx,nxT,hl]
 have key:∀ j,j < 4→w.cell? ⟨g,i*4+j,none⟩=(nx c i).cells[j]?:=fun j hj => by
  rw [cell_of_row w g (i*4+j) _ _ _ hg,hc _ (by omega),hx,Nat.mul_comm i 4]
  exact tkCells_at c.tk i hl j hj
 exact ⟨g,hA,by simpa [Tk.cells] using key 0 (by omega),by simpa [Tk.cells] using key 1 (by omega),by simpa [Tk.cells] using key 2 (by omega),by simpa [Tk.cells] using key 3 (by omega)⟩
theorem fld_tok2 (a b d:Value) (n:Int) (W:World):(Instr.field 116 (.agg #[a,b,.int .i64 n,d]) 2).run Tryz.prog W=.ok (.int .i64 n) W:=by kernel_rfl
end Go.Proofs.YtdgpmpccfjmmcaaGreatDoor
namespace Go.Proofs.YtdgpmpccfjmmcaaGreatDoor
open Go.RowKit
def marksL:List UInt8:=[40,41,91,93,123,125,44,124]
def Tk.fine (x:Tk):Prop:=(x.k=5→∃ c,c ∈ marksL∧x.t=ba [c])∧(x.k=3→x.t.data.toList≠[]∧∀ c ∈ x.t.data.toList,48≤c.toNat∧c.toNat≤57)
theorem fine_of {k:Int} {t:ByteArray} {a b:Nat} (h5:k≠5) (h3:k≠3):Tk.fine ⟨k,t,a,b⟩:=⟨fun e => absurd e h5,fun e => absurd e h3⟩
theorem extract_run {s:ByteArray} {f j:Nat} (hj:j≤s.size) (hf:f < j):(s.extract f j).data.toList≠[]∧∀ c ∈ (s.extract f j).data.toList,∃ i,f≤i∧i < j∧c=bu s i:=by
 have hl:(s.extract f j).data.toList=(s.data.toList.drop f).take (j - f):=by
  simp only [ByteArray.data_extract,Array.toList_extract,List.extract]
 have hs:s.data.toList.length=s.size:=Array.length_toList
 rw [hl]
 constructor
 ·intro h
  have:=congrArg List.length h
  rw [List.length_take,List.length_drop] at this
  simp only [List.length_nil] at this
  omega
 ·intro c hc
  obtain ⟨i,hi,rfl⟩:=List.mem_iff_getElem.1 hc
  rw [List.length_take,List.length_drop] at hi
  refine ⟨f+i,by omega,by omega,?_⟩
  rw [List.getElem_take,List.getElem_drop]
  unfold bu
  rw [List.getD_eq_getElem?_getD,List.getElem?_eq_getElem (by omega)]
  rfl
theorem runF_kind:∀ (f:Nat) (k:Int) (s:ByteArray) (j i:Nat),j≤i→i < runF f k s j→kindB k (bn s i)=true
 | 0,k,s,j,i,h,h2 => by unfold runF at h2;omega
 | f+1,k,s,j,i,h,h2 => by
  unfold runF at h2
  split at h2
  ·rename_i hk
   rcases Nat.eq_or_lt_of_le h with rfl | h3
   ·exact hk
   ·exact runF_kind f k s (j+1) i h3 h2
  ·omega
theorem runN_kind {k:Int} {s:ByteArray} {j i:Nat} (h:j≤i) (h2:i < runN k s j):kindB k (bn s i)=true:=runF_kind _ k s j i h h2
theorem one_fine {s:ByteArray} {f:Nat} {l:List Tk} {x:Tk} (h:oneN s f l=.ok x) (hf:f < s.size):x.fine:=by
 unfold oneN at h
 cases hh:headN s f l.getLast? with
 | none => rw [hh] at h;cases h
 | some q =>
  obtain ⟨K,j⟩:=q
  rw [hh] at h
  dsimp only at h
  split at h
  ·cases h
  ·split at h
   ·rename_i h39
    have hK:K=1:=by
     unfold headN at hh
     have e:(bn s f:Int)=39:=by simpa using h39
     rw [e] at hh
     have e1:smallB 39=false:=by decide
     have e2:greatB 39=false:=by decide
     have e3:digitB 39=false:=by decide
     have e4:signB 39=false:=by decide
     rw [e1,e2,e3,e4] at hh
     simp at hh
     exact hh.1.symm
    cases hq:quoN s f (f+1) [] with
    | bad p e => rw [hq] at h;cases h
    | ok t p =>
     rw [hq] at h
     injection h with h
     subst h
     subst hK
     exact fine_of (by decide) (by decide)
   ·rename_i h39
    injection h with h
    subst h
    unfold headN at hh
    split at hh
    ·injection hh with hh;injection hh with h1 h2;subst h1;exact fine_of (by decide) (by decide)
    ·split at hh
     ·injection hh with hh;injection hh with h1 h2;subst h1;exact fine_of (by decide) (by decide)
     ·split at hh
      ·injection hh with hh;injection hh with h1 h2;subst h1;exact fine_of (by decide) (by decide)
      ·split at hh
       ·rename_i hs
        injection hh with hh;injection hh with h1 h2;subst h1
        refine ⟨fun e => absurd (show (3:Int)=5 from e) (by decide),fun _ => ?_⟩
        have hk:kindB 2 (bn s f)=true:=by simp [kindB,hs]
        have hgt:=runN_gt hf hk
        obtain ⟨g1,g2⟩:=extract_run (s:=s) (f:=f) (runN_le (k:=2) (Nat.le_of_lt hf)) hgt
        subst h2
        refine ⟨g1,fun c hc => ?_⟩
        obtain ⟨i,hi1,hi2,rfl⟩:=g2 c hc
        have:=runN_kind hi1 hi2
        rw [bn_bu] at this
        simp [kindB,digitB] at this
        omega
       ·split at hh
        ·injection hh with hh;injection hh with h1 h2;subst h1;exact fine_of (by decide) (by decide)
        ·split at hh
         ·injection hh with hh;injection hh with h1 h2;subst h1;exact fine_of (by decide) (by decide)
         ·split at hh
          ·rename_i hm
           injection hh with hh;injection hh with h1 h2
           subst h2
           have hx:s.extract f (f+1)=ba [bu s f]:=by
            apply ByteArray.ext
            apply Array.toList_inj.1
            obtain ⟨g1,g2⟩:=extract_run (s:=s) (f:=f) (j:=f+1) (by omega) (by omega)
            have hlen:(s.extract f (f+1)).data.toList.length=1:=by
             have:(s.extract f (f+1)).data.toList.length=(s.extract f (f+1)).size:=Array.length_toList
             rw [this,ByteArray.size_extract];omega
            obtain ⟨c,hc⟩:=List.length_eq_one_iff.1 hlen
            rw [hc]
            obtain ⟨i,hi1,hi2,rfl⟩:=g2 c (by rw [hc];exact List.mem_singleton.2 rfl)
            obtain rfl:i=f:=by omega
            rfl
           refine ⟨fun _ => ⟨bu s f,?_,hx⟩,fun e => ?_⟩
           ·simp only [markB,Bool.or_eq_true,beq_iff_eq,bn_bu] at hm
            have hb:∀ (c:UInt8) (n:Nat),(c.toNat:Int)=n→n < 256→c=UInt8.ofNat n:=fun c n h hn => by
             apply UInt8.toNat_inj.1
             rw [UInt8.toNat_ofNat']
             omega
            unfold marksL
            rcases hm with ((((((h | h) | h) | h) | h) | h) | h) | h <;> rw [hb _ _ h (by decide)] <;> decide
           ·subst h1
            simp only at e
            split at e <;> cases e
          ·cases hh
theorem lex_fine {s:ByteArray} {r:List Tk} (h:lexN s=.ok r):∀ x ∈ r,x.fine:=by
 unfold lexN at h
 split at h
 ·cases h
 ·obtain ⟨_,hP,_⟩:=toks_ind (s:=s) (fun _ l => ∀ x ∈ l,x.fine) (fun k l f x _ hl _ hf ho y hy => by
   rcases List.mem_append.1 hy with hy | hy
   ·exact hl y hy
   ·rw [List.mem_singleton.1 hy]
    exact one_fine ho hf) (s.size - 0) 0 [] r (Nat.le_refl _) (fun x hx => by cases hx) h
  exact hP
end Go.Proofs.YtdgpmpccfjmmcaaGreatDoor
namespace Go.Proofs.YtdgpmpccfjmmcaaGreatDoor
open Go.RowKit
def TokAt (c:Rdc) (j:Nat) (v:Value):Prop:=∃ A cc,v=.slice A (c.tn - j) cc∧c.tn - j≤cc∧(j < c.tn→∀ g,c.TA=some ⟨g,0,none⟩→A=some ⟨g,j*4,none⟩)
structure PdW (w:World) (c:Rdc) (j:Nat) (lv nv:Value) (nn:Nat) (names:List ByteArray):Prop where
 blk:w.heap[c.R]? =some (.cells #[.string c.s,lv,nv] 104 (0,0))
 lok:TokAt c j lv
 own:w.ownsRow (c.B+c.N) 9 1 nv nn (names.map Value.string)
 up:j≤c.tn
 few:nn≤j
def Pd (w:World) (c:Rdc) (j:Nat) (names:List ByteArray):Prop:=TokW w c∧(∀ x ∈ c.tk,x.fine)∧∃ lv nv nn,PdW w c j lv nv nn names
theorem Pd.lt {w:World} {c:Rdc} {j:Nat} {ns:List ByteArray} (h:Pd w c j ns):c.R < w.heap.size:=by
 obtain ⟨_,_,_,_,_,h⟩:=h
 exact heap_lt h.blk
theorem Pd.base {w:World} {c:Rdc} {j:Nat} {ns:List ByteArray} (h:Pd w c j ns):c.B≤w.heap.size:=Nat.le_trans h.1.BR (Nat.le_of_lt h.lt)
theorem Pd.up {w:World} {c:Rdc} {j:Nat} {ns:List ByteArray} (h:Pd w c j ns):j≤c.tn:=by
 obtain ⟨_,_,_,_,_,h⟩:=h
 exact h.up
theorem Pd.names {w:World} {c:Rdc} {j:Nat} {ns:List ByteArray} (h:Pd w c j ns):ns.length≤j:=by
 obtain ⟨_,_,_,_,nn,h⟩:=h
 have h1:=own_len h.own
 rw [List.length_map] at h1
 have:=h.few
 omega
structure Frp (c:Rdc) (w w':World):Prop where
 low:Below c.B w w'
 keep:∀ (b:Nat) (cs:Array Value) (t:TypeId) (m:Nat × Nat),w.heap[b]? =some (.cells cs t m)→b≠c.R→(t=9→b < c.B+c.N)→w'.heap[b]? =some (.cells cs t m)
theorem Frp.refl (c:Rdc) (w:World):Frp c w w:=⟨Below.refl _ _,fun _ _ _ _ h _ _ => h⟩
theorem Frp.trans {c:Rdc} {w w1 w2:World} (h:Frp c w w1) (h':Frp c w1 w2):Frp c w w2:=⟨h.low.trans h'.low,fun b cs t m hb hR ht => h'.keep b cs t m (h.keep b cs t m hb hR ht) hR ht⟩
theorem Frp.of_below {c:Rdc} {w w':World} (h:Below w.heap.size w w') (hB:c.B≤w.heap.size):Frp c w w':=⟨h.mono hB,fun b _ _ _ hb _ _ => (h.block b (heap_lt hb)).trans hb⟩
theorem Frp.size {c:Rdc} {w w':World} (h:Frp c w w'):w.heap.size≤w'.heap.size:=h.low.size
theorem Frp.setR {c:Rdc} {w:World} (hB:c.B≤c.R) (i:Nat) (u:Value):Frp c w (w.setCell ⟨c.R,i,none⟩ u):=
 ⟨(Below.refl _ _).setCell (p:=⟨c.R,i,none⟩) hB u,fun _ _ _ _ hb hne _ => (Below.heap_setCell _ _ _ _ hne).trans hb⟩
theorem Frp.boxp {c:Rdc} {w w':World} {j:Nat} {ns:List ByteArray} (h:Frp c w w') (hr:Pd w c j ns) {b:Nat} {cs:Array Value} {t:TypeId} {m:Nat × Nat} (hb:w.heap[b]? =some (.cells cs t m))
 (h1:t≠9) (h2:t≠104):w'.heap[b]? =some (.cells cs t m):=by
 refine h.keep b cs t m hb (fun e => ?_) (fun e => absurd e h1)
 subst e
 obtain ⟨_,_,_,_,_,hr⟩:=hr
 rw [hr.blk] at hb
 injection hb with hb
 injection hb with _ hb
 exact h2 hb.symm
theorem TP.frp {c:Rdc} {w w':World} {j:Nat} {ns:List ByteArray} {S:Nat→Prop} {t:T} {v:Value} (ht:TP w S t v) (h:Frp c w w') (hr:Pd w c j ns):TP w' S t v:=
 ht.keep fun _ _ _ hS hb => ⟨h.boxp hr hb (by decide) (by decide),hS⟩
theorem Pd.below {w w':World} {c:Rdc} {j:Nat} {ns:List ByteArray} (h:Pd w c j ns) (hb:Below w.heap.size w w'):Pd w' c j ns:=by
 obtain ⟨ht,hf,lv,nv,nn,hr⟩:=h
 exact ⟨ht.keep fun b cs h => hb.block b (heap_lt h),hf,lv,nv,nn,(hb.block _ (heap_lt hr.blk)).trans hr.blk,hr.lok,own_below hr.own hb,hr.up,hr.few⟩
theorem Pd.alloc {w:World} {c:Rdc} {j:Nat} {ns:List ByteArray} (h:Pd w c j ns) (o:Obj):Pd (w.alloc o) c j ns:=h.below ((Below.refl _ _).alloc (Nat.le_refl _) o)
theorem Pd.set_far {w:World} {c:Rdc} {j:Nat} {ns:List ByteArray} (h:Pd w c j ns) {b:Nat} {cs:Array Value} {t:TypeId} {m:Nat × Nat} (hb:w.heap[b]? =some (.cells cs t m)) (i:Nat) (u:Value)
 (h1:t≠9) (h2:t≠104) (h3:t≠116):Pd (w.setCell ⟨b,i,none⟩ u) c j ns:=by
 have key:∀ (g:Nat) (cs':Array Value) (t':TypeId) (m':Nat × Nat),w.heap[g]? =some (.cells cs' t' m')→t≠t'→(w.setCell ⟨b,i,none⟩ u).heap[g]? =w.heap[g]?:=fun g cs' t' m' hg hne => Below.heap_setCell _ _ _ _ (by
  rintro rfl
  rw [show w.heap[_]? =_ from hb] at hg
  injection hg with hg
  injection hg with _ hg
  exact hne hg)
 obtain ⟨ht,hf,lv,nv,nn,hr⟩:=h
 refine ⟨ht.keep fun g cs hg => key g _ _ _ hg h3,hf,lv,nv,nn,(key _ _ _ _ hr.blk h2).trans hr.blk,hr.lok,own_keep hr.own fun g hg => ?_,hr.up,hr.few⟩
 rcases hr.own.2 with ⟨hv,_⟩ | ⟨g',cap,cur,hv,_,hh,_⟩
 ·rw [hv] at hg;simp [Value.ownBlock] at hg
 ·rw [hv] at hg
  simp [Value.ownBlock] at hg
  subst hg
  exact key _ _ _ _ hh h1
theorem PdW.cells {w:World} {c:Rdc} {j:Nat} {lv nv:Value} {nn:Nat} {names:List ByteArray} (h:PdW w c j lv nv nn names) :
 w.cell? ⟨c.R,0,none⟩=some (.string c.s)∧w.cell? ⟨c.R,1,none⟩=some lv∧w.cell? ⟨c.R,2,none⟩=some nv:=
 ⟨cell_of_row w _ 0 _ _ _ h.blk,cell_of_row w _ 1 _ _ _ h.blk,cell_of_row w _ 2 _ _ _ h.blk⟩
theorem PdW.thaw {w:World} {c:Rdc} {j:Nat} {lv nv:Value} {nn:Nat} {names:List ByteArray} (h:PdW w c j lv nv nn names) (i:Nat):w.frozen? ⟨c.R,i,none⟩=false:=by
 simp [World.frozen?,h.blk]
theorem TokW.setRp {w:World} {c:Rdc} {j:Nat} {lv nv:Value} {nn:Nat} {names:List ByteArray} (ht:TokW w c) (h:PdW w c j lv nv nn names) (i:Nat) (u:Value):TokW (w.setCell ⟨c.R,i,none⟩ u) c:=
 ht.keep fun _ cs hb => Below.heap_setCell _ _ _ _ (by
  rintro rfl
  rw [h.blk] at hb
  injection hb with hb
  injection hb with _ hb
  exact absurd hb (by decide))
theorem own_setRp {w:World} {c:Rdc} {j:Nat} {lv nv:Value} {nn:Nat} {names:List ByteArray} (h:PdW w c j lv nv nn names) {v:Value} {n:Nat} {xs:List Value} (ho:w.ownsRow (c.B+c.N) 9 1 v n xs) (i:Nat) (u:Value) :
 (w.setCell ⟨c.R,i,none⟩ u).ownsRow (c.B+c.N) 9 1 v n xs:=
 own_keep ho fun g hg => Below.heap_setCell _ _ _ _ (by
  rintro rfl
  rcases ho.2 with ⟨hv,_⟩ | ⟨g',cap,cur,hv,_,hh,_⟩
  ·rw [hv] at hg;simp [Value.ownBlock] at hg
  ·rw [hv] at hg
   simp [Value.ownBlock] at hg
   subst hg
   rw [h.blk] at hh
   injection hh with hh
   injection hh with _ hh
   exact absurd hh (by decide))
theorem Pd.next {w:World} {c:Rdc} {j:Nat} {lv nv:Value} {nn:Nat} {ns:List ByteArray} (ht:TokW w c) (hf:∀ x ∈ c.tk,x.fine) (hr:PdW w c j lv nv nn ns) (hlt:j < c.tn) {lv':Value} (hl:TokAt c (j+1) lv'):Pd (w.setCell ⟨c.R,1,none⟩ lv') c (j+1) ns:=
 ⟨ht.setRp hr _ _,hf,lv',nv,nn,by simpa using blk_set hr.blk 1 lv',hl,own_setRp hr hr.own _ _,hlt,Nat.le_succ_of_le hr.few⟩
theorem nx_ltp {w:World} {c:Rdc} {j:Nat} {ns:List ByteArray} (h:Pd w c j ns) (hk:(nx c j).k≠0):j < c.tn:=by
 have hl:=h.1.len
 rcases Nat.lt_or_ge j c.tn with h1 | h1
 ·exact h1
 ·simp [nx,nxT,show ¬ j < c.tk.length by omega] at hk
theorem nx_sizep {w:World} {c:Rdc} {j:Nat} {ns:List ByteArray} (h:Pd w c j ns):nameOk (nx c j).t:=by
 unfold nx nxT
 split
 ·rename_i hlt
  exact ⟨Nat.le_trans (h.1.ok _ (List.getElem_mem hlt)).2.2.1 h.1.long,h.1.nm _ (List.getElem_mem hlt)⟩
 ·exact (show nameOk ⟨#[]⟩ by decide)
def wrongP (p e:Int):PanicEntry:={v:=.iface 101 (.agg #[.int .i64 p,.int .i64 e]),recovered:=false}
def PQ {α:Type} (c:Rdc) (w:World) (i:Nat) (res:PR α) (rel:α→Nat→Value→World→Prop) (e:Ending) (w':World):Prop:=
 Frp c w w'∧match res with
 | .ok (x,j,ns) => ∃ v,e=.returned v∧Pd w' c j ns∧i≤j∧rel x j v w'
 | .error (p,k) => e=.panicked [wrongP p k]
theorem PQ.ok {α:Type} {c:Rdc} {w:World} {i:Nat} {res:PR α} {rel:α→Nat→Value→World→Prop} {e:Ending} {w':World} (h:PQ c w i res rel e w') {x:α} {j:Nat} {ns:List ByteArray} (hr:res=.ok (x,j,ns)) :
 Frp c w w'∧∃ v,e=.returned v∧Pd w' c j ns∧i≤j∧rel x j v w':=by subst hr;exact h
theorem PQ.err {α:Type} {c:Rdc} {w:World} {i:Nat} {res:PR α} {rel:α→Nat→Value→World→Prop} {e:Ending} {w':World} (h:PQ c w i res rel e w') {p k:Int} (hr:res=.error (p,k)) :
 Frp c w w'∧e=.panicked [wrongP p k]:=by subst hr;exact h
end Go.Proofs.YtdgpmpccfjmmcaaGreatDoor
