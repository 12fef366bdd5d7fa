/- The machine in memory:a choice is pushed. -/
import Derived.Test.YtdgpmpccfjmmcaaGreatDoorKJBa
set_option linter.unusedVariables false
set_option linter.unusedSimpArgs false
namespace Go.Proofs.YtdgpmpccfjmmcaaGreatDoor
open Go.RowKit
theorem MSt.push {X:MX} {S:Ms} {w W1 w9:World} (h:MSt X S w) (hb:Below w.heap.size w W1) {fv cv v9:Value} {css:List (List Value)} (hbx:w.heap[X.mb]? =some (.cells (mcells X fv cv) 82 (0,0))) (hfl:FL w S.fr fv) (h1:css.length=S.ch.length)
 (hcow:w.ownsRow X.B 169 19 cv S.ch.length css.flatten) (hcc:∀ (i:Nat) (c:Ch0) (cs:List Value),S.ch[i]? =some c→css[i]? =some cs→ChM w X.sp c cs) {c:Ch0} {us:List Value} (hc:ChM w X.sp c us) (hq:chsQ [c])
 (ho:w9.ownsRow X.B 169 19 v9 (S.ch.length+1) (css.flatten++us)) (hg:W1.grownBy w9 cv.ownBlock) :
 MSt X {S with ch:=S.ch++[c]} (w9.setCell ⟨X.mb,11,none⟩ v9)∧KX X.m w (w9.setCell ⟨X.mb,11,none⟩ v9)∧w9.heap[X.mb]? =some (.cells (mcells X fv cv) 82 (0,0)):=by
 have hcow1:=own_below hcow hb
 have key:∀ {b:Nat} {o:Obj},w.heap[b]? =some o→(∀ cs t f,o=.cells cs t f→t≠169)→w9.heap[b]? =some o:=fun {b o} hbo ht => by
  have hb1:=(hb.block b (heap_lt hbo)).trans hbo
  refine (hg.block b (heap_lt hb1) fun e => ?_).trans hb1
  obtain ⟨cs,f,hh⟩:=Go.Lib.ownsRow_kind hcow1 b e.symm
  rw [hh] at hb1
  injection hb1 with hb1
  exact ht _ _ _ hb1.symm rfl
 have k9:KeepT X.sp w w9:=fun b cs t f hbo ht => key hbo fun cs' t' f' e => by injection e with _ e;subst e;rcases ht with rfl | rfl | rfl | rfl | rfl | ⟨rfl,_⟩ <;> decide
 have far:∀ (b:Nat),b≠X.mb→(w9.setCell ⟨X.mb,11,none⟩ v9).heap[b]? =w9.heap[b]?:=fun b hne => Below.heap_setCell _ _ _ b hne
 have nb:∀ {b:Nat} {cs:Array Value} {t:TypeId} {f:Nat × Nat},w.heap[b]? =some (.cells cs t f)→t≠82→t≠169→(w9.setCell ⟨X.mb,11,none⟩ v9).heap[b]? =some (.cells cs t f):=fun {b cs t f} hbo ht ht' => (far b fun e => by subst e;rw [hbx] at hbo;injection hbo with hbo;injection hbo with _ hbo;exact ht hbo.symm).trans (key hbo fun cs' t' f' e => by injection e with _ e;subst e;exact ht')
 have k:KeepT X.sp w (w9.setCell ⟨X.mb,11,none⟩ v9):=fun b cs t f hbo ht => nb hbo (by rcases ht with rfl | rfl | rfl | rfl | rfl | ⟨rfl,_⟩ <;> decide) (by rcases ht with rfl | rfl | rfl | rfl | rfl | ⟨rfl,_⟩ <;> decide)
 have hb9:=key hbx fun cs' t' f' e => by injection e with _ e;subst e;decide
 have hlen:S.ch.length+1=(S.ch++[c]).length:=by simp
 refine ⟨⟨⟨fv,v9,by have:=blk_set hb9 11 v9;simpa [mcells] using this,k.fl hfl,css++[us],by simp [h1],?_,?_⟩,nb h.steps (by decide) (by decide),h.st.keep fun b cs t f hbo ht => nb hbo (by rcases ht with rfl | rfl | rfl | rfl | rfl <;> decide) (by rcases ht with rfl | rfl | rfl | rfl | rfl <;> decide),h.pr.keep k,h.geo,h.clq,h.frq,?_⟩,?_⟩
 ·rw [← hlen,List.flatten_append,List.flatten_singleton]
  exact own_keep ho fun g hgo => far g fun e => by
   obtain ⟨cs,f,hh⟩:=Go.Lib.ownsRow_kind ho g hgo
   rw [e,hb9] at hh
   injection hh with hh
   injection hh with _ hh
   exact absurd hh (by decide)
 ·intro i c' cs' hi hs
  by_cases hlt:i < S.ch.length
  ·rw [List.getElem?_append_left hlt] at hi
   rw [List.getElem?_append_left (by omega)] at hs
   exact (hcc i c' cs' hi hs).keep k
  ·have hi0:i=S.ch.length:=by
    have:=lt_of_at hi
    simp at this
    omega
   subst hi0
   simp at hi
   rw [← h1] at hs
   simp at hs
   subst hi;subst hs
   exact hc.keep k
 ·intro c' hc'
  rcases List.mem_append.1 hc' with h' | h'
  ·exact h.chq c' h'
  ·exact hq c' h'
 ·have hBw:=h.lt.1
  refine ⟨⟨((hb.mono hBw).trans (below_own hcow1 hg (Nat.le_trans hBw hb.size))).setCell (p:=⟨X.mb,11,none⟩) h.geo.1 _,fun b o hbo h2 _ h4 => (far b h2).trans (key hbo h4.2)⟩,hb9⟩
theorem NM.drop {w:World} {s:Nat} {l:List Nat} {gl ol lc:Nat} (h:NM w s l (.slice (some ⟨gl,ol,none⟩) l.length lc)) {j:Nat} (hj:j < l.length):NM w s (l.drop j) (.slice (some ⟨gl,ol+j,none⟩) (l.length - j) (lc - j)):=by
 obtain ⟨⟨A,c,e,h1,h2,h3⟩,h4⟩:=h
 cases e
 obtain ⟨g,off,cs,f,e,hg,hc⟩:=h3 (by intro e;rw [e] at hj;cases hj)
 cases e
 refine ⟨⟨some ⟨gl,ol+j,none⟩,lc - j,by rw [List.length_drop],by rw [List.length_drop];omega,nofun,fun _ => ⟨gl,ol+j,cs,f,rfl,hg,fun i hi => ?_⟩⟩,fun g off m c e => by cases e;exact h4 _ _ _ _ rfl⟩
 rw [List.length_drop] at hi
 have:=hc (j+i) (by omega)
 rw [Nat.add_assoc,this]
 simp [List.getD_eq_getElem?_getD,List.getElem?_drop]
end Go.Proofs.YtdgpmpccfjmmcaaGreatDoor
