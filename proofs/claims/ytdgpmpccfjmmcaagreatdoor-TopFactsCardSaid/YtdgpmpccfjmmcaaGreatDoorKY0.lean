/- An answer's functions,where the term is an integer:numbered anew,written;texts joined. -/
import Derived.Test.YtdgpmpccfjmmcaaGreatDoorKJAq
set_option linter.unusedVariables false
set_option linter.unusedSimpArgs false
namespace Go.Proofs.YtdgpmpccfjmmcaaGreatDoor
open Go.RowKit
def intV (n:Int) (A:Option Addr) (c:Nat):Value:=.agg #[.int .i64 2,.int .i64 n,.string ⟨#[]⟩,.slice A 0 c]
theorem mapped_int (n:Int) (A:Option Addr) (c:Nat) (fv:Value) (w:World):Calls Tryz.prog 102 #[intV n A c,fv] w fun e w' => e=.returned (intV n A c)∧Below w.heap.size w w':=by
 unfold intV
 go_enter Tryz.func102,Tryz.ntmps102
 go_wp2_with fail
 refine bodyPost_ret (v:=.agg #[.int .i64 2,.int .i64 n,.string ⟨#[]⟩,.slice A 0 c]) (by simp [results,go_sem]) rfl ?_
 exact ⟨rfl,belA (belA (Below.refl _ _) _) _⟩
theorem subst_int (n:Int) (A:Option Addr) (c:Nat) (B:Option Addr) (m d:Nat) (w:World):Calls Tryz.prog 64 #[intV n A c,.slice B m d] w fun e w' => e=.returned (intV n A c)∧Below w.heap.size w w':=by
 have hmf:∀ (fn:Fn) (first cap:Array Value) (w:World),(Instr.makeFunc fn first cap).run Tryz.prog w=.ok (.func fn first cap) w:=fun _ _ _ _ => rfl
 have MI:=mapped_int n A c
 unfold intV at MI ⊢
 go_enter Tryz.func64,Tryz.ntmps64
 go_wp2_with fail
 refine (MI _ _).mono ?_
 rintro e w1 ⟨rfl,h1⟩
 have B1:=Lib.hid ((belA (belA (belA (Below.refl _ _) _) _) _).trans (h1.mono (by simp;omega)))
 have XB:=(h1.block (w.heap.size+1+1) (by simp)).trans (heap_at _ _ (by simp))
 obtain ⟨z0,z1,z2,z3⟩:=box4 XB
 have fz:∀ j,w1.frozen? ⟨w.heap.size+1+1,j,none⟩=false:=fun j => by simp [World.frozen?,XB]
 clear h1 XB
 go_wp2_with fail
 refine bodyPost_ret (v:=.agg #[.int .i64 2,.int .i64 n,.string ⟨#[]⟩,.slice A 0 c]) (by simp [results,go_sem,World.cell?_setCell_other,World.cell?_setCell_same,z0,z1,z2,z3]) rfl ?_
 exact ⟨rfl,(((B1.out.setCell (p:=⟨w.heap.size+1+1,0,none⟩) (by simp;omega) _).setCell (p:=⟨w.heap.size+1+1,1,none⟩) (by simp;omega) _).setCell (p:=⟨w.heap.size+1+1,2,none⟩) (by simp;omega) _).setCell (p:=⟨w.heap.size+1+1,3,none⟩) (by simp;omega) _⟩
set_option maxRecDepth 100000 in
theorem numbered_int (n:Int) (A:Option Addr) (c:Nat) (B:Option Addr) (d:Nat) (w:World):Calls Tryz.prog 30 #[intV n A c,.slice B 0 d] w fun e w' => e=.returned (intV n A c)∧Below w.heap.size w w':=by
 have SI:=subst_int n A c
 have hmk:∀ w:World,(Instr.makeSlice 47 (.int .i64 0) (.int .i64 0)).run Tryz.prog w=.ok (.slice (some ⟨w.heap.size,0,none⟩) 0 0) (w.alloc (.cells #[] 51)):=fun _ => by kernel_rfl
 unfold intV at SI ⊢
 obtain ⟨W0,hW0⟩:∃ W0,W0=(w.alloc (Obj.cells #[.int .i64 2,.int .i64 n,.string ⟨#[]⟩,.slice A 0 c] 51)).alloc (Obj.cells #[.int .i64 0,.int .i64 0,.string ⟨#[]⟩,.slice none 0 0] 51):=⟨_,rfl⟩
 have B0:=Lib.hid (show Below w.heap.size w W0 by rw [hW0];exact belA (belA (Below.refl _ _) _) _)
 have X0:=Lib.hid (show W0.heap[w.heap.size]? =some (Obj.cells #[.int .i64 2,.int .i64 n,.string ⟨#[]⟩,.slice A 0 c] 51 (0,0)) by rw [hW0];exact (Below.heap_alloc _ _ _ (by simp)).trans (heap_alloc_new _ _))
 have X1:=Lib.hid (show W0.heap[w.heap.size+1]? =some (Obj.cells #[.int .i64 0,.int .i64 0,.string ⟨#[]⟩,.slice none 0 0] 51 (0,0)) by rw [hW0];exact heap_at _ _ (by simp))
 go_enter Tryz.func30,Tryz.ntmps30
 go_wp2_with fail
 rw [← hW0]
 clear hW0
 go_loopw [5,13] (fun u5 iv wr => u5=.int .i64 0∧iv=.int .i64 0∧wr=W0) (fun _ _ _ => 0)
 case atStart => exact ⟨rfl,rfl,rfl⟩
 case round =>
  obtain ⟨rfl,rfl,rfl⟩:=hrel
  have B1:=Lib.hid (show Below wr.heap.size wr (wr.alloc (Obj.cells #[] 51)) from belA (Below.refl _ _) _)
  have hl0:=heap_lt X0.out
  have y0:(wr.alloc (Obj.cells #[] 51)).heap[w.heap.size]? =_:=(B1.out.block _ hl0).trans X0.out
  obtain ⟨z0,z1,z2,z3⟩:=box4 y0
  clear y0
  go_wp2_with fail
  generalize wr.alloc (Obj.cells #[] 51)=W1 at*
  go_loopw [26] (fun iv w2 => iv=.int .i64 0∧w2=W1) (fun _ _ => 0)
  case atStart => exact ⟨rfl,rfl⟩
  case round =>
   obtain ⟨rfl,rfl⟩:=hrel
   go_wp2_with fail
   refine (SI _ _ _ _).mono ?_
   rintro e w3 ⟨rfl,h3⟩
   have B3:=Lib.hid (B0.out.trans ((B1.out.trans (h3.mono B1.out.size)).mono B0.out.size))
   have hl1:=heap_lt X1.out
   have XB:=(h3.block (w.heap.size+1) (Nat.lt_of_lt_of_le hl1 B1.out.size)).trans ((B1.out.block _ hl1).trans X1.out)
   obtain ⟨q0,q1,q2,q3⟩:=box4 XB
   have fz:∀ j,w3.frozen? ⟨w.heap.size+1,j,none⟩=false:=fun j => by simp [World.frozen?,XB]
   clear h3 XB
   go_wp2_with fail
   refine bodyPost_ret (v:=.agg #[.int .i64 2,.int .i64 n,.string ⟨#[]⟩,.slice A 0 c]) (by simp [results,go_sem,World.cell?_setCell_other,World.cell?_setCell_same,q0,q1,q2,q3]) rfl ?_
   exact ⟨rfl,(((B3.out.setCell (p:=⟨w.heap.size+1,0,none⟩) (by simp) _).setCell (p:=⟨w.heap.size+1,1,none⟩) (by simp) _).setCell (p:=⟨w.heap.size+1,2,none⟩) (by simp) _).setCell (p:=⟨w.heap.size+1,3,none⟩) (by simp) _⟩
theorem join_one {s sep:ByteArray} {g c:Nat} {w:World} (hg:w.cell? ⟨g,0,none⟩=some (.string s)):Calls Tryz.prog 62 #[.slice (some ⟨g,0,none⟩) 1 c,.string sep] w fun e w' => e=.returned (.string s)∧w'=w:=by
 go_enter Tryz.func62,Tryz.ntmps62
 go_wp2_with fail
 go_ret
 exact ⟨rfl,rfl⟩
end Go.Proofs.YtdgpmpccfjmmcaaGreatDoor
