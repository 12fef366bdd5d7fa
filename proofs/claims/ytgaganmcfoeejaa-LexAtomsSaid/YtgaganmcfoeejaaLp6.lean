/- The program's lexer: the deferred closure of Tokens, which recovers. -/
import Derived.Test.YtgaganmcfoeejaaLp4
import Derived.Tactics2
import Derived.Defers
import Derived.Recover
import Derived.Laws.Pointers
namespace Go.Proofs.Ytgaganmcfoeejaa
open Go.RowKit

theorem tcatch_idle (p q r : Addr) (w : World) :
    CallsD Try.prog 13 #[.pointer (some p), .pointer (some q), .pointer (some r)] .returning w fun e u' w' => e = .returned (.tuple #[]) ∧ u' = .returning ∧ w' = w := by
  refine callsD_of_wpS Try.func13 rfl fun c₀ cs hu => ?_
  apply wpS_seq
  apply wpS_region
  simp [wpOpsS, go_sem, recoverD, hu, Try.ntmps13, Exit.thenS]
  apply wpS_seq
  apply wpS_region
  simp [wpOpsS, go_sem, recoverD, hu, Exit.thenS]
  refine wpS_cond (t := false) (by simp [Act.eval, Array.replicate]) ?_
  simp only [Bool.false_eq_true, if_false]
  refine wpS_of_wp (wp_skip ?_)
  cases c₀
  simp_all [bodyPostS, results, Try.results13]
theorem ta_wrong (v : Value) (W : World) : Sem.run Try.prog (Instr.typeAssert (.iface 37 v) 20 37 false) W = .ok v W := by kernel_rfl
theorem tcatch_panicking (B : Nat) (x y z : Value) (p : Nat) (er : Int) (older : List PanicEntry) (w : World)
    (hp : w.cell? ⟨B, 0, none⟩ = some x) (fp : w.frozen? ⟨B, 0, none⟩ = false) (hq : w.cell? ⟨B + 1, 0, none⟩ = some y) (fq : w.frozen? ⟨B + 1, 0, none⟩ = false) (hr : w.cell? ⟨B + 2, 0, none⟩ = some z) (fr : w.frozen? ⟨B + 2, 0, none⟩ = false) (hB : B + 2 < w.heap.size) :
    CallsD Try.prog 13 #[.pointer (some ⟨B, 0, none⟩), .pointer (some ⟨B + 1, 0, none⟩), .pointer (some ⟨B + 2, 0, none⟩)] (.panicking (wrongE p er :: older)) w fun e u' w' =>
      e = .returned (.tuple #[]) ∧ u' = .panicking ({ v := .iface 37 (.agg #[.int .i64 (p : Int), .int .i64 er]), recovered := true } :: older) ∧
      Below B w w' ∧ w'.cell? ⟨B, 0, none⟩ = some (.slice none 0 0) ∧ w'.cell? ⟨B + 1, 0, none⟩ = some (.int .i64 (p : Int)) ∧ w'.cell? ⟨B + 2, 0, none⟩ = some (.int .i64 er) := by
  unfold wrongE
  refine callsD_of_wpS Try.func13 rfl fun c₀ cs hu => ?_
  apply wpS_seq
  apply wpS_region
  simp [wpOpsS, go_sem, recoverD, hu, Try.ntmps13, Exit.thenS]
  apply wpS_seq
  apply wpS_region
  simp [wpOpsS, go_sem, recoverD, Exit.thenS]
  refine wpS_cond (t := true) (by simp [Act.eval, Array.replicate]) ?_
  simp only [if_true]
  refine wpS_of_wp ?_
  change Code.wp _ _ _ { tmps := #[.pointer (some ⟨B, 0, none⟩), .pointer (some ⟨B + 1, 0, none⟩), .pointer (some ⟨B + 2, 0, none⟩), (.iface 37 (.agg #[.int .i64 (p : Int), .int .i64 er])), undef, (.iface 37 (.agg #[.int .i64 (p : Int), .int .i64 er])), (.iface 37 (.agg #[.int .i64 (p : Int), .int .i64 er])), .bool true, undef, undef, undef, undef, undef, undef], defers := [] } w
  have hta := ta_wrong (.agg #[.int .i64 (p : Int), .int .i64 er])
  have hB0 : B < w.heap.size := by omega
  have hB1 : B + 1 < w.heap.size := by omega
  have h01 : B ≠ B + 1 := by omega
  have h02 : B ≠ B + 2 := by omega
  have h12 : B + 1 ≠ B + 2 := by omega
  have hn0 : w.heap.size ≠ B := by omega
  have hn1 : w.heap.size ≠ B + 1 := by omega
  have hn2 : w.heap.size ≠ B + 2 := by omega
  go_wp2_with fail
  go_region
  all_goals
    simp (config := { zetaDelta := true }) [bodyPostS, results, Try.results13]
    refine ⟨(((((Below.refl B w).setCell (by simp) _).setCell (by simp) _).setCell (by simp) _).alloc (by simp; omega) _).drew, ?_, ?_, ?_⟩
    all_goals go_simp
end Go.Proofs.Ytgaganmcfoeejaa
