/- The row's closed facts, told apart, for each by itself fits into the memory that a build has. -/
import Derived.Test.YtdgpmpccfjmmcaaGreatDoorRows
import Derived.Test.YtdgpmpccfjmmcaaGreatDoorCards
import Derived.JoinedCond
import Derived.KernelRfl
namespace Go.Proofs.YtdgpmpccfjmmcaaGreatDoor.topFacts
open Go
set_option maxRecDepth 100000
theorem an {a b : Bool} (h : a = true) (k : b = true) : (a && b) = true := by rw [h, k]; rfl
theorem k1 : Rows.topFactsRow.wf (OpenSpec.ofChange (OpenSpec.ofChange Rows.topFactsSpec).bare) = true := by kernel_rfl
theorem k2 : laidOutB Tryz.pinned.checked.prog = true := by kernel_rfl
theorem k3 : mapsRowed Tryz.pinned.checked.prog = true := by kernel_rfl
theorem k4 : Tryz.f3.params.all (Tryz.pinned.checked.prog.readableRec ·) = true := by kernel_rfl
theorem k5 : namedTie Tryz.pinned.checked.prog Rows.topFactsRow.named (OpenSpec.ofChange Rows.topFactsSpec).bare.vars = true := by kernel_rfl
theorem k6 : (Rows.topFactsRow.stops == []) = true := by kernel_rfl
theorem k7 : (Tryz.pinned.checked.prog.stops == []) = true := by kernel_rfl
theorem k8 : (Rows.topFactsRow.knobs == []) = true := by kernel_rfl
theorem k9 : (Tryz.pinned.checked.prog.stopKnobs == []) = true := by kernel_rfl
theorem k10 : (Rows.topFactsRow.inPlace == Tryz.pinned.checked.prog.inPlace 3) = true := by kernel_rfl
theorem k11 : (Rows.topFactsRow.unfollowed == Tryz.pinned.checked.prog.unfollowed 3) = true := by kernel_rfl
theorem k12 : (Rows.topFactsRow.recurses == Tryz.pinned.checked.prog.recurses 3) = true := by kernel_rfl
theorem k13 : (Rows.topFactsRow.named == Tryz.pinned.checked.prog.varsNamed 3) = true := by kernel_rfl
theorem k14 : (Rows.topFactsRow.maps == (Tryz.f3.params.toList ++ (OpenSpec.ofChange Rows.topFactsSpec).bare.plain.varTypes Tryz.pinned.checked.prog).any (Tryz.pinned.checked.prog.mapsRec ·)) = true := by kernel_rfl
theorem k15 : (Rows.topFactsRow.ifaces == (Tryz.f3.params.toList ++ (OpenSpec.ofChange Rows.topFactsSpec).bare.plain.varTypes Tryz.pinned.checked.prog).any (Tryz.pinned.checked.prog.ifacesRec ·)) = true := by kernel_rfl
theorem k16 : (Rows.topFactsRow.mapsOut == Tryz.pinned.checked.prog.mapsAmong Tryz.f3.resultTypes.toList) = true := by kernel_rfl
theorem k17 : (Rows.topFactsRow.loops == (Tryz.f3.params.toList ++ (OpenSpec.ofChange Rows.topFactsSpec).bare.plain.varTypes Tryz.pinned.checked.prog).any (Tryz.pinned.checked.prog.loopsFrom ·)) = true := by kernel_rfl
theorem k18 : (Rows.topFactsRow.wideKeys == (Tryz.f3.params.toList ++ (OpenSpec.ofChange Rows.topFactsSpec).bare.plain.varTypes Tryz.pinned.checked.prog ++ Tryz.f3.resultTypes.toList).any (Tryz.pinned.checked.prog.wideKeysFrom ·)) = true := by kernel_rfl
theorem k19 : (OpenSpec.ofChange Rows.topFactsSpec).bare.vars.all (Tryz.pinned.checked.prog.varReadable ·) = true := by kernel_rfl
theorem k20 : Tryz.f3.resultTypes.all (fun t => Tryz.pinned.checked.prog.readableRec t && decide (t < Tryz.pinned.checked.prog.types.size)) = true := by kernel_rfl
theorem k21 : (Rows.topFactsRow.ifacesOut == Tryz.f3.resultTypes.toList.any (Tryz.pinned.checked.prog.ifacesRec ·)) = true := by kernel_rfl
theorem k22 : (Rows.topFactsRow.loopsOut == Tryz.f3.resultTypes.toList.any (Tryz.pinned.checked.prog.loopsFrom ·)) = true := by kernel_rfl
theorem k23 : (Rows.topFactsRow.plainKeys == Tryz.pinned.checked.prog.plainKeys) = true := by kernel_rfl
theorem k24 : Rows.topFactsRow.shortTexts.isNone = true := by kernel_rfl
theorem k25 : Tryz.pinned.checked.prog.stopsHeard = true := by kernel_rfl
theorem k26 : Tryz.pinned.checked.prog.mayEnter = true := by kernel_rfl
theorem k27 : (Rows.topFactsRow.lifted == Tryz.pinned.checked.prog.liftsFinal) = true := by kernel_rfl
theorem k28 : (Tryz.pinned.checked.prog.make == some Rows.topFactsRow.make) = true := by kernel_rfl
theorem k29 : (Rows.topFactsRow.kinds == (if Rows.topFactsRow.domain.isEmpty then [] else Tryz.f3.params.toList.map fun t => match Tryz.pinned.checked.prog.underlying t with | some (.int k) => some k | _ => none)) = true := by kernel_rfl
theorem k30 : (Rows.topFactsRow.pinned == Rows.topFactsRow.pinnedBy) = true := by kernel_rfl
theorem k31 : (Rows.topFactsRow.veiled == (Tryz.f3.params.toList ++ (OpenSpec.ofChange Rows.topFactsSpec).bare.plain.varTypes Tryz.pinned.checked.prog ++ Tryz.f3.resultTypes.toList).any (Tryz.pinned.checked.prog.veiledRec ·)) = true := by kernel_rfl
theorem k32 : Rows.topFactsRow.veiledFits Tryz.pinned.checked.prog Tryz.f3.params.toList (Tryz.f3.params.toList ++ (OpenSpec.ofChange Rows.topFactsSpec).bare.plain.varTypes Tryz.pinned.checked.prog ++ Tryz.f3.resultTypes.toList) = true := by kernel_rfl
theorem closed : joinedFacts Tryz.pinned.checked.prog 3 Tryz.f3 (OpenSpec.ofChange Rows.topFactsSpec).bare Rows.topFactsRow = true := by
  unfold joinedFacts
  exact an (an (an (an (an (an (an (an (an (an (an (an (an (an (an (an (an (an (an (an (an (an (an (an (an (an (an (an (an (an (an k1 k2) k3) k4) k5) k6) k7) k8) k9) k10) k11) k12) k13) k14) k15) k16) k17) k18) k19) k20) k21) k22) k23) k24) k25) k26) k27) k28) k29) k30) k31) k32
theorem noGo : Tryz.pinned.checked.prog.funcs.any Func.goes = false := by kernel_rfl
theorem goes_no {P : Program} (h : P.funcs.any Func.goes = false) (f : FuncId) : P.goes f = false := by
  unfold Program.goes
  rw [h, Bool.and_false, Bool.or_false]
  rw [List.any_eq_false]
  intro g _
  cases hg : P.funcs[g]? with
  | none => simp
  | some fn =>
    simp only [Option.any_some, Bool.not_eq_true]
    have := Array.any_eq_false.1 h
    obtain ⟨hlt, rfl⟩ := Array.getElem?_eq_some_iff.1 hg
    simpa using this g hlt
theorem hgoes : false = Rows.topFactsRow.goesBy Tryz.pinned.checked.prog := by
  unfold OpenClaim.goesBy Program.goesAt Program.goesFrom
  cases Tryz.pinned.checked.prog.funcNamed Rows.topFactsRow.func with
  | none => rfl
  | some f => simp only [Option.any_some]; rw [goes_no noGo]; rfl
end Go.Proofs.YtdgpmpccfjmmcaaGreatDoor.topFacts
