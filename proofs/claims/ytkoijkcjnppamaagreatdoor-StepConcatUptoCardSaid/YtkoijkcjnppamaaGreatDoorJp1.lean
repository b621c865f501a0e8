/- Facts of the whole program that each row asks for. No condition. -/
import Derived.Test.YtkoijkcjnppamaaGreatDoorCards
import Derived.ProofKit
/- Facts of the whole program that each row asks for. -/
namespace Go.Proofs.YtkoijkcjnppamaaGreatDoor
set_option linter.unusedVariables false
open Go
set_option maxRecDepth 100000
theorem j_maps : mapsRowed Tryz.prog = true := by kernel_rfl
theorem j_stops : (Tryz.prog.stops == []) = true := by kernel_rfl
theorem j_knobs : (Tryz.prog.stopKnobs == []) = true := by kernel_rfl
theorem j_plain : (true == Tryz.prog.plainKeys) = true := by kernel_rfl
theorem j_heard : Tryz.prog.stopsHeard = true := by kernel_rfl
theorem j_may : Tryz.prog.mayEnter = true := by kernel_rfl
theorem j_lifts : (Rows.stepFailUptoRow.lifted == Tryz.prog.liftsFinal) = true := by kernel_rfl
theorem j_make : (Tryz.prog.make == some Rows.stepFailUptoRow.make) = true := by kernel_rfl
theorem j_looks : true = Tryz.prog.looks [] := by kernel_rfl
end Go.Proofs.YtkoijkcjnppamaaGreatDoor
