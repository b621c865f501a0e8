/- What StepFail's row asks of the program. No condition. -/
import Derived.Test.YtkoijkcjnppamaaGreatDoorJp1
/- StepFail: what the row asks of the program: which functions and variables it reaches. -/
namespace Go.Proofs.YtkoijkcjnppamaaGreatDoor.StepFail
open Go Go.ChangeShapes Go.WideShapes Go.ChangeAt Go.RowKit
set_option maxRecDepth 100000
set_option linter.unusedVariables false

theorem j_inPlace : (Rows.stepFailUptoRow.inPlace == Tryz.prog.inPlace 10) = true := by kernel_rfl
theorem j_unf : (Rows.stepFailUptoRow.unfollowed == Tryz.prog.unfollowed 10) = true := by kernel_rfl
theorem j_rec : (Rows.stepFailUptoRow.recurses == Tryz.prog.recurses 10) = true := by kernel_rfl
theorem j_named : (Rows.stepFailUptoRow.named == Tryz.prog.varsNamed 10) = true := by kernel_rfl

end Go.Proofs.YtkoijkcjnppamaaGreatDoor.StepFail
