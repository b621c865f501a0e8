/- What StepConcat's row asks of the program. No condition. -/
import Derived.Test.YtkoijkcjnppamaaGreatDoorJp1
/- StepConcat: what the row asks of the program: which functions and variables it reaches. -/
namespace Go.Proofs.YtkoijkcjnppamaaGreatDoor.StepConcat
open Go Go.ChangeShapes Go.WideShapes Go.ChangeAt Go.RowKit
set_option maxRecDepth 100000
set_option linter.unusedVariables false

theorem j_inPlace : (Rows.stepConcatUptoRow.inPlace == Tryz.prog.inPlace 11) = true := by kernel_rfl
theorem j_unf : (Rows.stepConcatUptoRow.unfollowed == Tryz.prog.unfollowed 11) = true := by kernel_rfl
theorem j_rec : (Rows.stepConcatUptoRow.recurses == Tryz.prog.recurses 11) = true := by kernel_rfl
theorem j_named : (Rows.stepConcatUptoRow.named == Tryz.prog.varsNamed 11) = true := by kernel_rfl

end Go.Proofs.YtkoijkcjnppamaaGreatDoor.StepConcat
