/- The second begun says true. No condition. -/
import Derived.Test.YtkoijkcjnppamaaGreatDoorTa1
/- The second begun. -/
namespace Go.Ev
set_option linter.unusedVariables false
open Go.Proofs
set_option autoImplicit false
theorem begun4_says : saysAll (.bool true) ((fe ((Tn [{ f := 120, args := [], v := .bool true }]).envS N0) 1000000).call 52 [] h0).outs = true := by kernel_rfl
theorem begun4 : PuresOK Tryz.prog [{ f := 52, args := [], v := .bool true }] := pure_true begun1 begun4_says
end Go.Ev
