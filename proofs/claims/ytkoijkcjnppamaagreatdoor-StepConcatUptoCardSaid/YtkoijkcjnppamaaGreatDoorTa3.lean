/- The third begun says true. No condition. -/
import Derived.Test.YtkoijkcjnppamaaGreatDoorTa2
/- The third begun, and DenoNone. -/
namespace Go.Ev
set_option linter.unusedVariables false
open Go.Proofs
set_option autoImplicit false
theorem begun7_says : saysAll (.bool true) ((fe ((Tn [{ f := 52, args := [], v := .bool true }]).envS N0) 1000000).call 15 [] h0).outs = true := by kernel_rfl
theorem begun7 : PuresOK Tryz.prog [{ f := 15, args := [], v := .bool true }] := pure_true begun4 begun7_says
end Go.Ev
