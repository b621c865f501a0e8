/- DenoNone says true, as a closed call. No condition. -/
import Derived.Test.YtiocacpdbndchaaGreatDoorTa3
/- DenoNone. -/
namespace Go.Ev
set_option linter.unusedVariables false
open Go.Proofs
set_option autoImplicit false
theorem denoNone_says : saysAll (.bool true) ((fe ((Tn [{ f := 12, args := [], v := .bool true }]).envS N0) 1000000).call 9 [] h0).outs = true := by kernel_rfl
theorem denoNone_true : PuresOK Tryz.prog [{ f := 9, args := [], v := .bool true }] := pure_true begun7 denoNone_says
end Go.Ev
