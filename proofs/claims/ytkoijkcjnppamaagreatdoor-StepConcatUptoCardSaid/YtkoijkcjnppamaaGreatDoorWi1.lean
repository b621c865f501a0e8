/- A world that holds what the rows list. No condition. -/
import Derived.Test.YtkoijkcjnppamaaGreatDoorCards
import Derived.Test.YtkoijkcjnppamaaGreatDoorTie
import Derived.ProofKit
import Derived.OpenShut
import Derived.Deep.DeepHandedRow
import Derived.Deep.DeepWitnessRowRef
import Derived.Lib.LaidTab
/- A world that holds what the rows list. -/
namespace Go.Ev
set_option linter.unusedVariables false
open Go.Proofs
theorem laidOut : laidOutB Tryz.prog = true := by kernel_rfl
end Go.Ev
namespace Go.Proofs.YtkoijkcjnppamaaGreatDoor
open Go Go.ChangeShapes Go.WideShapes Go.ChangeAt Go.RowKit
set_option maxRecDepth 100000

theorem own : ownKnob Tryz.prog.godebug = none := by kernel_rfl
abbrev rangeS : ByteArray := ⟨#[118, 97, 108, 117, 101, 32, 111, 117, 116, 32, 111, 102, 32, 114, 97, 110, 103, 101]⟩
abbrev syntaxS : ByteArray := ⟨#[105, 110, 118, 97, 108, 105, 100, 32, 115, 121, 110, 116, 97, 120]⟩
noncomputable def low : Nat := (World.holding Tryz.prog default ⟨#[], #[], []⟩).heap.size
/-- cells of a datum of numbers -/
def nums : DataW Unit → Array Value
  | .agg l => (l.flatMap fun
    | .lit (.int k n) => [Value.int k n]
    | .agg m => m.filterMap fun
      | .lit (.int k n) => some (Value.int k n)
      | _ => none
    | _ => []).toArray
  | _ => #[]
noncomputable def laidWorld (os : Os) : World :=
  let w0 := World.holding Tryz.prog os ⟨#[.cells #[.string rangeS] 270, .cells #[.string syntaxS] 270], #[], []⟩
  let put (h : Array Obj) (g : Nat) (cs : Array Value) : Array Obj := h.modify g fun
    | .cells _ t frozen => .cells cs t frozen
    | o => o
  let h1 := put w0.heap 1 (nums Rows.laid_unicode_utf8_first)
  let h2 := put h1 2 (nums Rows.laid_unicode_utf8_acceptRanges)
  let h3 := put h2 3 (nums Rows.laid_internal_strconv_uint64pow10)
  let h4 := put h3 4 #[.iface 268 (.pointer (some ⟨low + 1, 0, none⟩))]
  let h5 := put h4 5 #[.iface 268 (.pointer (some ⟨low, 0, none⟩))]
  let h6 := put h5 6 (nums Rows.laid_math_bits_deBruijn32tab)
  let h7 := put h6 7 (nums Rows.laid_math_bits_deBruijn64tab)
  { w0 with heap := h7 }
theorem laid_met (os : Os) (args : Array Value) : laidMet Tryz.prog Rows.stepFailUptoRow.laid ((laidWorld os).forCall (fun _ _ => 0) ⟨#[], args, []⟩).memory :=
  laidMet_of_run' 8 (by kernel_rfl) (by kernel_rfl)
end Go.Proofs.YtkoijkcjnppamaaGreatDoor
