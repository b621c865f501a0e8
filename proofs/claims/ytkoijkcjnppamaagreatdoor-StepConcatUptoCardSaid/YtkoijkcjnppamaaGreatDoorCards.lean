/-
  DERIVED. GIVEN WITH THE SEED: THE CARDS: each row of YtkoijkcjnppamaaGreatDoorRows.lean that lists a variable, with what it lists TIED to the program's text (the seventh form; the later family's looks); each row that meets fmt, with fmt's text TOLD by the authors' own Lean function (tested against real Go, not proved from fmt's source: count such statements apart). THE CARD IS WHAT COUNTS. Prove the row's statement (the work); the ties are given (YtkoijkcjnppamaaGreatDoorTie.lean); close each card by the builder's one call (the guide's Derived/Test/ToyasCard.lean, 'card_holds'). Laid BY PROGRAM, IN A SANDBOX (cutbox-door.mjs). By AI agents, Wed Nov 11 2026. No macro, syntax, notation, axiom, sorry.
-/
import Derived.Test.YtkoijkcjnppamaaGreatDoorRows
import GoSem.ClaimSeven
namespace Go.Proofs.YtkoijkcjnppamaaGreatDoor
namespace Rows

/-- THE TIED CARD OF 'shipwrightlaw7.RunAll'. -/
def runAllCard : Claim7 := { stood := { row := runAllRow, standIns := [], harness := (true, "f746c4099ca2a510d9b10d63393edb52eb64038bcdd69ee7bd628ee2e876463f"), looks := true }, kinds := [], alts := [], laidByText := true, laidKinds := [.data, .data, .data, .data, .sentinel, .sentinel, .pinned], laidTests := true, laidLooks := .later }
def RunAllCardSaid : Prop := Claim7.holds Tryz.pinned (.plain (OpenSpec.ofChange runAllSpec)) runAllCard

/-- THE TIED CARD OF 'shipwrightlaw7.SliceAll'. -/
def sliceAllCard : Claim7 := { stood := { row := sliceAllRow, standIns := [], harness := (true, "f746c4099ca2a510d9b10d63393edb52eb64038bcdd69ee7bd628ee2e876463f"), looks := true }, kinds := [], alts := [], laidByText := true, laidKinds := [.data, .data, .data, .data, .sentinel, .sentinel, .pinned], laidTests := true, laidLooks := .later }
def SliceAllCardSaid : Prop := Claim7.holds Tryz.pinned (.plain (OpenSpec.ofChange sliceAllSpec)) sliceAllCard

/-- THE TIED CARD OF 'shipwrightlaw7.SliceTurn'. -/
def sliceTurnCard : Claim7 := { stood := { row := sliceTurnRow, standIns := [], harness := (true, "f746c4099ca2a510d9b10d63393edb52eb64038bcdd69ee7bd628ee2e876463f"), looks := true }, kinds := [], alts := [], laidByText := true, laidKinds := [.data, .data, .data, .data, .sentinel, .sentinel, .pinned], laidTests := true, laidLooks := .later }
def SliceTurnCardSaid : Prop := Claim7.holds Tryz.pinned (.plain (OpenSpec.ofChange sliceTurnSpec)) sliceTurnCard

/-- THE TIED CARD OF 'shipwrightlaw7.CheckRule'. -/
def checkRuleCard : Claim7 := { stood := { row := checkRuleRow, standIns := [], harness := (true, "f746c4099ca2a510d9b10d63393edb52eb64038bcdd69ee7bd628ee2e876463f"), looks := true }, kinds := [], alts := [], laidByText := true, laidKinds := [.data, .data, .data, .data, .sentinel, .sentinel, .pinned], laidTests := true, laidLooks := .later }
def CheckRuleCardSaid : Prop := Claim7.holds Tryz.pinned (.plain (OpenSpec.ofChange checkRuleSpec)) checkRuleCard

/-- THE TIED CARD OF 'shipwrightlaw7.CheckTurn'. -/
def checkTurnCard : Claim7 := { stood := { row := checkTurnRow, standIns := [], harness := (true, "f746c4099ca2a510d9b10d63393edb52eb64038bcdd69ee7bd628ee2e876463f"), looks := true }, kinds := [], alts := [], laidByText := true, laidKinds := [.data, .data, .data, .data, .sentinel, .sentinel, .pinned], laidTests := true, laidLooks := .later }
def CheckTurnCardSaid : Prop := Claim7.holds Tryz.pinned (.plain (OpenSpec.ofChange checkTurnSpec)) checkTurnCard

/-- THE TIED CARD OF 'shipwrightlaw7.CheckAll'. -/
def checkAllCard : Claim7 := { stood := { row := checkAllRow, standIns := [], harness := (true, "f746c4099ca2a510d9b10d63393edb52eb64038bcdd69ee7bd628ee2e876463f"), looks := true }, kinds := [], alts := [], laidByText := true, laidKinds := [.data, .data, .data, .data, .sentinel, .sentinel, .pinned], laidTests := true, laidLooks := .later }
def CheckAllCardSaid : Prop := Claim7.holds Tryz.pinned (.plain (OpenSpec.ofChange checkAllSpec)) checkAllCard

/-- THE TIED CARD OF 'shipwrightlaw7.CheckRing'. -/
def checkRingCard : Claim7 := { stood := { row := checkRingRow, standIns := [], harness := (true, "f746c4099ca2a510d9b10d63393edb52eb64038bcdd69ee7bd628ee2e876463f"), looks := true }, kinds := [], alts := [], laidByText := true, laidKinds := [.data, .data, .data, .data, .sentinel, .sentinel, .pinned], laidTests := true, laidLooks := .later }
def CheckRingCardSaid : Prop := Claim7.holds Tryz.pinned (.plain (OpenSpec.ofChange checkRingSpec)) checkRingCard

/-- THE TIED CARD OF 'shipwrightlaw7.StepFail'. -/
def stepFailCard : Claim7 := { stood := { row := stepFailRow, standIns := [], harness := (true, "f746c4099ca2a510d9b10d63393edb52eb64038bcdd69ee7bd628ee2e876463f"), looks := true }, kinds := [], alts := [], laidByText := true, laidKinds := [.data, .data, .data, .data, .sentinel, .sentinel, .pinned], laidTests := true, laidLooks := .later }
def StepFailCardSaid : Prop := Claim7.holds Tryz.pinned (.plain (OpenSpec.ofChange stepFailSpec)) stepFailCard

/-- THE TIED CARD OF 'shipwrightlaw7.StepConcat'. -/
def stepConcatCard : Claim7 := { stood := { row := stepConcatRow, standIns := [], harness := (true, "f746c4099ca2a510d9b10d63393edb52eb64038bcdd69ee7bd628ee2e876463f"), looks := true }, kinds := [], alts := [], laidByText := true, laidKinds := [.data, .data, .data, .data, .sentinel, .sentinel, .pinned], laidTests := true, laidLooks := .later }
def StepConcatCardSaid : Prop := Claim7.holds Tryz.pinned (.plain (OpenSpec.ofChange stepConcatSpec)) stepConcatCard

/-- THE TIED CARD OF 'shipwrightlaw7.StepReplace'. -/
def stepReplaceCard : Claim7 := { stood := { row := stepReplaceRow, standIns := [], harness := (true, "f746c4099ca2a510d9b10d63393edb52eb64038bcdd69ee7bd628ee2e876463f"), looks := true }, kinds := [], alts := [], laidByText := true, laidKinds := [.data, .data, .data, .data, .sentinel, .sentinel, .pinned], laidTests := true, laidLooks := .later }
def StepReplaceCardSaid : Prop := Claim7.holds Tryz.pinned (.plain (OpenSpec.ofChange stepReplaceSpec)) stepReplaceCard

/-- THE TIED CARD OF 'shipwrightlaw7.StepLines'. -/
def stepLinesCard : Claim7 := { stood := { row := stepLinesRow, standIns := [], harness := (true, "f746c4099ca2a510d9b10d63393edb52eb64038bcdd69ee7bd628ee2e876463f"), looks := true }, kinds := [], alts := [], laidByText := true, laidKinds := [.data, .data, .data, .data, .sentinel, .sentinel, .pinned], laidTests := true, laidLooks := .later }
def StepLinesCardSaid : Prop := Claim7.holds Tryz.pinned (.plain (OpenSpec.ofChange stepLinesSpec)) stepLinesCard

/-- THE TIED CARD OF 'shipwrightlaw7.RunPart'. -/
def runPartCard : Claim7 := { stood := { row := runPartRow, standIns := [], harness := (true, "f746c4099ca2a510d9b10d63393edb52eb64038bcdd69ee7bd628ee2e876463f"), looks := true }, kinds := [], alts := [], laidByText := true, laidKinds := [.data, .data, .data, .data, .sentinel, .sentinel, .pinned], laidTests := true, laidLooks := .later }
def RunPartCardSaid : Prop := Claim7.holds Tryz.pinned (.plain (OpenSpec.ofChange runPartSpec)) runPartCard

/-- THE SECOND FORM's CARD OF 'shipwrightlaw7.RunAll'. -/
def runAllUptoCard : Claim7 := { stood := { row := runAllUptoRow, standIns := [], harness := (true, "f746c4099ca2a510d9b10d63393edb52eb64038bcdd69ee7bd628ee2e876463f"), looks := true }, kinds := [], alts := [], laidByText := true, laidKinds := [.data, .data, .data, .data, .sentinel, .sentinel, .pinned], laidTests := true, laidLooks := .later }
def RunAllUptoCardSaid : Prop := Claim7.holds Tryz.pinned (.plain (OpenSpec.upto runAllSpec)) runAllUptoCard

/-- THE SECOND FORM's CARD OF 'shipwrightlaw7.SliceAll'. -/
def sliceAllUptoCard : Claim7 := { stood := { row := sliceAllUptoRow, standIns := [], harness := (true, "f746c4099ca2a510d9b10d63393edb52eb64038bcdd69ee7bd628ee2e876463f"), looks := true }, kinds := [], alts := [], laidByText := true, laidKinds := [.data, .data, .data, .data, .sentinel, .sentinel, .pinned], laidTests := true, laidLooks := .later }
def SliceAllUptoCardSaid : Prop := Claim7.holds Tryz.pinned (.plain (OpenSpec.upto sliceAllSpec)) sliceAllUptoCard

/-- THE SECOND FORM's CARD OF 'shipwrightlaw7.SliceTurn'. -/
def sliceTurnUptoCard : Claim7 := { stood := { row := sliceTurnUptoRow, standIns := [], harness := (true, "f746c4099ca2a510d9b10d63393edb52eb64038bcdd69ee7bd628ee2e876463f"), looks := true }, kinds := [], alts := [], laidByText := true, laidKinds := [.data, .data, .data, .data, .sentinel, .sentinel, .pinned], laidTests := true, laidLooks := .later }
def SliceTurnUptoCardSaid : Prop := Claim7.holds Tryz.pinned (.plain (OpenSpec.upto sliceTurnSpec)) sliceTurnUptoCard

/-- THE SECOND FORM's CARD OF 'shipwrightlaw7.CheckRule'. -/
def checkRuleUptoCard : Claim7 := { stood := { row := checkRuleUptoRow, standIns := [], harness := (true, "f746c4099ca2a510d9b10d63393edb52eb64038bcdd69ee7bd628ee2e876463f"), looks := true }, kinds := [], alts := [], laidByText := true, laidKinds := [.data, .data, .data, .data, .sentinel, .sentinel, .pinned], laidTests := true, laidLooks := .later }
def CheckRuleUptoCardSaid : Prop := Claim7.holds Tryz.pinned (.plain (OpenSpec.upto checkRuleSpec)) checkRuleUptoCard

/-- THE SECOND FORM's CARD OF 'shipwrightlaw7.CheckTurn'. -/
def checkTurnUptoCard : Claim7 := { stood := { row := checkTurnUptoRow, standIns := [], harness := (true, "f746c4099ca2a510d9b10d63393edb52eb64038bcdd69ee7bd628ee2e876463f"), looks := true }, kinds := [], alts := [], laidByText := true, laidKinds := [.data, .data, .data, .data, .sentinel, .sentinel, .pinned], laidTests := true, laidLooks := .later }
def CheckTurnUptoCardSaid : Prop := Claim7.holds Tryz.pinned (.plain (OpenSpec.upto checkTurnSpec)) checkTurnUptoCard

/-- THE SECOND FORM's CARD OF 'shipwrightlaw7.CheckAll'. -/
def checkAllUptoCard : Claim7 := { stood := { row := checkAllUptoRow, standIns := [], harness := (true, "f746c4099ca2a510d9b10d63393edb52eb64038bcdd69ee7bd628ee2e876463f"), looks := true }, kinds := [], alts := [], laidByText := true, laidKinds := [.data, .data, .data, .data, .sentinel, .sentinel, .pinned], laidTests := true, laidLooks := .later }
def CheckAllUptoCardSaid : Prop := Claim7.holds Tryz.pinned (.plain (OpenSpec.upto checkAllSpec)) checkAllUptoCard

/-- THE SECOND FORM's CARD OF 'shipwrightlaw7.CheckRing'. -/
def checkRingUptoCard : Claim7 := { stood := { row := checkRingUptoRow, standIns := [], harness := (true, "f746c4099ca2a510d9b10d63393edb52eb64038bcdd69ee7bd628ee2e876463f"), looks := true }, kinds := [], alts := [], laidByText := true, laidKinds := [.data, .data, .data, .data, .sentinel, .sentinel, .pinned], laidTests := true, laidLooks := .later }
def CheckRingUptoCardSaid : Prop := Claim7.holds Tryz.pinned (.plain (OpenSpec.upto checkRingSpec)) checkRingUptoCard

/-- THE SECOND FORM's CARD OF 'shipwrightlaw7.StepFail'. -/
def stepFailUptoCard : Claim7 := { stood := { row := stepFailUptoRow, standIns := [], harness := (true, "f746c4099ca2a510d9b10d63393edb52eb64038bcdd69ee7bd628ee2e876463f"), looks := true }, kinds := [], alts := [], laidByText := true, laidKinds := [.data, .data, .data, .data, .sentinel, .sentinel, .pinned], laidTests := true, laidLooks := .later }
def StepFailUptoCardSaid : Prop := Claim7.holds Tryz.pinned (.plain (OpenSpec.upto stepFailSpec)) stepFailUptoCard

/-- THE SECOND FORM's CARD OF 'shipwrightlaw7.StepConcat'. -/
def stepConcatUptoCard : Claim7 := { stood := { row := stepConcatUptoRow, standIns := [], harness := (true, "f746c4099ca2a510d9b10d63393edb52eb64038bcdd69ee7bd628ee2e876463f"), looks := true }, kinds := [], alts := [], laidByText := true, laidKinds := [.data, .data, .data, .data, .sentinel, .sentinel, .pinned], laidTests := true, laidLooks := .later }
def StepConcatUptoCardSaid : Prop := Claim7.holds Tryz.pinned (.plain (OpenSpec.upto stepConcatSpec)) stepConcatUptoCard

/-- THE SECOND FORM's CARD OF 'shipwrightlaw7.StepReplace'. -/
def stepReplaceUptoCard : Claim7 := { stood := { row := stepReplaceUptoRow, standIns := [], harness := (true, "f746c4099ca2a510d9b10d63393edb52eb64038bcdd69ee7bd628ee2e876463f"), looks := true }, kinds := [], alts := [], laidByText := true, laidKinds := [.data, .data, .data, .data, .sentinel, .sentinel, .pinned], laidTests := true, laidLooks := .later }
def StepReplaceUptoCardSaid : Prop := Claim7.holds Tryz.pinned (.plain (OpenSpec.upto stepReplaceSpec)) stepReplaceUptoCard

/-- THE SECOND FORM's CARD OF 'shipwrightlaw7.StepLines'. -/
def stepLinesUptoCard : Claim7 := { stood := { row := stepLinesUptoRow, standIns := [], harness := (true, "f746c4099ca2a510d9b10d63393edb52eb64038bcdd69ee7bd628ee2e876463f"), looks := true }, kinds := [], alts := [], laidByText := true, laidKinds := [.data, .data, .data, .data, .sentinel, .sentinel, .pinned], laidTests := true, laidLooks := .later }
def StepLinesUptoCardSaid : Prop := Claim7.holds Tryz.pinned (.plain (OpenSpec.upto stepLinesSpec)) stepLinesUptoCard

/-- THE SECOND FORM's CARD OF 'shipwrightlaw7.RunPart'. -/
def runPartUptoCard : Claim7 := { stood := { row := runPartUptoRow, standIns := [], harness := (true, "f746c4099ca2a510d9b10d63393edb52eb64038bcdd69ee7bd628ee2e876463f"), looks := true }, kinds := [], alts := [], laidByText := true, laidKinds := [.data, .data, .data, .data, .sentinel, .sentinel, .pinned], laidTests := true, laidLooks := .later }
def RunPartUptoCardSaid : Prop := Claim7.holds Tryz.pinned (.plain (OpenSpec.upto runPartSpec)) runPartUptoCard
end Rows
end Go.Proofs.YtkoijkcjnppamaaGreatDoor
