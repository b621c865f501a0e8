/-
  DERIVED. GIVEN WITH THE SEED: THE CARDS: each row of YtiocacpdbndchaaGreatDoorRows.lean that lists a variable, with what it lists TIED to the program's text (the seventh form; the later family's looks); each row that meets fmt, with fmt's text TOLD by the authors' own Lean function (tested against real Go, not proved from fmt's source: count such statements apart). THE CARD IS WHAT COUNTS. Prove the row's statement (the work); the ties are given (YtiocacpdbndchaaGreatDoorTie.lean); close each card by the builder's one call (the guide's Derived/Test/ToyasCard.lean, 'card_holds'). Laid BY PROGRAM, IN A SANDBOX (cutbox-door.mjs). By AI agents, Wed Nov 11 2026. No macro, syntax, notation, axiom, sorry.
-/
import Derived.Test.YtiocacpdbndchaaGreatDoorRows
import GoSem.ClaimSeven
namespace Go.Proofs.YtiocacpdbndchaaGreatDoor
namespace Rows

/-- THE TIED CARD OF 'shipwrightlaw7.RunNames'. -/
def runNamesCard : Claim7 := { stood := { row := runNamesRow, standIns := [], harness := (true, "9b0e5acbcf3f2839ef5b9c6e85d95380bbc646dfc3b466a1d9e6938309ba8de3"), looks := true }, kinds := [], alts := [], laidByText := true, laidKinds := [.data, .data, .data, .data, .sentinel, .sentinel, .pinned], laidTests := true, laidLooks := .later }
def RunNamesCardSaid : Prop := Claim7.holds Tryz.pinned (.plain (OpenSpec.ofChange runNamesSpec)) runNamesCard

/-- THE TIED CARD OF 'shipwrightlaw7.SliceSteps'. -/
def sliceStepsCard : Claim7 := { stood := { row := sliceStepsRow, standIns := [], harness := (true, "9b0e5acbcf3f2839ef5b9c6e85d95380bbc646dfc3b466a1d9e6938309ba8de3"), looks := true }, kinds := [], alts := [], laidByText := true, laidKinds := [.data, .data, .data, .data, .sentinel, .sentinel, .pinned], laidTests := true, laidLooks := .later }
def SliceStepsCardSaid : Prop := Claim7.holds Tryz.pinned (.plain (OpenSpec.ofChange sliceStepsSpec)) sliceStepsCard

/-- THE TIED CARD OF 'shipwrightlaw7.CheckLess'. -/
def checkLessCard : Claim7 := { stood := { row := checkLessRow, standIns := [], harness := (true, "9b0e5acbcf3f2839ef5b9c6e85d95380bbc646dfc3b466a1d9e6938309ba8de3"), looks := true }, kinds := [], alts := [], laidByText := true, laidKinds := [.data, .data, .data, .data, .sentinel, .sentinel, .pinned], laidTests := true, laidLooks := .later }
def CheckLessCardSaid : Prop := Claim7.holds Tryz.pinned (.plain (OpenSpec.ofChange checkLessSpec)) checkLessCard

/-- THE TIED CARD OF 'shipwrightlaw7.CheckOrder'. -/
def checkOrderCard : Claim7 := { stood := { row := checkOrderRow, standIns := [], harness := (true, "9b0e5acbcf3f2839ef5b9c6e85d95380bbc646dfc3b466a1d9e6938309ba8de3"), looks := true }, kinds := [], alts := [], laidByText := true, laidKinds := [.data, .data, .data, .data, .sentinel, .sentinel, .pinned], laidTests := true, laidLooks := .later }
def CheckOrderCardSaid : Prop := Claim7.holds Tryz.pinned (.plain (OpenSpec.ofChange checkOrderSpec)) checkOrderCard

/-- THE TIED CARD OF 'shipwrightlaw7.CheckMany'. -/
def checkManyCard : Claim7 := { stood := { row := checkManyRow, standIns := [], harness := (true, "9b0e5acbcf3f2839ef5b9c6e85d95380bbc646dfc3b466a1d9e6938309ba8de3"), looks := true }, kinds := [], alts := [], laidByText := true, laidKinds := [.data, .data, .data, .data, .sentinel, .sentinel, .pinned], laidTests := true, laidLooks := .later }
def CheckManyCardSaid : Prop := Claim7.holds Tryz.pinned (.plain (OpenSpec.ofChange checkManySpec)) checkManyCard

/-- THE TIED CARD OF 'shipwrightlaw7.DenoOrder'. -/
def denoOrderCard : Claim7 := { stood := { row := denoOrderRow, standIns := [], harness := (true, "9b0e5acbcf3f2839ef5b9c6e85d95380bbc646dfc3b466a1d9e6938309ba8de3"), looks := true }, kinds := [], alts := [], laidByText := true, laidKinds := [.data, .data, .data, .data, .sentinel, .sentinel, .pinned], laidTests := true, laidLooks := .later }
def DenoOrderCardSaid : Prop := Claim7.holds Tryz.pinned (.plain (OpenSpec.ofChange denoOrderSpec)) denoOrderCard

/-- THE TIED CARD OF 'shipwrightlaw7.DenoNone'. -/
def denoNoneCard : Claim7 := { stood := { row := denoNoneRow, standIns := [], harness := (true, "9b0e5acbcf3f2839ef5b9c6e85d95380bbc646dfc3b466a1d9e6938309ba8de3"), looks := true }, kinds := [], alts := [], laidByText := true, laidKinds := [.data, .data, .data, .data, .sentinel, .sentinel, .pinned], laidTests := true, laidLooks := .later }
def DenoNoneCardSaid : Prop := Claim7.holds Tryz.pinned (.plain (OpenSpec.ofChange denoNoneSpec)) denoNoneCard

/-- THE TIED CARD OF 'shipwrightlaw7.DenoTree'. -/
def denoTreeCard : Claim7 := { stood := { row := denoTreeRow, standIns := [], harness := (true, "9b0e5acbcf3f2839ef5b9c6e85d95380bbc646dfc3b466a1d9e6938309ba8de3"), looks := true }, kinds := [], alts := [], laidByText := true, laidKinds := [.data, .data, .data, .data, .sentinel, .sentinel, .pinned], laidTests := true, laidLooks := .later }
def DenoTreeCardSaid : Prop := Claim7.holds Tryz.pinned (.plain (OpenSpec.ofChange denoTreeSpec)) denoTreeCard

/-- THE TIED CARD OF 'shipwrightlaw7.DenoTurn'. -/
def denoTurnCard : Claim7 := { stood := { row := denoTurnRow, standIns := [], harness := (true, "9b0e5acbcf3f2839ef5b9c6e85d95380bbc646dfc3b466a1d9e6938309ba8de3"), looks := true }, kinds := [], alts := [], laidByText := true, laidKinds := [.data, .data, .data, .data, .sentinel, .sentinel, .pinned], laidTests := true, laidLooks := .later }
def DenoTurnCardSaid : Prop := Claim7.holds Tryz.pinned (.plain (OpenSpec.ofChange denoTurnSpec)) denoTurnCard

/-- THE SECOND FORM's CARD OF 'shipwrightlaw7.RunNames'. -/
def runNamesUptoCard : Claim7 := { stood := { row := runNamesUptoRow, standIns := [], harness := (true, "9b0e5acbcf3f2839ef5b9c6e85d95380bbc646dfc3b466a1d9e6938309ba8de3"), looks := true }, kinds := [], alts := [], laidByText := true, laidKinds := [.data, .data, .data, .data, .sentinel, .sentinel, .pinned], laidTests := true, laidLooks := .later }
def RunNamesUptoCardSaid : Prop := Claim7.holds Tryz.pinned (.plain (OpenSpec.upto runNamesSpec)) runNamesUptoCard

/-- THE SECOND FORM's CARD OF 'shipwrightlaw7.SliceSteps'. -/
def sliceStepsUptoCard : Claim7 := { stood := { row := sliceStepsUptoRow, standIns := [], harness := (true, "9b0e5acbcf3f2839ef5b9c6e85d95380bbc646dfc3b466a1d9e6938309ba8de3"), looks := true }, kinds := [], alts := [], laidByText := true, laidKinds := [.data, .data, .data, .data, .sentinel, .sentinel, .pinned], laidTests := true, laidLooks := .later }
def SliceStepsUptoCardSaid : Prop := Claim7.holds Tryz.pinned (.plain (OpenSpec.upto sliceStepsSpec)) sliceStepsUptoCard

/-- THE SECOND FORM's CARD OF 'shipwrightlaw7.CheckLess'. -/
def checkLessUptoCard : Claim7 := { stood := { row := checkLessUptoRow, standIns := [], harness := (true, "9b0e5acbcf3f2839ef5b9c6e85d95380bbc646dfc3b466a1d9e6938309ba8de3"), looks := true }, kinds := [], alts := [], laidByText := true, laidKinds := [.data, .data, .data, .data, .sentinel, .sentinel, .pinned], laidTests := true, laidLooks := .later }
def CheckLessUptoCardSaid : Prop := Claim7.holds Tryz.pinned (.plain (OpenSpec.upto checkLessSpec)) checkLessUptoCard

/-- THE SECOND FORM's CARD OF 'shipwrightlaw7.CheckOrder'. -/
def checkOrderUptoCard : Claim7 := { stood := { row := checkOrderUptoRow, standIns := [], harness := (true, "9b0e5acbcf3f2839ef5b9c6e85d95380bbc646dfc3b466a1d9e6938309ba8de3"), looks := true }, kinds := [], alts := [], laidByText := true, laidKinds := [.data, .data, .data, .data, .sentinel, .sentinel, .pinned], laidTests := true, laidLooks := .later }
def CheckOrderUptoCardSaid : Prop := Claim7.holds Tryz.pinned (.plain (OpenSpec.upto checkOrderSpec)) checkOrderUptoCard

/-- THE SECOND FORM's CARD OF 'shipwrightlaw7.CheckMany'. -/
def checkManyUptoCard : Claim7 := { stood := { row := checkManyUptoRow, standIns := [], harness := (true, "9b0e5acbcf3f2839ef5b9c6e85d95380bbc646dfc3b466a1d9e6938309ba8de3"), looks := true }, kinds := [], alts := [], laidByText := true, laidKinds := [.data, .data, .data, .data, .sentinel, .sentinel, .pinned], laidTests := true, laidLooks := .later }
def CheckManyUptoCardSaid : Prop := Claim7.holds Tryz.pinned (.plain (OpenSpec.upto checkManySpec)) checkManyUptoCard

/-- THE SECOND FORM's CARD OF 'shipwrightlaw7.DenoOrder'. -/
def denoOrderUptoCard : Claim7 := { stood := { row := denoOrderUptoRow, standIns := [], harness := (true, "9b0e5acbcf3f2839ef5b9c6e85d95380bbc646dfc3b466a1d9e6938309ba8de3"), looks := true }, kinds := [], alts := [], laidByText := true, laidKinds := [.data, .data, .data, .data, .sentinel, .sentinel, .pinned], laidTests := true, laidLooks := .later }
def DenoOrderUptoCardSaid : Prop := Claim7.holds Tryz.pinned (.plain (OpenSpec.upto denoOrderSpec)) denoOrderUptoCard

/-- THE SECOND FORM's CARD OF 'shipwrightlaw7.DenoNone'. -/
def denoNoneUptoCard : Claim7 := { stood := { row := denoNoneUptoRow, standIns := [], harness := (true, "9b0e5acbcf3f2839ef5b9c6e85d95380bbc646dfc3b466a1d9e6938309ba8de3"), looks := true }, kinds := [], alts := [], laidByText := true, laidKinds := [.data, .data, .data, .data, .sentinel, .sentinel, .pinned], laidTests := true, laidLooks := .later }
def DenoNoneUptoCardSaid : Prop := Claim7.holds Tryz.pinned (.plain (OpenSpec.upto denoNoneSpec)) denoNoneUptoCard

/-- THE SECOND FORM's CARD OF 'shipwrightlaw7.DenoTree'. -/
def denoTreeUptoCard : Claim7 := { stood := { row := denoTreeUptoRow, standIns := [], harness := (true, "9b0e5acbcf3f2839ef5b9c6e85d95380bbc646dfc3b466a1d9e6938309ba8de3"), looks := true }, kinds := [], alts := [], laidByText := true, laidKinds := [.data, .data, .data, .data, .sentinel, .sentinel, .pinned], laidTests := true, laidLooks := .later }
def DenoTreeUptoCardSaid : Prop := Claim7.holds Tryz.pinned (.plain (OpenSpec.upto denoTreeSpec)) denoTreeUptoCard

/-- THE SECOND FORM's CARD OF 'shipwrightlaw7.DenoTurn'. -/
def denoTurnUptoCard : Claim7 := { stood := { row := denoTurnUptoRow, standIns := [], harness := (true, "9b0e5acbcf3f2839ef5b9c6e85d95380bbc646dfc3b466a1d9e6938309ba8de3"), looks := true }, kinds := [], alts := [], laidByText := true, laidKinds := [.data, .data, .data, .data, .sentinel, .sentinel, .pinned], laidTests := true, laidLooks := .later }
def DenoTurnUptoCardSaid : Prop := Claim7.holds Tryz.pinned (.plain (OpenSpec.upto denoTurnSpec)) denoTurnUptoCard
end Rows
end Go.Proofs.YtiocacpdbndchaaGreatDoor
