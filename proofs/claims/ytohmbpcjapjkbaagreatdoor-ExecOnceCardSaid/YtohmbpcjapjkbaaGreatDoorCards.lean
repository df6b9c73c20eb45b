/-
  DERIVED. GIVEN WITH THE SEED: THE CARDS: each row of YtohmbpcjapjkbaaGreatDoorRows.lean that lists a variable, with what it lists TIED to the program's text (the seventh form; the later family's looks); each row that meets fmt, with fmt's text TOLD by the authors' own Lean function (tested against real Go, not proved from fmt's source: count such statements apart). THE CARD IS WHAT COUNTS. Prove the row's statement (the work); the ties are given (YtohmbpcjapjkbaaGreatDoorTie.lean); close each card by the builder's one call (the guide's Derived/Test/ToyasCard.lean, 'card_holds'). Laid BY PROGRAM, IN A SANDBOX (cutbox-door.mjs). By AI agents, Wed Nov 11 2026. No macro, syntax, notation, axiom, sorry.
-/
import Derived.Test.YtohmbpcjapjkbaaGreatDoorRows
import GoSem.ClaimSeven
namespace Go.Proofs.YtohmbpcjapjkbaaGreatDoor
namespace Rows

/-- THE TIED CARD OF 'becketlaw15.ExecOnce'. -/
def execOnceCard : Claim7 := { stood := { row := execOnceRow, standIns := [], harness := (true, "b153ebc4e0943b4ace54da7f99646ae131208977b83d20098f26d1c9c7d5494e"), looks := true }, kinds := [], alts := [], laidByText := true, laidKinds := [.data, .pinned], laidTests := true, laidLooks := .later }
def ExecOnceCardSaid : Prop := Claim7.holds Tryz.pinned (.plain (OpenSpec.ofChange execOnceSpec)) execOnceCard

/-- THE TIED CARD OF 'becketlaw15.ExecPlays'. -/
def execPlaysCard : Claim7 := { stood := { row := execPlaysRow, standIns := [], harness := (true, "b153ebc4e0943b4ace54da7f99646ae131208977b83d20098f26d1c9c7d5494e"), looks := true }, kinds := [], alts := [], laidByText := true, laidKinds := [.data, .pinned], laidTests := true, laidLooks := .later }
def ExecPlaysCardSaid : Prop := Claim7.holds Tryz.pinned (.plain (OpenSpec.ofChange execPlaysSpec)) execPlaysCard

/-- THE TIED CARD OF 'becketlaw15.ExecStays'. -/
def execStaysCard : Claim7 := { stood := { row := execStaysRow, standIns := [], harness := (true, "b153ebc4e0943b4ace54da7f99646ae131208977b83d20098f26d1c9c7d5494e"), looks := true }, kinds := [], alts := [], laidByText := true, laidKinds := [.data, .pinned], laidTests := true, laidLooks := .later }
def ExecStaysCardSaid : Prop := Claim7.holds Tryz.pinned (.plain (OpenSpec.ofChange execStaysSpec)) execStaysCard

/-- THE TIED CARD OF 'becketlaw10.ImageBack'. -/
def imageBackCard : Claim7 := { stood := { row := imageBackRow, standIns := [], harness := (true, "b153ebc4e0943b4ace54da7f99646ae131208977b83d20098f26d1c9c7d5494e"), looks := true }, kinds := [], alts := [], laidByText := true, laidKinds := [.data, .pinned], laidTests := true, laidLooks := .later }
def ImageBackCardSaid : Prop := Claim7.holds Tryz.pinned (.plain (OpenSpec.ofChange imageBackSpec)) imageBackCard

/-- THE TIED CARD OF 'becketlaw21.CheckAnswers'. -/
def checkAnswersCard : Claim7 := { stood := { row := checkAnswersRow, standIns := [], harness := (true, "b153ebc4e0943b4ace54da7f99646ae131208977b83d20098f26d1c9c7d5494e"), looks := true }, kinds := [], alts := [], laidByText := true, laidKinds := [.data, .pinned], laidTests := true, laidLooks := .later }
def CheckAnswersCardSaid : Prop := Claim7.holds Tryz.pinned (.plain (OpenSpec.ofChange checkAnswersSpec)) checkAnswersCard

/-- THE TIED CARD OF 'becketlaw10.ImageParts'. -/
def imagePartsCard : Claim7 := { stood := { row := imagePartsRow, standIns := [], harness := (true, "b153ebc4e0943b4ace54da7f99646ae131208977b83d20098f26d1c9c7d5494e"), looks := true }, kinds := [], alts := [], laidByText := true, laidKinds := [.data, .pinned], laidTests := true, laidLooks := .later }
def ImagePartsCardSaid : Prop := Claim7.holds Tryz.pinned (.plain (OpenSpec.ofChange imagePartsSpec)) imagePartsCard

/-- THE TIED CARD OF 'becketlaw21.CheckAgrees'. -/
def checkAgreesCard : Claim7 := { stood := { row := checkAgreesRow, standIns := [], harness := (true, "b153ebc4e0943b4ace54da7f99646ae131208977b83d20098f26d1c9c7d5494e"), looks := true }, kinds := [], alts := [], laidByText := true, laidKinds := [.data, .pinned], laidTests := true, laidLooks := .later }
def CheckAgreesCardSaid : Prop := Claim7.holds Tryz.pinned (.plain (OpenSpec.ofChange checkAgreesSpec)) checkAgreesCard

/-- THE TIED CARD OF 'becketlaw21.CheckMore'. -/
def checkMoreCard : Claim7 := { stood := { row := checkMoreRow, standIns := [], harness := (true, "b153ebc4e0943b4ace54da7f99646ae131208977b83d20098f26d1c9c7d5494e"), looks := true }, kinds := [], alts := [], laidByText := true, laidKinds := [.data, .pinned], laidTests := true, laidLooks := .later }
def CheckMoreCardSaid : Prop := Claim7.holds Tryz.pinned (.plain (OpenSpec.ofChange checkMoreSpec)) checkMoreCard

/-- THE TIED CARD OF 'becketlaw21.CheckBegins'. -/
def checkBeginsCard : Claim7 := { stood := { row := checkBeginsRow, standIns := [], harness := (true, "b153ebc4e0943b4ace54da7f99646ae131208977b83d20098f26d1c9c7d5494e"), looks := true }, kinds := [], alts := [], laidByText := true, laidKinds := [.data, .pinned], laidTests := true, laidLooks := .later }
def CheckBeginsCardSaid : Prop := Claim7.holds Tryz.pinned (.plain (OpenSpec.ofChange checkBeginsSpec)) checkBeginsCard

/-- THE TIED CARD OF 'becketlaw10.ImageAlike'. -/
def imageAlikeCard : Claim7 := { stood := { row := imageAlikeRow, standIns := [], harness := (true, "b153ebc4e0943b4ace54da7f99646ae131208977b83d20098f26d1c9c7d5494e"), looks := true }, kinds := [], alts := [], laidByText := true, laidKinds := [.data, .pinned], laidTests := true, laidLooks := .later }
def ImageAlikeCardSaid : Prop := Claim7.holds Tryz.pinned (.plain (OpenSpec.ofChange imageAlikeSpec)) imageAlikeCard

/-- THE SECOND FORM's CARD OF 'becketlaw15.ExecOnce'. -/
def execOnceUptoCard : Claim7 := { stood := { row := execOnceUptoRow, standIns := [], harness := (true, "b153ebc4e0943b4ace54da7f99646ae131208977b83d20098f26d1c9c7d5494e"), looks := true }, kinds := [], alts := [], laidByText := true, laidKinds := [.data, .pinned], laidTests := true, laidLooks := .later }
def ExecOnceUptoCardSaid : Prop := Claim7.holds Tryz.pinned (.plain (OpenSpec.upto execOnceSpec)) execOnceUptoCard

/-- THE SECOND FORM's CARD OF 'becketlaw15.ExecPlays'. -/
def execPlaysUptoCard : Claim7 := { stood := { row := execPlaysUptoRow, standIns := [], harness := (true, "b153ebc4e0943b4ace54da7f99646ae131208977b83d20098f26d1c9c7d5494e"), looks := true }, kinds := [], alts := [], laidByText := true, laidKinds := [.data, .pinned], laidTests := true, laidLooks := .later }
def ExecPlaysUptoCardSaid : Prop := Claim7.holds Tryz.pinned (.plain (OpenSpec.upto execPlaysSpec)) execPlaysUptoCard

/-- THE SECOND FORM's CARD OF 'becketlaw15.ExecStays'. -/
def execStaysUptoCard : Claim7 := { stood := { row := execStaysUptoRow, standIns := [], harness := (true, "b153ebc4e0943b4ace54da7f99646ae131208977b83d20098f26d1c9c7d5494e"), looks := true }, kinds := [], alts := [], laidByText := true, laidKinds := [.data, .pinned], laidTests := true, laidLooks := .later }
def ExecStaysUptoCardSaid : Prop := Claim7.holds Tryz.pinned (.plain (OpenSpec.upto execStaysSpec)) execStaysUptoCard

/-- THE SECOND FORM's CARD OF 'becketlaw10.ImageBack'. -/
def imageBackUptoCard : Claim7 := { stood := { row := imageBackUptoRow, standIns := [], harness := (true, "b153ebc4e0943b4ace54da7f99646ae131208977b83d20098f26d1c9c7d5494e"), looks := true }, kinds := [], alts := [], laidByText := true, laidKinds := [.data, .pinned], laidTests := true, laidLooks := .later }
def ImageBackUptoCardSaid : Prop := Claim7.holds Tryz.pinned (.plain (OpenSpec.upto imageBackSpec)) imageBackUptoCard

/-- THE SECOND FORM's CARD OF 'becketlaw21.CheckAnswers'. -/
def checkAnswersUptoCard : Claim7 := { stood := { row := checkAnswersUptoRow, standIns := [], harness := (true, "b153ebc4e0943b4ace54da7f99646ae131208977b83d20098f26d1c9c7d5494e"), looks := true }, kinds := [], alts := [], laidByText := true, laidKinds := [.data, .pinned], laidTests := true, laidLooks := .later }
def CheckAnswersUptoCardSaid : Prop := Claim7.holds Tryz.pinned (.plain (OpenSpec.upto checkAnswersSpec)) checkAnswersUptoCard

/-- THE SECOND FORM's CARD OF 'becketlaw10.ImageParts'. -/
def imagePartsUptoCard : Claim7 := { stood := { row := imagePartsUptoRow, standIns := [], harness := (true, "b153ebc4e0943b4ace54da7f99646ae131208977b83d20098f26d1c9c7d5494e"), looks := true }, kinds := [], alts := [], laidByText := true, laidKinds := [.data, .pinned], laidTests := true, laidLooks := .later }
def ImagePartsUptoCardSaid : Prop := Claim7.holds Tryz.pinned (.plain (OpenSpec.upto imagePartsSpec)) imagePartsUptoCard

/-- THE SECOND FORM's CARD OF 'becketlaw21.CheckAgrees'. -/
def checkAgreesUptoCard : Claim7 := { stood := { row := checkAgreesUptoRow, standIns := [], harness := (true, "b153ebc4e0943b4ace54da7f99646ae131208977b83d20098f26d1c9c7d5494e"), looks := true }, kinds := [], alts := [], laidByText := true, laidKinds := [.data, .pinned], laidTests := true, laidLooks := .later }
def CheckAgreesUptoCardSaid : Prop := Claim7.holds Tryz.pinned (.plain (OpenSpec.upto checkAgreesSpec)) checkAgreesUptoCard

/-- THE SECOND FORM's CARD OF 'becketlaw21.CheckMore'. -/
def checkMoreUptoCard : Claim7 := { stood := { row := checkMoreUptoRow, standIns := [], harness := (true, "b153ebc4e0943b4ace54da7f99646ae131208977b83d20098f26d1c9c7d5494e"), looks := true }, kinds := [], alts := [], laidByText := true, laidKinds := [.data, .pinned], laidTests := true, laidLooks := .later }
def CheckMoreUptoCardSaid : Prop := Claim7.holds Tryz.pinned (.plain (OpenSpec.upto checkMoreSpec)) checkMoreUptoCard

/-- THE SECOND FORM's CARD OF 'becketlaw21.CheckBegins'. -/
def checkBeginsUptoCard : Claim7 := { stood := { row := checkBeginsUptoRow, standIns := [], harness := (true, "b153ebc4e0943b4ace54da7f99646ae131208977b83d20098f26d1c9c7d5494e"), looks := true }, kinds := [], alts := [], laidByText := true, laidKinds := [.data, .pinned], laidTests := true, laidLooks := .later }
def CheckBeginsUptoCardSaid : Prop := Claim7.holds Tryz.pinned (.plain (OpenSpec.upto checkBeginsSpec)) checkBeginsUptoCard

/-- THE SECOND FORM's CARD OF 'becketlaw10.ImageAlike'. -/
def imageAlikeUptoCard : Claim7 := { stood := { row := imageAlikeUptoRow, standIns := [], harness := (true, "b153ebc4e0943b4ace54da7f99646ae131208977b83d20098f26d1c9c7d5494e"), looks := true }, kinds := [], alts := [], laidByText := true, laidKinds := [.data, .pinned], laidTests := true, laidLooks := .later }
def ImageAlikeUptoCardSaid : Prop := Claim7.holds Tryz.pinned (.plain (OpenSpec.upto imageAlikeSpec)) imageAlikeUptoCard
end Rows
end Go.Proofs.YtohmbpcjapjkbaaGreatDoor
