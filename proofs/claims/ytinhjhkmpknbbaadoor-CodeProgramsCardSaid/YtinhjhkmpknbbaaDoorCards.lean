/-
  DERIVED. GIVEN WITH THE SEED: THE CARDS: each row of YtinhjhkmpknbbaaDoorRows.lean that lists a variable, with what it lists TIED to the program's text (the seventh form; the later family's looks); each row that meets fmt, with fmt's text TOLD by the authors' own Lean function (tested against real Go, not proved from fmt's source: count such statements apart). THE CARD IS WHAT COUNTS. Prove the row's statement (the work); the ties are given (YtinhjhkmpknbbaaDoorTie.lean); close each card by the builder's one call (the guide's Derived/Test/ToyasCard.lean, 'card_holds'). Laid BY PROGRAM, IN A SANDBOX (cutbox-door.mjs). By AI agents, Wed Nov 11 2026. No macro, syntax, notation, axiom, sorry.
-/
import Derived.Test.YtinhjhkmpknbbaaDoorRows
import GoSem.ClaimSeven
namespace Go.Proofs.YtinhjhkmpknbbaaDoor
namespace Rows

/-- THE TIED CARD OF 'spinneylaw12.BuildBack'. -/
def buildBackCard : Claim7 := { stood := { row := buildBackRow, standIns := [], harness := (true, "51a8f0a5b6ce1efe2d47f00877e3306ecd7d136246ec1c604c0b70108ae9c71b"), looks := false }, kinds := [], alts := [], laidByText := true, laidKinds := [.data, .pinned], laidTests := true, laidLooks := .later }
def BuildBackCardSaid : Prop := Claim7.holds Tryd.pinned (.plain (OpenSpec.ofChange buildBackSpec)) buildBackCard

/-- THE TIED CARD OF 'spinneylaw12.BuildTells'. -/
def buildTellsCard : Claim7 := { stood := { row := buildTellsRow, standIns := [], harness := (true, "51a8f0a5b6ce1efe2d47f00877e3306ecd7d136246ec1c604c0b70108ae9c71b"), looks := false }, kinds := [], alts := [], laidByText := true, laidKinds := [.data, .pinned], laidTests := true, laidLooks := .later }
def BuildTellsCardSaid : Prop := Claim7.holds Tryd.pinned (.plain (OpenSpec.ofChange buildTellsSpec)) buildTellsCard

/-- THE TIED CARD OF 'spinneylaw15.CodeMakes'. -/
def codeMakesCard : Claim7 := { stood := { row := codeMakesRow, standIns := [], harness := (true, "51a8f0a5b6ce1efe2d47f00877e3306ecd7d136246ec1c604c0b70108ae9c71b"), looks := false }, kinds := [], alts := [], laidByText := true, laidKinds := [.data, .data, .data, .data, .pinned], laidTests := true, laidLooks := .later }
def CodeMakesCardSaid : Prop := Claim7.holds Tryd.pinned (.plain (OpenSpec.ofChange codeMakesSpec)) codeMakesCard

/-- THE TIED CARD OF 'spinneylaw15.CodeCounts'. -/
def codeCountsCard : Claim7 := { stood := { row := codeCountsRow, standIns := [], harness := (true, "51a8f0a5b6ce1efe2d47f00877e3306ecd7d136246ec1c604c0b70108ae9c71b"), looks := false }, kinds := [], alts := [], laidByText := true, laidKinds := [.data, .data, .data, .data, .pinned], laidTests := true, laidLooks := .later }
def CodeCountsCardSaid : Prop := Claim7.holds Tryd.pinned (.plain (OpenSpec.ofChange codeCountsSpec)) codeCountsCard

/-- THE TIED CARD OF 'spinneylaw15.CodeApart'. -/
def codeApartCard : Claim7 := { stood := { row := codeApartRow, standIns := [], harness := (true, "51a8f0a5b6ce1efe2d47f00877e3306ecd7d136246ec1c604c0b70108ae9c71b"), looks := false }, kinds := [], alts := [], laidByText := true, laidKinds := [.data, .data, .data, .data, .pinned], laidTests := true, laidLooks := .later }
def CodeApartCardSaid : Prop := Claim7.holds Tryd.pinned (.plain (OpenSpec.ofChange codeApartSpec)) codeApartCard

/-- THE TIED CARD OF 'spinneylaw15.CodePrograms'. -/
def codeProgramsCard : Claim7 := { stood := { row := codeProgramsRow, standIns := [], harness := (true, "51a8f0a5b6ce1efe2d47f00877e3306ecd7d136246ec1c604c0b70108ae9c71b"), looks := false }, kinds := [], alts := [], laidByText := true, laidKinds := [.data, .data, .data, .data, .pinned], laidTests := true, laidLooks := .later }
def CodeProgramsCardSaid : Prop := Claim7.holds Tryd.pinned (.plain (OpenSpec.ofChange codeProgramsSpec)) codeProgramsCard

/-- THE TIED CARD OF 'spinneylaw15.CodeTexts'. -/
def codeTextsCard : Claim7 := { stood := { row := codeTextsRow, standIns := [], harness := (true, "51a8f0a5b6ce1efe2d47f00877e3306ecd7d136246ec1c604c0b70108ae9c71b"), looks := false }, kinds := [], alts := [], laidByText := true, laidKinds := [.data, .data, .data, .data, .pinned], laidTests := true, laidLooks := .later }
def CodeTextsCardSaid : Prop := Claim7.holds Tryd.pinned (.plain (OpenSpec.ofChange codeTextsSpec)) codeTextsCard

/-- THE SECOND FORM's CARD OF 'spinneylaw12.BuildBack'. -/
def buildBackUptoCard : Claim7 := { stood := { row := buildBackUptoRow, standIns := [], harness := (true, "51a8f0a5b6ce1efe2d47f00877e3306ecd7d136246ec1c604c0b70108ae9c71b"), looks := false }, kinds := [], alts := [], laidByText := true, laidKinds := [.data, .pinned], laidTests := true, laidLooks := .later }
def BuildBackUptoCardSaid : Prop := Claim7.holds Tryd.pinned (.plain (OpenSpec.upto buildBackSpec)) buildBackUptoCard

/-- THE SECOND FORM's CARD OF 'spinneylaw12.BuildTells'. -/
def buildTellsUptoCard : Claim7 := { stood := { row := buildTellsUptoRow, standIns := [], harness := (true, "51a8f0a5b6ce1efe2d47f00877e3306ecd7d136246ec1c604c0b70108ae9c71b"), looks := false }, kinds := [], alts := [], laidByText := true, laidKinds := [.data, .pinned], laidTests := true, laidLooks := .later }
def BuildTellsUptoCardSaid : Prop := Claim7.holds Tryd.pinned (.plain (OpenSpec.upto buildTellsSpec)) buildTellsUptoCard

/-- THE SECOND FORM's CARD OF 'spinneylaw15.CodeMakes'. -/
def codeMakesUptoCard : Claim7 := { stood := { row := codeMakesUptoRow, standIns := [], harness := (true, "51a8f0a5b6ce1efe2d47f00877e3306ecd7d136246ec1c604c0b70108ae9c71b"), looks := false }, kinds := [], alts := [], laidByText := true, laidKinds := [.data, .data, .data, .data, .pinned], laidTests := true, laidLooks := .later }
def CodeMakesUptoCardSaid : Prop := Claim7.holds Tryd.pinned (.plain (OpenSpec.upto codeMakesSpec)) codeMakesUptoCard

/-- THE SECOND FORM's CARD OF 'spinneylaw15.CodeCounts'. -/
def codeCountsUptoCard : Claim7 := { stood := { row := codeCountsUptoRow, standIns := [], harness := (true, "51a8f0a5b6ce1efe2d47f00877e3306ecd7d136246ec1c604c0b70108ae9c71b"), looks := false }, kinds := [], alts := [], laidByText := true, laidKinds := [.data, .data, .data, .data, .pinned], laidTests := true, laidLooks := .later }
def CodeCountsUptoCardSaid : Prop := Claim7.holds Tryd.pinned (.plain (OpenSpec.upto codeCountsSpec)) codeCountsUptoCard

/-- THE SECOND FORM's CARD OF 'spinneylaw15.CodeApart'. -/
def codeApartUptoCard : Claim7 := { stood := { row := codeApartUptoRow, standIns := [], harness := (true, "51a8f0a5b6ce1efe2d47f00877e3306ecd7d136246ec1c604c0b70108ae9c71b"), looks := false }, kinds := [], alts := [], laidByText := true, laidKinds := [.data, .data, .data, .data, .pinned], laidTests := true, laidLooks := .later }
def CodeApartUptoCardSaid : Prop := Claim7.holds Tryd.pinned (.plain (OpenSpec.upto codeApartSpec)) codeApartUptoCard

/-- THE SECOND FORM's CARD OF 'spinneylaw15.CodePrograms'. -/
def codeProgramsUptoCard : Claim7 := { stood := { row := codeProgramsUptoRow, standIns := [], harness := (true, "51a8f0a5b6ce1efe2d47f00877e3306ecd7d136246ec1c604c0b70108ae9c71b"), looks := false }, kinds := [], alts := [], laidByText := true, laidKinds := [.data, .data, .data, .data, .pinned], laidTests := true, laidLooks := .later }
def CodeProgramsUptoCardSaid : Prop := Claim7.holds Tryd.pinned (.plain (OpenSpec.upto codeProgramsSpec)) codeProgramsUptoCard

/-- THE SECOND FORM's CARD OF 'spinneylaw15.CodeTexts'. -/
def codeTextsUptoCard : Claim7 := { stood := { row := codeTextsUptoRow, standIns := [], harness := (true, "51a8f0a5b6ce1efe2d47f00877e3306ecd7d136246ec1c604c0b70108ae9c71b"), looks := false }, kinds := [], alts := [], laidByText := true, laidKinds := [.data, .data, .data, .data, .pinned], laidTests := true, laidLooks := .later }
def CodeTextsUptoCardSaid : Prop := Claim7.holds Tryd.pinned (.plain (OpenSpec.upto codeTextsSpec)) codeTextsUptoCard
end Rows
end Go.Proofs.YtinhjhkmpknbbaaDoor
