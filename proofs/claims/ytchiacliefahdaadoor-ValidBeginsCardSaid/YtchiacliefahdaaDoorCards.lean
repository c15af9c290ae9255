/-
  DERIVED. GIVEN WITH THE SEED: THE CARDS: each row of YtchiacliefahdaaDoorRows.lean that lists a variable, with what it lists TIED to the program's text (the seventh form; the later family's looks); each row that meets fmt, with fmt's text TOLD by the authors' own Lean function (tested against real Go, not proved from fmt's source: count such statements apart). THE CARD IS WHAT COUNTS. Prove the row's statement (the work); the ties are given (YtchiacliefahdaaDoorTie.lean); close each card by the builder's one call (the guide's Derived/Test/ToyasCard.lean, 'card_holds'). Laid BY PROGRAM, IN A SANDBOX (cutbox-door.mjs). By AI agents, Wed Nov 11 2026. No macro, syntax, notation, axiom, sorry.
-/
import Derived.Test.YtchiacliefahdaaDoorRows
import GoSem.ClaimSeven
namespace Go.Proofs.YtchiacliefahdaaDoor
namespace Rows

/-- THE TIED CARD OF 'spinneylaw16.ValidChecks'. -/
def validChecksCard : Claim7 := { stood := { row := validChecksRow, standIns := [], harness := (true, "e8d17ab27835d44bd00ac7d9d2d7368040bee8df180f56388ebf31a051568fba"), looks := false }, kinds := [], alts := [], laidByText := true, laidKinds := [.data, .pinned], laidTests := true, laidLooks := .later }
def ValidChecksCardSaid : Prop := Claim7.holds Tryd.pinned (.plain (OpenSpec.ofChange validChecksSpec)) validChecksCard

/-- THE TIED CARD OF 'spinneylaw16.ValidCompiles'. -/
def validCompilesCard : Claim7 := { stood := { row := validCompilesRow, standIns := [], harness := (true, "e8d17ab27835d44bd00ac7d9d2d7368040bee8df180f56388ebf31a051568fba"), looks := false }, kinds := [], alts := [], laidByText := true, laidKinds := [.data, .pinned], laidTests := true, laidLooks := .later }
def ValidCompilesCardSaid : Prop := Claim7.holds Tryd.pinned (.plain (OpenSpec.ofChange validCompilesSpec)) validCompilesCard

/-- THE TIED CARD OF 'spinneylaw16.ValidBegins'. -/
def validBeginsCard : Claim7 := { stood := { row := validBeginsRow, standIns := [], harness := (true, "e8d17ab27835d44bd00ac7d9d2d7368040bee8df180f56388ebf31a051568fba"), looks := false }, kinds := [], alts := [], laidByText := true, laidKinds := [.data, .pinned], laidTests := true, laidLooks := .later }
def ValidBeginsCardSaid : Prop := Claim7.holds Tryd.pinned (.plain (OpenSpec.ofChange validBeginsSpec)) validBeginsCard

/-- THE TIED CARD OF 'spinneylaw16.ValidPlaces'. -/
def validPlacesCard : Claim7 := { stood := { row := validPlacesRow, standIns := [], harness := (true, "e8d17ab27835d44bd00ac7d9d2d7368040bee8df180f56388ebf31a051568fba"), looks := false }, kinds := [], alts := [], laidByText := true, laidKinds := [.data, .pinned], laidTests := true, laidLooks := .later }
def ValidPlacesCardSaid : Prop := Claim7.holds Tryd.pinned (.plain (OpenSpec.ofChange validPlacesSpec)) validPlacesCard

/-- THE SECOND FORM's CARD OF 'spinneylaw16.ValidChecks'. -/
def validChecksUptoCard : Claim7 := { stood := { row := validChecksUptoRow, standIns := [], harness := (true, "e8d17ab27835d44bd00ac7d9d2d7368040bee8df180f56388ebf31a051568fba"), looks := false }, kinds := [], alts := [], laidByText := true, laidKinds := [.data, .pinned], laidTests := true, laidLooks := .later }
def ValidChecksUptoCardSaid : Prop := Claim7.holds Tryd.pinned (.plain (OpenSpec.upto validChecksSpec)) validChecksUptoCard

/-- THE SECOND FORM's CARD OF 'spinneylaw16.ValidCompiles'. -/
def validCompilesUptoCard : Claim7 := { stood := { row := validCompilesUptoRow, standIns := [], harness := (true, "e8d17ab27835d44bd00ac7d9d2d7368040bee8df180f56388ebf31a051568fba"), looks := false }, kinds := [], alts := [], laidByText := true, laidKinds := [.data, .pinned], laidTests := true, laidLooks := .later }
def ValidCompilesUptoCardSaid : Prop := Claim7.holds Tryd.pinned (.plain (OpenSpec.upto validCompilesSpec)) validCompilesUptoCard

/-- THE SECOND FORM's CARD OF 'spinneylaw16.ValidBegins'. -/
def validBeginsUptoCard : Claim7 := { stood := { row := validBeginsUptoRow, standIns := [], harness := (true, "e8d17ab27835d44bd00ac7d9d2d7368040bee8df180f56388ebf31a051568fba"), looks := false }, kinds := [], alts := [], laidByText := true, laidKinds := [.data, .pinned], laidTests := true, laidLooks := .later }
def ValidBeginsUptoCardSaid : Prop := Claim7.holds Tryd.pinned (.plain (OpenSpec.upto validBeginsSpec)) validBeginsUptoCard

/-- THE SECOND FORM's CARD OF 'spinneylaw16.ValidPlaces'. -/
def validPlacesUptoCard : Claim7 := { stood := { row := validPlacesUptoRow, standIns := [], harness := (true, "e8d17ab27835d44bd00ac7d9d2d7368040bee8df180f56388ebf31a051568fba"), looks := false }, kinds := [], alts := [], laidByText := true, laidKinds := [.data, .pinned], laidTests := true, laidLooks := .later }
def ValidPlacesUptoCardSaid : Prop := Claim7.holds Tryd.pinned (.plain (OpenSpec.upto validPlacesSpec)) validPlacesUptoCard
end Rows
end Go.Proofs.YtchiacliefahdaaDoor
