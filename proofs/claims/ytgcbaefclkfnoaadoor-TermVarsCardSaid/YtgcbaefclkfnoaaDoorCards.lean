/-
  DERIVED. GIVEN WITH THE SEED: THE CARDS: each row of YtgcbaefclkfnoaaDoorRows.lean that lists a variable, with what it lists TIED to the program's text (the seventh form; the later family's looks); each row that meets fmt, with fmt's text TOLD by the authors' own Lean function (tested against real Go, not proved from fmt's source: count such statements apart). THE CARD IS WHAT COUNTS. Prove the row's statement (the work); the ties are given (YtgcbaefclkfnoaaDoorTie.lean); close each card by the builder's one call (the guide's Derived/Test/ToyasCard.lean, 'card_holds'). Laid BY PROGRAM, IN A SANDBOX (cutbox-door.mjs). By AI agents, Wed Nov 11 2026. No macro, syntax, notation, axiom, sorry.
-/
import Derived.Test.YtgcbaefclkfnoaaDoorRows
import GoSem.ClaimSeven
namespace Go.Proofs.YtgcbaefclkfnoaaDoor
namespace Rows

/-- THE TIED CARD OF 'spinneylaw03.TermSames'. -/
def termSamesCard : Claim7 := { stood := { row := termSamesRow, standIns := [], harness := (true, "93c9bcd13ea4e2d87182a130173d9f3ad9eb07e245735e53562fe0cd93defd3c"), looks := false }, kinds := [], alts := [], laidByText := true, laidKinds := [.data, .data, .data, .data, .pinned], laidTests := true, laidLooks := .later }
def TermSamesCardSaid : Prop := Claim7.holds Tryd.pinned (.plain (OpenSpec.ofChange termSamesSpec)) termSamesCard

/-- THE TIED CARD OF 'spinneylaw03.TermApart'. -/
def termApartCard : Claim7 := { stood := { row := termApartRow, standIns := [], harness := (true, "93c9bcd13ea4e2d87182a130173d9f3ad9eb07e245735e53562fe0cd93defd3c"), looks := false }, kinds := [], alts := [], laidByText := true, laidKinds := [.data, .data, .data, .data, .pinned], laidTests := true, laidLooks := .later }
def TermApartCardSaid : Prop := Claim7.holds Tryd.pinned (.plain (OpenSpec.ofChange termApartSpec)) termApartCard

/-- THE TIED CARD OF 'spinneylaw03.TermOrders'. -/
def termOrdersCard : Claim7 := { stood := { row := termOrdersRow, standIns := [], harness := (true, "93c9bcd13ea4e2d87182a130173d9f3ad9eb07e245735e53562fe0cd93defd3c"), looks := false }, kinds := [], alts := [], laidByText := true, laidKinds := [.data, .data, .data, .data, .pinned], laidTests := true, laidLooks := .later }
def TermOrdersCardSaid : Prop := Claim7.holds Tryd.pinned (.plain (OpenSpec.ofChange termOrdersSpec)) termOrdersCard

/-- THE TIED CARD OF 'spinneylaw03.TermTurns'. -/
def termTurnsCard : Claim7 := { stood := { row := termTurnsRow, standIns := [], harness := (true, "93c9bcd13ea4e2d87182a130173d9f3ad9eb07e245735e53562fe0cd93defd3c"), looks := false }, kinds := [], alts := [], laidByText := true, laidKinds := [.data, .data, .data, .data, .pinned], laidTests := true, laidLooks := .later }
def TermTurnsCardSaid : Prop := Claim7.holds Tryd.pinned (.plain (OpenSpec.ofChange termTurnsSpec)) termTurnsCard

/-- THE TIED CARD OF 'spinneylaw03.TermChecks'. -/
def termChecksCard : Claim7 := { stood := { row := termChecksRow, standIns := [], harness := (true, "93c9bcd13ea4e2d87182a130173d9f3ad9eb07e245735e53562fe0cd93defd3c"), looks := false }, kinds := [], alts := [], laidByText := true, laidKinds := [.data, .data, .data, .data, .pinned], laidTests := true, laidLooks := .later }
def TermChecksCardSaid : Prop := Claim7.holds Tryd.pinned (.plain (OpenSpec.ofChange termChecksSpec)) termChecksCard

/-- THE TIED CARD OF 'spinneylaw03.TermSizes'. -/
def termSizesCard : Claim7 := { stood := { row := termSizesRow, standIns := [], harness := (true, "93c9bcd13ea4e2d87182a130173d9f3ad9eb07e245735e53562fe0cd93defd3c"), looks := false }, kinds := [], alts := [], laidByText := true, laidKinds := [.data, .data, .data, .data, .pinned], laidTests := true, laidLooks := .later }
def TermSizesCardSaid : Prop := Claim7.holds Tryd.pinned (.plain (OpenSpec.ofChange termSizesSpec)) termSizesCard

/-- THE TIED CARD OF 'spinneylaw03.TermVars'. -/
def termVarsCard : Claim7 := { stood := { row := termVarsRow, standIns := [], harness := (true, "93c9bcd13ea4e2d87182a130173d9f3ad9eb07e245735e53562fe0cd93defd3c"), looks := false }, kinds := [], alts := [], laidByText := true, laidKinds := [.data, .data, .data, .data, .pinned], laidTests := true, laidLooks := .later }
def TermVarsCardSaid : Prop := Claim7.holds Tryd.pinned (.plain (OpenSpec.ofChange termVarsSpec)) termVarsCard

/-- THE TIED CARD OF 'spinneylaw03.TermShifts'. -/
def termShiftsCard : Claim7 := { stood := { row := termShiftsRow, standIns := [], harness := (true, "93c9bcd13ea4e2d87182a130173d9f3ad9eb07e245735e53562fe0cd93defd3c"), looks := false }, kinds := [], alts := [], laidByText := true, laidKinds := [.data, .data, .data, .data, .pinned], laidTests := true, laidLooks := .later }
def TermShiftsCardSaid : Prop := Claim7.holds Tryd.pinned (.plain (OpenSpec.ofChange termShiftsSpec)) termShiftsCard

/-- THE TIED CARD OF 'spinneylaw03.TermTexts'. -/
def termTextsCard : Claim7 := { stood := { row := termTextsRow, standIns := [], harness := (true, "93c9bcd13ea4e2d87182a130173d9f3ad9eb07e245735e53562fe0cd93defd3c"), looks := false }, kinds := [], alts := [], laidByText := true, laidKinds := [.data, .data, .data, .data, .pinned], laidTests := true, laidLooks := .later }
def TermTextsCardSaid : Prop := Claim7.holds Tryd.pinned (.plain (OpenSpec.ofChange termTextsSpec)) termTextsCard

/-- THE SECOND FORM's CARD OF 'spinneylaw03.TermSames'. -/
def termSamesUptoCard : Claim7 := { stood := { row := termSamesUptoRow, standIns := [], harness := (true, "93c9bcd13ea4e2d87182a130173d9f3ad9eb07e245735e53562fe0cd93defd3c"), looks := false }, kinds := [], alts := [], laidByText := true, laidKinds := [.data, .data, .data, .data, .pinned], laidTests := true, laidLooks := .later }
def TermSamesUptoCardSaid : Prop := Claim7.holds Tryd.pinned (.plain (OpenSpec.upto termSamesSpec)) termSamesUptoCard

/-- THE SECOND FORM's CARD OF 'spinneylaw03.TermApart'. -/
def termApartUptoCard : Claim7 := { stood := { row := termApartUptoRow, standIns := [], harness := (true, "93c9bcd13ea4e2d87182a130173d9f3ad9eb07e245735e53562fe0cd93defd3c"), looks := false }, kinds := [], alts := [], laidByText := true, laidKinds := [.data, .data, .data, .data, .pinned], laidTests := true, laidLooks := .later }
def TermApartUptoCardSaid : Prop := Claim7.holds Tryd.pinned (.plain (OpenSpec.upto termApartSpec)) termApartUptoCard

/-- THE SECOND FORM's CARD OF 'spinneylaw03.TermOrders'. -/
def termOrdersUptoCard : Claim7 := { stood := { row := termOrdersUptoRow, standIns := [], harness := (true, "93c9bcd13ea4e2d87182a130173d9f3ad9eb07e245735e53562fe0cd93defd3c"), looks := false }, kinds := [], alts := [], laidByText := true, laidKinds := [.data, .data, .data, .data, .pinned], laidTests := true, laidLooks := .later }
def TermOrdersUptoCardSaid : Prop := Claim7.holds Tryd.pinned (.plain (OpenSpec.upto termOrdersSpec)) termOrdersUptoCard

/-- THE SECOND FORM's CARD OF 'spinneylaw03.TermTurns'. -/
def termTurnsUptoCard : Claim7 := { stood := { row := termTurnsUptoRow, standIns := [], harness := (true, "93c9bcd13ea4e2d87182a130173d9f3ad9eb07e245735e53562fe0cd93defd3c"), looks := false }, kinds := [], alts := [], laidByText := true, laidKinds := [.data, .data, .data, .data, .pinned], laidTests := true, laidLooks := .later }
def TermTurnsUptoCardSaid : Prop := Claim7.holds Tryd.pinned (.plain (OpenSpec.upto termTurnsSpec)) termTurnsUptoCard

/-- THE SECOND FORM's CARD OF 'spinneylaw03.TermChecks'. -/
def termChecksUptoCard : Claim7 := { stood := { row := termChecksUptoRow, standIns := [], harness := (true, "93c9bcd13ea4e2d87182a130173d9f3ad9eb07e245735e53562fe0cd93defd3c"), looks := false }, kinds := [], alts := [], laidByText := true, laidKinds := [.data, .data, .data, .data, .pinned], laidTests := true, laidLooks := .later }
def TermChecksUptoCardSaid : Prop := Claim7.holds Tryd.pinned (.plain (OpenSpec.upto termChecksSpec)) termChecksUptoCard

/-- THE SECOND FORM's CARD OF 'spinneylaw03.TermSizes'. -/
def termSizesUptoCard : Claim7 := { stood := { row := termSizesUptoRow, standIns := [], harness := (true, "93c9bcd13ea4e2d87182a130173d9f3ad9eb07e245735e53562fe0cd93defd3c"), looks := false }, kinds := [], alts := [], laidByText := true, laidKinds := [.data, .data, .data, .data, .pinned], laidTests := true, laidLooks := .later }
def TermSizesUptoCardSaid : Prop := Claim7.holds Tryd.pinned (.plain (OpenSpec.upto termSizesSpec)) termSizesUptoCard

/-- THE SECOND FORM's CARD OF 'spinneylaw03.TermVars'. -/
def termVarsUptoCard : Claim7 := { stood := { row := termVarsUptoRow, standIns := [], harness := (true, "93c9bcd13ea4e2d87182a130173d9f3ad9eb07e245735e53562fe0cd93defd3c"), looks := false }, kinds := [], alts := [], laidByText := true, laidKinds := [.data, .data, .data, .data, .pinned], laidTests := true, laidLooks := .later }
def TermVarsUptoCardSaid : Prop := Claim7.holds Tryd.pinned (.plain (OpenSpec.upto termVarsSpec)) termVarsUptoCard

/-- THE SECOND FORM's CARD OF 'spinneylaw03.TermShifts'. -/
def termShiftsUptoCard : Claim7 := { stood := { row := termShiftsUptoRow, standIns := [], harness := (true, "93c9bcd13ea4e2d87182a130173d9f3ad9eb07e245735e53562fe0cd93defd3c"), looks := false }, kinds := [], alts := [], laidByText := true, laidKinds := [.data, .data, .data, .data, .pinned], laidTests := true, laidLooks := .later }
def TermShiftsUptoCardSaid : Prop := Claim7.holds Tryd.pinned (.plain (OpenSpec.upto termShiftsSpec)) termShiftsUptoCard

/-- THE SECOND FORM's CARD OF 'spinneylaw03.TermTexts'. -/
def termTextsUptoCard : Claim7 := { stood := { row := termTextsUptoRow, standIns := [], harness := (true, "93c9bcd13ea4e2d87182a130173d9f3ad9eb07e245735e53562fe0cd93defd3c"), looks := false }, kinds := [], alts := [], laidByText := true, laidKinds := [.data, .data, .data, .data, .pinned], laidTests := true, laidLooks := .later }
def TermTextsUptoCardSaid : Prop := Claim7.holds Tryd.pinned (.plain (OpenSpec.upto termTextsSpec)) termTextsUptoCard
end Rows
end Go.Proofs.YtgcbaefclkfnoaaDoor
