/-
  DERIVED. GIVEN WITH THE SEED: THE CARDS: each row of YtkdjdhfoodlnfaaDoorRows.lean that lists a variable, with what it lists TIED to the program's text (the seventh form; the later family's looks); each row that meets fmt, with fmt's text TOLD by the authors' own Lean function (tested against real Go, not proved from fmt's source: count such statements apart). THE CARD IS WHAT COUNTS. Prove the row's statement (the work); the ties are given (YtkdjdhfoodlnfaaDoorTie.lean); close each card by the builder's one call (the guide's Derived/Test/ToyasCard.lean, 'card_holds'). Laid BY PROGRAM, IN A SANDBOX (cutbox-door.mjs). By AI agents, Wed Nov 11 2026. No macro, syntax, notation, axiom, sorry.
-/
import Derived.Test.YtkdjdhfoodlnfaaDoorRows
import GoSem.ClaimSeven
namespace Go.Proofs.YtkdjdhfoodlnfaaDoor
namespace Rows

/-- THE TIED CARD OF 'spinneylaw04.OpsSides'. -/
def opsSidesCard : Claim7 := { stood := { row := opsSidesRow, standIns := [], harness := (true, "c7ba38c5fc357127ac6a395c952dd84c2891e574c161493c1c841ea9d2833f89"), looks := false }, kinds := [], alts := [], laidByText := true, laidKinds := [.listed, .data], laidTests := true, laidLooks := .later }
def OpsSidesCardSaid : Prop := Claim7.holds Tryd.pinned (.plain (OpenSpec.ofChange opsSidesSpec)) opsSidesCard

/-- THE TIED CARD OF 'spinneylaw04.OpsBoth'. -/
def opsBothCard : Claim7 := { stood := { row := opsBothRow, standIns := [], harness := (true, "c7ba38c5fc357127ac6a395c952dd84c2891e574c161493c1c841ea9d2833f89"), looks := false }, kinds := [], alts := [], laidByText := true, laidKinds := [.listed, .data], laidTests := true, laidLooks := .later }
def OpsBothCardSaid : Prop := Claim7.holds Tryd.pinned (.plain (OpenSpec.ofChange opsBothSpec)) opsBothCard

/-- THE TIED CARD OF 'spinneylaw04.OpsTells'. -/
def opsTellsCard : Claim7 := { stood := { row := opsTellsRow, standIns := [], harness := (true, "c7ba38c5fc357127ac6a395c952dd84c2891e574c161493c1c841ea9d2833f89"), looks := false }, kinds := [], alts := [], laidByText := true, laidKinds := [.listed, .data], laidTests := true, laidLooks := .later }
def OpsTellsCardSaid : Prop := Claim7.holds Tryd.pinned (.plain (OpenSpec.ofChange opsTellsSpec)) opsTellsCard

/-- THE TIED CARD OF 'spinneylaw04.OpsBounds'. -/
def opsBoundsCard : Claim7 := { stood := { row := opsBoundsRow, standIns := [], harness := (true, "c7ba38c5fc357127ac6a395c952dd84c2891e574c161493c1c841ea9d2833f89"), looks := false }, kinds := [], alts := [], laidByText := true, laidKinds := [.listed, .data], laidTests := true, laidLooks := .later }
def OpsBoundsCardSaid : Prop := Claim7.holds Tryd.pinned (.plain (OpenSpec.ofChange opsBoundsSpec)) opsBoundsCard

/-- THE SECOND FORM's CARD OF 'spinneylaw04.OpsSides'. -/
def opsSidesUptoCard : Claim7 := { stood := { row := opsSidesUptoRow, standIns := [], harness := (true, "c7ba38c5fc357127ac6a395c952dd84c2891e574c161493c1c841ea9d2833f89"), looks := false }, kinds := [], alts := [], laidByText := true, laidKinds := [.listed, .data], laidTests := true, laidLooks := .later }
def OpsSidesUptoCardSaid : Prop := Claim7.holds Tryd.pinned (.plain (OpenSpec.upto opsSidesSpec)) opsSidesUptoCard

/-- THE SECOND FORM's CARD OF 'spinneylaw04.OpsBoth'. -/
def opsBothUptoCard : Claim7 := { stood := { row := opsBothUptoRow, standIns := [], harness := (true, "c7ba38c5fc357127ac6a395c952dd84c2891e574c161493c1c841ea9d2833f89"), looks := false }, kinds := [], alts := [], laidByText := true, laidKinds := [.listed, .data], laidTests := true, laidLooks := .later }
def OpsBothUptoCardSaid : Prop := Claim7.holds Tryd.pinned (.plain (OpenSpec.upto opsBothSpec)) opsBothUptoCard

/-- THE SECOND FORM's CARD OF 'spinneylaw04.OpsTells'. -/
def opsTellsUptoCard : Claim7 := { stood := { row := opsTellsUptoRow, standIns := [], harness := (true, "c7ba38c5fc357127ac6a395c952dd84c2891e574c161493c1c841ea9d2833f89"), looks := false }, kinds := [], alts := [], laidByText := true, laidKinds := [.listed, .data], laidTests := true, laidLooks := .later }
def OpsTellsUptoCardSaid : Prop := Claim7.holds Tryd.pinned (.plain (OpenSpec.upto opsTellsSpec)) opsTellsUptoCard

/-- THE SECOND FORM's CARD OF 'spinneylaw04.OpsBounds'. -/
def opsBoundsUptoCard : Claim7 := { stood := { row := opsBoundsUptoRow, standIns := [], harness := (true, "c7ba38c5fc357127ac6a395c952dd84c2891e574c161493c1c841ea9d2833f89"), looks := false }, kinds := [], alts := [], laidByText := true, laidKinds := [.listed, .data], laidTests := true, laidLooks := .later }
def OpsBoundsUptoCardSaid : Prop := Claim7.holds Tryd.pinned (.plain (OpenSpec.upto opsBoundsSpec)) opsBoundsUptoCard
end Rows
end Go.Proofs.YtkdjdhfoodlnfaaDoor
