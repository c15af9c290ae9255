/-
  DERIVED. GIVEN WITH THE SEED: THE CARDS: each row of YtghgbbiklkpbnaaDoorRows.lean that lists a variable, with what it lists TIED to the program's text (the seventh form; the later family's looks); each row that meets fmt, with fmt's text TOLD by the authors' own Lean function (tested against real Go, not proved from fmt's source: count such statements apart). THE CARD IS WHAT COUNTS. Prove the row's statement (the work); the ties are given (YtghgbbiklkpbnaaDoorTie.lean); close each card by the builder's one call (the guide's Derived/Test/ToyasCard.lean, 'card_holds'). Laid BY PROGRAM, IN A SANDBOX (cutbox-door.mjs). By AI agents, Wed Nov 11 2026. No macro, syntax, notation, axiom, sorry.
-/
import Derived.Test.YtghgbbiklkpbnaaDoorRows
import GoSem.ClaimSeven
namespace Go.Proofs.YtghgbbiklkpbnaaDoor
namespace Rows

/-- THE TIED CARD OF 'spinneylaw16.ValidChecks'. -/
def validChecksCard : Claim7 := { stood := { row := validChecksRow, standIns := [], harness := (true, "dd5d96b3bd7124d61e7cb045257e13bd447916728e2794bee7aaf161be6370c7"), looks := false }, kinds := [], alts := [], laidByText := true, laidKinds := [.data, .pinned], laidTests := true, laidLooks := .later }
def ValidChecksCardSaid : Prop := Claim7.holds Tryd.pinned (.plain (OpenSpec.ofChange validChecksSpec)) validChecksCard

/-- THE TIED CARD OF 'spinneylaw16.ValidCompiles'. -/
def validCompilesCard : Claim7 := { stood := { row := validCompilesRow, standIns := [], harness := (true, "dd5d96b3bd7124d61e7cb045257e13bd447916728e2794bee7aaf161be6370c7"), looks := false }, kinds := [], alts := [], laidByText := true, laidKinds := [.data, .pinned], laidTests := true, laidLooks := .later }
def ValidCompilesCardSaid : Prop := Claim7.holds Tryd.pinned (.plain (OpenSpec.ofChange validCompilesSpec)) validCompilesCard

/-- THE SECOND FORM's CARD OF 'spinneylaw16.ValidChecks'. -/
def validChecksUptoCard : Claim7 := { stood := { row := validChecksUptoRow, standIns := [], harness := (true, "dd5d96b3bd7124d61e7cb045257e13bd447916728e2794bee7aaf161be6370c7"), looks := false }, kinds := [], alts := [], laidByText := true, laidKinds := [.data, .pinned], laidTests := true, laidLooks := .later }
def ValidChecksUptoCardSaid : Prop := Claim7.holds Tryd.pinned (.plain (OpenSpec.upto validChecksSpec)) validChecksUptoCard

/-- THE SECOND FORM's CARD OF 'spinneylaw16.ValidCompiles'. -/
def validCompilesUptoCard : Claim7 := { stood := { row := validCompilesUptoRow, standIns := [], harness := (true, "dd5d96b3bd7124d61e7cb045257e13bd447916728e2794bee7aaf161be6370c7"), looks := false }, kinds := [], alts := [], laidByText := true, laidKinds := [.data, .pinned], laidTests := true, laidLooks := .later }
def ValidCompilesUptoCardSaid : Prop := Claim7.holds Tryd.pinned (.plain (OpenSpec.upto validCompilesSpec)) validCompilesUptoCard
end Rows
end Go.Proofs.YtghgbbiklkpbnaaDoor
