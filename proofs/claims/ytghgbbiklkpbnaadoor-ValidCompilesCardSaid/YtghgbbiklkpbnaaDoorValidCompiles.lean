/- ValidCompiles holds, its card with it: whatever the inputs, where the library's tables lie as its text lays them, it returns true, and the inputs read as they did. Conditions: none beside. -/
import Derived.Test.YtghgbbiklkpbnaaDoorPart4
set_option linter.unusedVariables false
namespace Go.AE.YtghgbbiklkpbnaaDoor
open Go Go.AE Go.Proofs.YtghgbbiklkpbnaaDoor
theorem validCompiles_plain : validCompiles.Plain := by
  intro a0 w0 e0
  obtain ⟨_, h0⟩ := term_in w0 e0
  exact callW_iff.1 (compilesLaw_ok h0)
end Go.AE.YtghgbbiklkpbnaaDoor
namespace Go.Proofs.YtghgbbiklkpbnaaDoor
theorem validCompiles_holds : Rows.ValidCompilesCardSaid := validCompiles.proved Go.AE.YtghgbbiklkpbnaaDoor.validCompiles_plain
#print axioms validCompiles_holds
end Go.Proofs.YtghgbbiklkpbnaaDoor
