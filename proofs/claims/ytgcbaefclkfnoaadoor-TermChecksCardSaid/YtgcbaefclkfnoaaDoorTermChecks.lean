/- TermChecks holds, its card with it: whatever the input, where the library's tables lie as its text lays them, it returns true, and the input reads as it did. Conditions: none beside. -/
import Derived.Test.YtgcbaefclkfnoaaDoorPart2
set_option linter.unusedVariables false
namespace Go.AE.YtgcbaefclkfnoaaDoor
open Go Go.AE Go.Proofs.YtgcbaefclkfnoaaDoor
theorem checks_plain : termChecks.Plain := by
  intro a0 w0 e0
  obtain ⟨_, h0⟩ := term_in w0 e0
  exact callW_iff.1 (checks_ok h0)
end Go.AE.YtgcbaefclkfnoaaDoor
namespace Go.Proofs.YtgcbaefclkfnoaaDoor
theorem termChecks_holds : Rows.TermChecksCardSaid := termChecks.proved Go.AE.YtgcbaefclkfnoaaDoor.checks_plain
#print axioms termChecks_holds
end Go.Proofs.YtgcbaefclkfnoaaDoor
