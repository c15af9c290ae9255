/- OpsBounds holds, its card with it: whatever the number, where the library's variables lie as its text lays them, it returns true, and the input reads as it did. Conditions: none beside. -/
import Derived.Test.YtkdjdhfoodlnfaaDoorPart1
set_option linter.unusedVariables false
namespace Go.AE.YtkdjdhfoodlnfaaDoor
open Go Go.AE Go.Proofs.YtkdjdhfoodlnfaaDoor
theorem bounds_plain : opsBounds.Plain := by
  intro a0 w0 e0
  obtain ⟨n, rfl, _⟩ := in_int w0 e0
  exact callW_iff.1 (bounds_ok n)
end Go.AE.YtkdjdhfoodlnfaaDoor
namespace Go.Proofs.YtkdjdhfoodlnfaaDoor
theorem opsBounds_holds : Rows.OpsBoundsCardSaid := opsBounds.proved Go.AE.YtkdjdhfoodlnfaaDoor.bounds_plain
#print axioms opsBounds_holds
end Go.Proofs.YtkdjdhfoodlnfaaDoor
