/- OpsBoth holds, its card with it: whatever the name, where the library's variables lie as its text lays them, it returns true, and the input reads as it did. Conditions: none beside. -/
import Derived.Test.YtkdjdhfoodlnfaaDoorPart1
set_option linter.unusedVariables false
namespace Go.AE.YtkdjdhfoodlnfaaDoor
open Go Go.AE Go.Proofs.YtkdjdhfoodlnfaaDoor
theorem both_plain : opsBoth.Plain := by
  intro a0 w0 e0
  obtain ⟨s, rfl, _⟩ := in_str w0 e0
  exact callW_iff.1 (both_ok s)
end Go.AE.YtkdjdhfoodlnfaaDoor
namespace Go.Proofs.YtkdjdhfoodlnfaaDoor
theorem opsBoth_holds : Rows.OpsBothCardSaid := opsBoth.proved Go.AE.YtkdjdhfoodlnfaaDoor.both_plain
#print axioms opsBoth_holds
end Go.Proofs.YtkdjdhfoodlnfaaDoor
