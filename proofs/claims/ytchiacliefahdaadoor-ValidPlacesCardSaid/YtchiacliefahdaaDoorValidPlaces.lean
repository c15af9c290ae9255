/- ValidPlaces holds, its card with it: whatever the input, where the library's tables lie as its text lays them, it returns true, and the input reads as it did. Conditions: none beside. -/
import Derived.Test.YtchiacliefahdaaDoorPart3
set_option linter.unusedVariables false
namespace Go.AE.YtchiacliefahdaaDoor
open Go Go.AE Go.Proofs.YtchiacliefahdaaDoor
theorem places_plain : validPlaces.Plain := by
  intro a0 w0 e0
  obtain ⟨_, h0⟩ := code_in w0 e0
  exact callW_iff.1 (places_ok h0)
end Go.AE.YtchiacliefahdaaDoor
namespace Go.Proofs.YtchiacliefahdaaDoor
theorem validPlaces_holds : Rows.ValidPlacesCardSaid := validPlaces.proved Go.AE.YtchiacliefahdaaDoor.places_plain
#print axioms validPlaces_holds
end Go.Proofs.YtchiacliefahdaaDoor
