/- TermTexts holds, its card with it: whatever the inputs, where the library's tables lie as its text lays them, it returns true, and the inputs read as they did. Conditions: none beside. -/
import Derived.Test.YtgcbaefclkfnoaaDoorPart4
set_option linter.unusedVariables false
namespace Go.AE.YtgcbaefclkfnoaaDoor
open Go Go.AE Go.Proofs.YtgcbaefclkfnoaaDoor
theorem texts_plain : termTexts.Plain := by
  intro a0 w0 e0
  obtain ⟨_, h0, r0⟩ := term_rg w0 e0
  exact callW_iff.1 (texts_ok h0 r0)
end Go.AE.YtgcbaefclkfnoaaDoor
namespace Go.Proofs.YtgcbaefclkfnoaaDoor
theorem termTexts_holds : Rows.TermTextsCardSaid := termTexts.proved Go.AE.YtgcbaefclkfnoaaDoor.texts_plain
#print axioms termTexts_holds
end Go.Proofs.YtgcbaefclkfnoaaDoor
