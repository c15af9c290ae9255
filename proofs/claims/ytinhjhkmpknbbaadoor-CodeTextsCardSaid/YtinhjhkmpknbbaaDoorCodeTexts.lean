/- CodeTexts holds, its card with it: whatever the inputs, where the library's tables lie as its text lays them, it returns true, and the inputs read as they did. Conditions: none beside. -/
import Derived.Test.YtinhjhkmpknbbaaDoorPart3
set_option linter.unusedVariables false
namespace Go.AE.YtinhjhkmpknbbaaDoor
open Go Go.AE Go.Proofs.YtinhjhkmpknbbaaDoor
theorem texts_plain : codeTexts.Plain := by
  intro a0 w0 e0
  obtain ⟨_, h0, r0⟩ := instrs_in w0 e0
  exact callW_iff.1 (textsLaw_ok h0 r0)
end Go.AE.YtinhjhkmpknbbaaDoor
namespace Go.Proofs.YtinhjhkmpknbbaaDoor
theorem codeTexts_holds : Rows.CodeTextsCardSaid := codeTexts.proved Go.AE.YtinhjhkmpknbbaaDoor.texts_plain
#print axioms codeTexts_holds
end Go.Proofs.YtinhjhkmpknbbaaDoor
