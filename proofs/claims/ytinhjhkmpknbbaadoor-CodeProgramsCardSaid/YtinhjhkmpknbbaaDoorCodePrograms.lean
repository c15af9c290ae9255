/- CodePrograms holds, its card with it: whatever the inputs, where the library's tables lie as its text lays them, it returns true, and the inputs read as they did. Conditions: none beside. -/
import Derived.Test.YtinhjhkmpknbbaaDoorPart4
set_option linter.unusedVariables false
namespace Go.AE.YtinhjhkmpknbbaaDoor
open Go Go.AE Go.Proofs.YtinhjhkmpknbbaaDoor
theorem codePrograms_plain : codePrograms.Plain := by
  intro a0 w0 e0
  obtain ⟨_, h0⟩ := cls_in w0 e0
  exact callW_iff.1 (programsLaw_ok h0)
end Go.AE.YtinhjhkmpknbbaaDoor
namespace Go.Proofs.YtinhjhkmpknbbaaDoor
theorem codePrograms_holds : Rows.CodeProgramsCardSaid := codePrograms.proved Go.AE.YtinhjhkmpknbbaaDoor.codePrograms_plain
#print axioms codePrograms_holds
end Go.Proofs.YtinhjhkmpknbbaaDoor
