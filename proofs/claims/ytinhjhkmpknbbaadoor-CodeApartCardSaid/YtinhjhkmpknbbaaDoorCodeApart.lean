/- CodeApart holds, its card with it: whatever the inputs, where the library's tables lie as its text lays them, it returns true, and the inputs read as they did. Conditions: none beside. -/
import Derived.Test.YtinhjhkmpknbbaaDoorPart3
set_option linter.unusedVariables false
namespace Go.AE.YtinhjhkmpknbbaaDoor
open Go Go.AE Go.Proofs.YtinhjhkmpknbbaaDoor
theorem codeApart_plain : codeApart.Plain := by
  intro a0 a1 w0 e0 w1 e1
  obtain ⟨_, h0⟩ := term_in w0 e0
  obtain ⟨_, h1⟩ := term_in w1 e1
  exact callW_iff.1 (apartLaw_ok h0 h1)
end Go.AE.YtinhjhkmpknbbaaDoor
namespace Go.Proofs.YtinhjhkmpknbbaaDoor
theorem codeApart_holds : Rows.CodeApartCardSaid := codeApart.proved Go.AE.YtinhjhkmpknbbaaDoor.codeApart_plain
#print axioms codeApart_holds
end Go.Proofs.YtinhjhkmpknbbaaDoor
