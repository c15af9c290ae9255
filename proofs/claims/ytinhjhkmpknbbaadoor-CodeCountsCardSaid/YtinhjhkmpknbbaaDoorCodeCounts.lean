/- CodeCounts holds, its card with it: whatever the inputs, where the library's tables lie as its text lays them, it returns true, and the inputs read as they did. Conditions: none beside. -/
import Derived.Test.YtinhjhkmpknbbaaDoorPart3
set_option linter.unusedVariables false
namespace Go.AE.YtinhjhkmpknbbaaDoor
open Go Go.AE Go.Proofs.YtinhjhkmpknbbaaDoor
theorem codeCounts_plain : codeCounts.Plain := by
  intro a0 w0 e0
  obtain ⟨_, h0⟩ := term_in w0 e0
  exact callW_iff.1 (countsLaw_ok h0)
end Go.AE.YtinhjhkmpknbbaaDoor
namespace Go.Proofs.YtinhjhkmpknbbaaDoor
theorem codeCounts_holds : Rows.CodeCountsCardSaid := codeCounts.proved Go.AE.YtinhjhkmpknbbaaDoor.codeCounts_plain
#print axioms codeCounts_holds
end Go.Proofs.YtinhjhkmpknbbaaDoor
