/- TermSames holds, its card with it: whatever the inputs, where the library's tables lie as its text lays them, it returns true, and the inputs read as they did. Conditions: none beside. -/
import Derived.Test.YtgcbaefclkfnoaaDoorPart3
set_option linter.unusedVariables false
namespace Go.AE.YtgcbaefclkfnoaaDoor
open Go Go.AE Go.Proofs.YtgcbaefclkfnoaaDoor
theorem sames_plain : termSames.Plain := by
  intro a0 a1 w0 e0 w1 e1
  obtain ⟨_, h0⟩ := term_in w0 e0
  obtain ⟨_, h1⟩ := term_in w1 e1
  exact callW_iff.1 (sames_ok h0 h1)
end Go.AE.YtgcbaefclkfnoaaDoor
namespace Go.Proofs.YtgcbaefclkfnoaaDoor
theorem termSames_holds : Rows.TermSamesCardSaid := termSames.proved Go.AE.YtgcbaefclkfnoaaDoor.sames_plain
#print axioms termSames_holds
end Go.Proofs.YtgcbaefclkfnoaaDoor
