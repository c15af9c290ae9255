/- TermVars holds, its card with it: whatever the inputs, where the library's tables lie as its text lays them, it returns true, and the inputs read as they did. Conditions: none beside. -/
import Derived.Test.YtgcbaefclkfnoaaDoorPart3
set_option linter.unusedVariables false
namespace Go.AE.YtgcbaefclkfnoaaDoor
open Go Go.AE Go.Proofs.YtgcbaefclkfnoaaDoor
theorem vars_plain : termVars.Plain := by
  intro a0 a1 w0 e0 w1 e1
  obtain ⟨_, h0, r0⟩ := term_rg w0 e0
  obtain ⟨x, rfl, hx⟩ := int_in w1 e1
  exact fun Wd vals hK har => vars_law h0 r0 (rg_of hx) Wd vals hK har
end Go.AE.YtgcbaefclkfnoaaDoor
namespace Go.Proofs.YtgcbaefclkfnoaaDoor
theorem termVars_holds : Rows.TermVarsCardSaid := termVars.proved Go.AE.YtgcbaefclkfnoaaDoor.vars_plain
#print axioms termVars_holds
end Go.Proofs.YtgcbaefclkfnoaaDoor
