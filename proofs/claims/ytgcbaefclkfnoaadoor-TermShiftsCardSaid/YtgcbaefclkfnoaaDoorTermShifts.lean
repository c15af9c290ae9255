/- TermShifts holds, its card with it: whatever the inputs, where the library's tables lie as its text lays them, it returns true, and the inputs read as they did. Conditions: none beside. -/
import Derived.Test.YtgcbaefclkfnoaaDoorPart3
set_option linter.unusedVariables false
namespace Go.AE.YtgcbaefclkfnoaaDoor
open Go Go.AE Go.Proofs.YtgcbaefclkfnoaaDoor
theorem shifts_plain : termShifts.Plain := by
  intro a0 a1 w0 e0 w1 e1
  obtain ⟨_, h0, r0⟩ := term_rg w0 e0
  obtain ⟨x, rfl, hx⟩ := int_in w1 e1
  exact callW_iff.1 (shifts_ok h0 r0 (rg_of hx))
end Go.AE.YtgcbaefclkfnoaaDoor
namespace Go.Proofs.YtgcbaefclkfnoaaDoor
theorem termShifts_holds : Rows.TermShiftsCardSaid := termShifts.proved Go.AE.YtgcbaefclkfnoaaDoor.shifts_plain
#print axioms termShifts_holds
end Go.Proofs.YtgcbaefclkfnoaaDoor
