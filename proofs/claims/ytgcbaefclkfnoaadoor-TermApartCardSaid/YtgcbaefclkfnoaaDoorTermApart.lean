/- TermApart holds, its card with it: whatever the inputs, where the library's tables lie as its text lays them, it returns true, and the inputs read as they did. Conditions: none beside. -/
import Derived.Test.YtgcbaefclkfnoaaDoorPart4
set_option linter.unusedVariables false
namespace Go.AE.YtgcbaefclkfnoaaDoor
open Go Go.AE Go.Proofs.YtgcbaefclkfnoaaDoor
theorem apart_plain : termApart.Plain := by
  intro a0 a1 w0 e0 w1 e1
  obtain ⟨_, h0, r0⟩ := term_rg w0 e0
  obtain ⟨_, h1, r1⟩ := term_rg w1 e1
  exact callW_iff.1 (apart_ok h0 h1 r0 r1)
end Go.AE.YtgcbaefclkfnoaaDoor
namespace Go.Proofs.YtgcbaefclkfnoaaDoor
theorem termApart_holds : Rows.TermApartCardSaid := termApart.proved Go.AE.YtgcbaefclkfnoaaDoor.apart_plain
#print axioms termApart_holds
end Go.Proofs.YtgcbaefclkfnoaaDoor
