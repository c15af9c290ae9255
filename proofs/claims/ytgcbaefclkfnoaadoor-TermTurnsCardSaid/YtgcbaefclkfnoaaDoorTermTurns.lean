/- TermTurns holds, its card with it: whatever the inputs, where the library's tables lie as its text lays them, it returns true, and the inputs read as they did. Conditions: none beside. -/
import Derived.Test.YtgcbaefclkfnoaaDoorPart3
set_option linter.unusedVariables false
namespace Go.AE.YtgcbaefclkfnoaaDoor
open Go Go.AE Go.Proofs.YtgcbaefclkfnoaaDoor
theorem turns_plain : termTurns.Plain := by
  intro a0 a1 a2 a3 w0 e0 w1 e1 w2 e2 w3 e3
  obtain ⟨_, h0, r0⟩ := term_rg w0 e0
  obtain ⟨_, h1⟩ := term_in w1 e1
  obtain ⟨_, h2⟩ := term_in w2 e2
  obtain ⟨x, rfl, _⟩ := int_in w3 e3
  exact callW_iff.1 (turns_ok h0 h1 h2 r0)
end Go.AE.YtgcbaefclkfnoaaDoor
namespace Go.Proofs.YtgcbaefclkfnoaaDoor
theorem termTurns_holds : Rows.TermTurnsCardSaid := termTurns.proved Go.AE.YtgcbaefclkfnoaaDoor.turns_plain
#print axioms termTurns_holds
end Go.Proofs.YtgcbaefclkfnoaaDoor
