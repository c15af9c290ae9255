/- TermOrders holds, its card with it: whatever the inputs, where the library's tables lie as its text lays them, it returns true, and the inputs read as they did. Conditions: none beside. -/
import Derived.Test.YtgcbaefclkfnoaaDoorPart2
set_option linter.unusedVariables false
namespace Go.AE.YtgcbaefclkfnoaaDoor
open Go Go.AE Go.Proofs.YtgcbaefclkfnoaaDoor
theorem orders_plain : termOrders.Plain := by
  intro a0 a1 a2 w0 e0 w1 e1 w2 e2
  obtain ⟨_, h0⟩ := term_in w0 e0
  obtain ⟨_, h1⟩ := term_in w1 e1
  obtain ⟨_, h2⟩ := term_in w2 e2
  exact callW_iff.1 (orders_ok h0 h1 h2)
end Go.AE.YtgcbaefclkfnoaaDoor
namespace Go.Proofs.YtgcbaefclkfnoaaDoor
theorem termOrders_holds : Rows.TermOrdersCardSaid := termOrders.proved Go.AE.YtgcbaefclkfnoaaDoor.orders_plain
#print axioms termOrders_holds
end Go.Proofs.YtgcbaefclkfnoaaDoor
