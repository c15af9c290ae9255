/- LogOrders holds: whatever the input, it returns true, and the input reads as it did. Conditions: none. -/
import Derived.Test.YtkdjdhfoodlnfaaPart1
import Derived.Test.YtkdjdhfoodlnfaaPart2
set_option linter.unusedVariables false
namespace Go.AE.Ytkdjdhfoodlnfaa
open Go Go.AE Go.Proofs.Ytkdjdhfoodlnfaa
theorem orders_plain : logOrders.Plain := by
  intro a0 a1 w0 e0 w1 e1
  obtain ⟨l, h0⟩ := log_in w0 e0
  obtain ⟨n1, rfl, _⟩ := int_in w1 e1
  exact callW_iff.1 (ordersLaw_ok h0 n1)
end Go.AE.Ytkdjdhfoodlnfaa
namespace Go.Proofs.Ytkdjdhfoodlnfaa
theorem logOrders_holds : Rows.LogOrdersSaid := logOrders.proved Go.AE.Ytkdjdhfoodlnfaa.orders_plain
#print axioms logOrders_holds
end Go.Proofs.Ytkdjdhfoodlnfaa
