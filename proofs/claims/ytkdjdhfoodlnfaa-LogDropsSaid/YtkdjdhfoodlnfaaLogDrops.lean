/- LogDrops holds: whatever the input, it returns true, and the input reads as it did. Conditions: none. -/
import Derived.Test.YtkdjdhfoodlnfaaPart1
import Derived.Test.YtkdjdhfoodlnfaaPart2
set_option linter.unusedVariables false
namespace Go.AE.Ytkdjdhfoodlnfaa
open Go Go.AE Go.Proofs.Ytkdjdhfoodlnfaa
theorem drops_plain : logDrops.Plain := by
  intro a0 a1 a2 a3 w0 e0 w1 e1 w2 e2 w3 e3
  obtain ⟨l, h0⟩ := log_in w0 e0
  obtain ⟨y, h1⟩ := ns_in w1 e1
  obtain ⟨n2, rfl, _⟩ := int_in w2 e2
  obtain ⟨op, h3⟩ := nss_in w3 e3
  exact callW_iff.1 (dropsLaw_ok h0 h1 n2 h3)
end Go.AE.Ytkdjdhfoodlnfaa
namespace Go.Proofs.Ytkdjdhfoodlnfaa
theorem logDrops_holds : Rows.LogDropsSaid := logDrops.proved Go.AE.Ytkdjdhfoodlnfaa.drops_plain
#print axioms logDrops_holds
end Go.Proofs.Ytkdjdhfoodlnfaa
