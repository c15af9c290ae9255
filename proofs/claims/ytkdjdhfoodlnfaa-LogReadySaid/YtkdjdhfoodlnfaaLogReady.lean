/- LogReady holds: whatever the input, it returns true, and the input reads as it did. Conditions: none. -/
import Derived.Test.YtkdjdhfoodlnfaaPart1
import Derived.Test.YtkdjdhfoodlnfaaPart2
set_option linter.unusedVariables false
namespace Go.AE.Ytkdjdhfoodlnfaa
open Go Go.AE Go.Proofs.Ytkdjdhfoodlnfaa
theorem ready_plain : logReady.Plain := by
  intro a0 a1 a2 a3 w0 e0 w1 e1 w2 e2 w3 e3
  obtain ⟨l, h0⟩ := log_in w0 e0
  obtain ⟨op, h1⟩ := nss_in w1 e1
  obtain ⟨n2, rfl, _⟩ := int_in w2 e2
  obtain ⟨n3, rfl, _⟩ := int_in w3 e3
  exact callW_iff.1 (readyLaw_ok h0 h1 n2 n3)
end Go.AE.Ytkdjdhfoodlnfaa
namespace Go.Proofs.Ytkdjdhfoodlnfaa
theorem logReady_holds : Rows.LogReadySaid := logReady.proved Go.AE.Ytkdjdhfoodlnfaa.ready_plain
#print axioms logReady_holds
end Go.Proofs.Ytkdjdhfoodlnfaa
