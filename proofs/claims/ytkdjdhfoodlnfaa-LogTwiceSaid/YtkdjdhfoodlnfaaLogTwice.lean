/- LogTwice holds: whatever the input, it returns true, and the input reads as it did. Conditions: none. -/
import Derived.Test.YtkdjdhfoodlnfaaPart1
import Derived.Test.YtkdjdhfoodlnfaaPart2
set_option linter.unusedVariables false
namespace Go.AE.Ytkdjdhfoodlnfaa
open Go Go.AE Go.Proofs.Ytkdjdhfoodlnfaa
theorem twice_plain : logTwice.Plain := by
  intro a0 a1 a2 a3 w0 e0 w1 e1 w2 e2 w3 e3
  obtain ⟨l, h0⟩ := log_in w0 e0
  obtain ⟨x, h1⟩ := ent_in w1 e1
  obtain ⟨y, h2⟩ := ns_in w2 e2
  obtain ⟨n3, rfl, _⟩ := int_in w3 e3
  exact callW_iff.1 (twiceLaw_ok h0 h1 h2 n3)
end Go.AE.Ytkdjdhfoodlnfaa
namespace Go.Proofs.Ytkdjdhfoodlnfaa
theorem logTwice_holds : Rows.LogTwiceSaid := logTwice.proved Go.AE.Ytkdjdhfoodlnfaa.twice_plain
#print axioms logTwice_holds
end Go.Proofs.Ytkdjdhfoodlnfaa
