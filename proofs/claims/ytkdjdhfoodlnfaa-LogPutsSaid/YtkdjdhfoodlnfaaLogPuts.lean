/- LogPuts holds: whatever the input, it returns true, and the input reads as it did. Conditions: none. -/
import Derived.Test.YtkdjdhfoodlnfaaPart1
import Derived.Test.YtkdjdhfoodlnfaaPart2
set_option linter.unusedVariables false
namespace Go.AE.Ytkdjdhfoodlnfaa
open Go Go.AE Go.Proofs.Ytkdjdhfoodlnfaa
theorem puts_plain : logPuts.Plain := by
  intro a0 a1 w0 e0 w1 e1
  obtain ⟨l, h0⟩ := log_in w0 e0
  obtain ⟨x, h1⟩ := ent_in w1 e1
  exact callW_iff.1 (putsLaw_ok h0 h1)
end Go.AE.Ytkdjdhfoodlnfaa
namespace Go.Proofs.Ytkdjdhfoodlnfaa
theorem logPuts_holds : Rows.LogPutsSaid := logPuts.proved Go.AE.Ytkdjdhfoodlnfaa.puts_plain
#print axioms logPuts_holds
end Go.Proofs.Ytkdjdhfoodlnfaa
