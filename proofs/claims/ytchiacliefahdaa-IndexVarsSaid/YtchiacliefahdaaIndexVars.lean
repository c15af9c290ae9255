/- IndexVars holds: whatever the input, it returns true, and the input reads as it did. Conditions: none. -/
import Derived.Test.YtchiacliefahdaaPart2
set_option linter.unusedVariables false
namespace Go.AE.Ytchiacliefahdaa
open Go Go.AE Go.Proofs.Ytchiacliefahdaa
theorem vars_plain : indexVars.Plain := by
  intro a0 a1 a2 w0 e0 w1 e1 w2 e2
  obtain ⟨_, h0⟩ := cls_in w0 e0
  obtain ⟨n, rfl, _⟩ := int_in w1 e1
  obtain ⟨_, h2⟩ := term_in w2 e2
  exact callW_iff.1 (vars_ok h0 h2)
end Go.AE.Ytchiacliefahdaa
namespace Go.Proofs.Ytchiacliefahdaa
theorem indexVars_holds : Rows.IndexVarsSaid := indexVars.proved Go.AE.Ytchiacliefahdaa.vars_plain
#print axioms indexVars_holds
end Go.Proofs.Ytchiacliefahdaa
