/- IndexTwice holds: whatever the input, it returns true, and the input reads as it did. Conditions: none. -/
import Derived.Test.YtchiacliefahdaaPart2
set_option linter.unusedVariables false
namespace Go.AE.Ytchiacliefahdaa
open Go Go.AE Go.Proofs.Ytchiacliefahdaa
theorem twice_plain : indexTwice.Plain := by
  intro a0 a1 a2 a3 w0 e0 w1 e1 w2 e2 w3 e3
  obtain ⟨_, h0⟩ := cls_in w0 e0
  obtain ⟨_, h1⟩ := ints_in w1 e1
  obtain ⟨_, h2⟩ := binds_in w2 e2
  obtain ⟨_, h3⟩ := term_in w3 e3
  exact callW_iff.1 (twice_ok h0 h1 h2 h3)
end Go.AE.Ytchiacliefahdaa
namespace Go.Proofs.Ytchiacliefahdaa
theorem indexTwice_holds : Rows.IndexTwiceSaid := indexTwice.proved Go.AE.Ytchiacliefahdaa.twice_plain
#print axioms indexTwice_holds
end Go.Proofs.Ytchiacliefahdaa
