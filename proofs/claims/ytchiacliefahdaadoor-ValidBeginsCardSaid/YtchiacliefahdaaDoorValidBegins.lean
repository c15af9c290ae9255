/- ValidBegins holds, its card with it: whatever the input, where the library's tables lie as its text lays them, it returns true, and the input reads as it did. Conditions: none beside. -/
import Derived.Test.YtchiacliefahdaaDoorPart3
set_option linter.unusedVariables false
namespace Go.AE.YtchiacliefahdaaDoor
open Go Go.AE Go.Proofs.YtchiacliefahdaaDoor
theorem begins_plain : validBegins.Plain := by
  intro a0 a1 a2 w0 e0 w1 e1 w2 e2
  obtain ⟨_, h0⟩ := code_in w0 e0
  obtain ⟨n, h1⟩ := int3 w1
  obtain ⟨c, l, h2, hl⟩ := instrs_in w2
  rw [one_cell e1 h1, one_cell e2 h2]
  exact callW_iff.1 (begins_ok h0 hl)
end Go.AE.YtchiacliefahdaaDoor
namespace Go.Proofs.YtchiacliefahdaaDoor
theorem validBegins_holds : Rows.ValidBeginsCardSaid := validBegins.proved Go.AE.YtchiacliefahdaaDoor.begins_plain
#print axioms validBegins_holds
end Go.Proofs.YtchiacliefahdaaDoor
