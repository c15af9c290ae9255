/- ValidChecks holds, its card with it: whatever the inputs, where the library's tables lie as its text lays them, it returns true, and the inputs read as they did. Conditions: none beside. -/
import Derived.Test.YtghgbbiklkpbnaaDoorPart4
set_option linter.unusedVariables false
namespace Go.AE.YtghgbbiklkpbnaaDoor
open Go Go.AE Go.Proofs.YtghgbbiklkpbnaaDoor
theorem validChecks_plain : validChecks.Plain := by
  intro a0 w0 e0
  obtain ⟨_, h0⟩ := Chk.code_in w0 e0
  exact callW_iff.1 (Chk.checks_ok h0)
end Go.AE.YtghgbbiklkpbnaaDoor
namespace Go.Proofs.YtghgbbiklkpbnaaDoor
theorem validChecks_holds : Rows.ValidChecksCardSaid := validChecks.proved Go.AE.YtghgbbiklkpbnaaDoor.validChecks_plain
#print axioms validChecks_holds
end Go.Proofs.YtghgbbiklkpbnaaDoor
