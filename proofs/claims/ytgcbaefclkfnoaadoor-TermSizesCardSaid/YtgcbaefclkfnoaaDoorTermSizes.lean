/- TermSizes holds, its card with it: whatever the input, where the library's tables lie as its text lays them, it returns true, and the input reads as it did. Conditions: none beside. -/
import Derived.Test.YtgcbaefclkfnoaaDoorPart2
set_option linter.unusedVariables false
namespace Go.AE.YtgcbaefclkfnoaaDoor
open Go Go.AE Go.Proofs.YtgcbaefclkfnoaaDoor
theorem terms_in {a : AV} (w : WT T 22 a.cells) (e : asEl ti22.agg a.cells = some a) : ∃ p, IsL a p := by
  obtain ⟨c, l, h, hl⟩ := tmTy.terms w
  rw [one_cell e h]; exact ⟨l, hl⟩
theorem sizes_plain : termSizes.Plain := by
  intro a0 a1 w0 e0 w1 e1
  obtain ⟨s, rfl, _⟩ := str_in w0 e0
  obtain ⟨_, h1⟩ := terms_in w1 e1
  exact callW_iff.1 (sizes_ok h1)
end Go.AE.YtgcbaefclkfnoaaDoor
namespace Go.Proofs.YtgcbaefclkfnoaaDoor
theorem termSizes_holds : Rows.TermSizesCardSaid := termSizes.proved Go.AE.YtgcbaefclkfnoaaDoor.sizes_plain
#print axioms termSizes_holds
end Go.Proofs.YtgcbaefclkfnoaaDoor
