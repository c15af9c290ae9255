/- UnifyApart holds: whatever the input, it returns true, and the input reads as it did. Conditions: none. -/
import Derived.Test.YtpgoibncgekflaaPart3
set_option linter.unusedVariables false
namespace Go.AE.Ytpgoibncgekflaa
open Go Go.AE Go.Proofs.Ytpgoibncgekflaa
theorem wt_nn {cs : List AV} (h : WT T 22 cs) : ∃ c l, cs = [c] ∧ IsN c l := by
  obtain ⟨c, l, h0, hb⟩ := (wt_good h).2.2.2.2.2.2 rfl
  refine ⟨c, l, h0, hb, ?_⟩
  have t22' := t22
  generalize (22 : TypeId) = t at h t22'
  cases h with
  | bool i b ht hd => cases h0; trivial
  | int i k n ht hd hw => cases h0; trivial
  | str i s ht hd hs => cases h0; trivial
  | nil i e ht hd => cases h0; trivial
  | slc i e j l ht hd he hl hel has => cases h0; exact .inl rfl
  | struct _ i fs pts ht hd hlen hf =>
    rw [t22'] at ht
    cases ht
    cases hd
theorem uapart_plain : unifyApart.Plain := by
  intro a0 a1 a2 w0 e0 w1 e1 w2 e2
  obtain ⟨c0, bs, h0, hb⟩ := wt_nn w0
  obtain ⟨x, hx⟩ := (wt_good w1).1 rfl
  obtain ⟨y, hy⟩ := (wt_good w2).1 rfl
  rw [one_cell e0 h0]
  have h3 : AV.agg a1.cells = a1 := by
    have : asEl true a1.cells = some a1 := e1
    simpa [asEl] using this
  have h4 : AV.agg a2.cells = a2 := by
    have : asEl true a2.cells = some a2 := e2
    simpa [asEl] using this
  rw [h3] at hx
  rw [h4] at hy
  exact callW_iff.1 (uapart_ok hb hx hy)
end Go.AE.Ytpgoibncgekflaa
namespace Go.Proofs.Ytpgoibncgekflaa
theorem unifyApart_holds : Rows.UnifyApartSaid := unifyApart.proved Go.AE.Ytpgoibncgekflaa.uapart_plain
#print axioms unifyApart_holds
end Go.Proofs.Ytpgoibncgekflaa
