/- AE, part 32: loops as folds. -/
import Derived.Test.YtpgoibncgekflaaAexSym
set_option linter.unusedVariables false
set_option linter.unusedSimpArgs false
namespace Go.AE
open Go Go.RowKit

/-- rounds i, i + 1, .. of a loop: each goes on with a new state, or leaves -/
def rounds {σ ρ : Type} (f : Nat → σ → σ ⊕ ρ) : Nat → Nat → σ → σ ⊕ ρ
  | 0, _, s => .inl s
  | d + 1, i, s => match f i s with
    | .inl s' => rounds f d (i + 1) s'
    | .inr r => .inr r

/-- A loop of n rounds, by what one round does. inv: what holds where a round begins (the variables as the loop goes on with them). -/
theorem loop_fold {call : CallF} {K : Nat} {b : CC} {keep : List Bool} {σ ρ : Type} (f : Nat → σ → σ ⊕ ρ) (inv : Nat → σ → List AV → List AO → Prop) (fin : ρ → AXit → List AV → List AO → Prop) (ends : σ → AXit → List AV → List AO → Prop) (n : Nat)
    (step : ∀ i s v h, i < n → inv i s v h → match f i s with
      | .inl s' => ∃ v' h', exec call K b v h = some (.normal, v', h') ∧ inv (i + 1) s' (clr keep v') h'
      | .inr r => ∃ x v' h', exec call K b v h = some (x, v', h') ∧ x ≠ .normal ∧ fin r x v' h')
    (last : ∀ s v h, inv n s v h → ∃ x v' h', exec call K b v h = some (x, v', h') ∧ x ≠ .normal ∧ ends s x v' h') :
    ∀ (d i : Nat) (s : σ) (v : List AV) (h : List AO), i + d = n → inv i s (clr keep v) h → ∃ x v' h', loopN (exec call K b) keep (d + 1) v h = some (x, v', h') ∧ (match rounds f d i s with
      | .inl s' => ends s' x v' h'
      | .inr r => fin r x v' h') := by
  have out : ∀ {m : Nat} {v : List AV} {h : List AO} {x : AXit} {v' : List AV} {h' : List AO}, exec call K b (clr keep v) h = some (x, v', h') → x ≠ .normal → loopN (exec call K b) keep (m + 1) v h = some (x, v', h') := by
    intro m v h x v' h' he hx
    cases x with
    | normal => exact absurd rfl hx
    | exit id => exact loop_exit he
    | ret => exact loop_ret he
  intro d
  induction d with
  | zero =>
    intro i s v h hi hv
    have : i = n := by omega
    subst this
    obtain ⟨x, v', h', h1, h2, h3⟩ := last s _ _ hv
    exact ⟨x, v', h', out h1 h2, h3⟩
  | succ d ih =>
    intro i s v h hi hv
    have hs := step i s _ _ (by omega) hv
    simp only [rounds]
    cases hf : f i s with
    | inl s' =>
      rw [hf] at hs
      obtain ⟨v', h', h1, h2⟩ := hs
      rw [loop_normal h1]
      exact ih (i + 1) s' v' h' (by omega) h2
    | inr r =>
      rw [hf] at hs
      obtain ⟨x, v', h', h1, h2, h3⟩ := hs
      exact ⟨x, v', h', out h1 h2, h3⟩

/-! ### Objects of a caller's, and those made since -/
theorem own_get {h l : List AO} {k : Nat} : (h ++ l)[h.length + k]? = l[k]? := by
  rw [List.getElem?_append_right (by omega)]
  simp
theorem own_get0 {h l : List AO} : (h ++ l)[h.length]? = l[0]? := own_get (k := 0)
theorem own_set {h l : List AO} {k : Nat} {x : AO} : (h ++ l).set (h.length + k) x = h ++ l.set k x := by
  rw [List.set_append_right _ _ (by omega)]
  simp
theorem own_set0 {h l : List AO} {x : AO} : (h ++ l).set h.length x = h ++ l.set 0 x := own_set (k := 0)
theorem his_get {h l : List AO} {id : Nat} {o : AO} (ho : h[id]? = some o) : (h ++ l)[id]? = some o := by
  rw [List.getElem?_append_left (List.getElem?_eq_some_iff.1 ho).1]; exact ho
theorem his_set {h l : List AO} {id : Nat} {x : AO} (hlt : id < h.length) : (h ++ l).set id x = h.set id x ++ l := List.set_append_left _ _ hlt
theorem set_get {h : List AO} {id : Nat} {x : AO} (hlt : id < h.length) : (h.set id x)[id]? = some x := List.getElem?_set_self hlt
end Go.AE
