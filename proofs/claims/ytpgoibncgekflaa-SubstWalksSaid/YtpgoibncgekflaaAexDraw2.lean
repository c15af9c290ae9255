/- AE, part 24: which order operations may be carried out in, and a region's run told by numbers. -/
import Derived.Test.YtpgoibncgekflaaAexDraw1
set_option linter.unusedVariables false
set_option linter.unusedSimpArgs false
namespace Go.AE
open Go Go.RowKit

/-! ### Compiled by what is looked at alone -/
theorem cO_cong {m m' : Tmp → Option Opd} {x : Operand} (h : ∀ t, x = .tmp t → m' t = m t) : cO m' x = cO m x := by
  cases x with
  | tmp t => exact h t rfl
  | _ => rfl
theorem cOs_cong {m m' : Tmp → Option Opd} {l : List Operand} (h : ∀ x ∈ l, cO m' x = cO m x) : cOs m' l = cOs m l := mapM_cong h
theorem cOo_cong {m m' : Tmp → Option Opd} {x : Option Operand} (h : ∀ y, x = some y → cO m' y = cO m y) : cOo m' x = cOo m x := by
  cases x with
  | none => rfl
  | some y => simp only [cOo, h y rfl]

theorem compOp_cong {T : Tb} {m m' : Tmp → Option Opd} {o : Oper} (h : ∀ x ∈ o.op.operands, cO m' x = cO m x) : compOp T m' o = compOp T m o := by
  obtain ⟨dst, op, type, pos, after, guard⟩ := o
  cases op <;> simp only [Op.operands] at h <;> simp only [compOp]
  case build t ps =>
    have : ∀ (f : Nat × Operand → Option (Nat × Nat)), (ps.toList.mapM fun p => (f p).bind fun q => (cO m' p.2).map fun x => (q.1, q.2, x)) = (ps.toList.mapM fun p => (f p).bind fun q => (cO m p.2).map fun x => (q.1, q.2, x)) := by
      intro f
      exact mapM_cong (fun p hp => by rw [h p.2 (by simp; exact ⟨p.1, by simpa using hp⟩)])
    simp only [this]
  case buildSlice t n ps =>
    have : (ps.toList.mapM fun p => (cO m' p.2).map fun x => (p.1, x)) = (ps.toList.mapM fun p => (cO m p.2).map fun x => (p.1, x)) :=
      mapM_cong (fun p hp => by rw [h p.2 (by simp; exact ⟨p.1, by simpa using hp⟩)])
    simp only [this]
  case makeFunc fn first cap =>
    rw [cOs_cong (l := first.toList) (fun x hx => h x (by simp at hx; simp [hx])), cOs_cong (l := cap.toList) (fun x hx => h x (by simp at hx; simp [hx]))]
  case slice t x lo hi mx =>
    rw [h x (by simp), cOo_cong (x := lo) (fun y hy => h y (by simp [hy])), cOo_cong (x := hi) (fun y hy => h y (by simp [hy])), cOo_cong (x := mx) (fun y hy => h y (by simp [hy]))]
  case call c =>
    have ha : ∀ x ∈ c.args, cO m' x = cO m x := fun x hx => h x (by simp [Call.operands, hx])
    have hl := cOs_cong (m := m) (m' := m') (l := c.args.toList) (fun x hx => ha x (by simpa using hx))
    have hg : ∀ x ∈ c.args.toList, cO m' x = cO m x := fun x hx => ha x (by simpa using hx)
    cases hc : c.callee with
    | value f =>
      have hf := h f (by simp [Call.operands, hc])
      cases f with
      | func f => simp only [hl]
      | tmp t => simp only [cO] at hf; simp only [hl, hf]
      | _ => rfl
    | invoke r n => rfl
    | builtin b =>
      cases b <;> try rfl
      · simp only
        split
        · rename_i s x t t' e1 e2
          rw [e1] at hg
          rw [hg s (by simp), hg x (by simp)]
        · rfl
      · simp only
        split
        · rename_i x t e1 e2
          rw [e1] at hg
          rw [hg x (by simp)]
        · rfl
  all_goals (first | rfl | (simp at h; simp only [h]; done) | (simp at h; simp only [h.1, h.2]; done) | (simp at h; simp only [h.1, h.2.1, h.2.2]; done))

def Opd.from (m : Tmp → Option Opd) (x : Opd) : Prop := (∃ v, x = .k v) ∨ (∃ f, x = .fn f) ∨ ∃ t, m t = some x
theorem cO_from {m : Tmp → Option Opd} {x : Operand} {y : Opd} (h : cO m x = some y) : y.from m := by
  cases x with
  | tmp t => exact .inr (.inr ⟨t, h⟩)
  | const v => simp only [cO, Option.some.injEq] at h; exact .inl ⟨v, h.symm⟩
  | func f => simp only [cO, Option.some.injEq] at h; exact .inr (.inl ⟨f, h.symm⟩)
  | global g => cases h
theorem mapM_mem {α β : Type} {f : α → Option β} {l : List α} {r : List β} (h : l.mapM f = some r) : ∀ y ∈ r, ∃ x ∈ l, f x = some y := by
  induction l generalizing r with
  | nil => simp at h; subst h; intro y hy; simp at hy
  | cons x l ih =>
    simp only [List.mapM_cons, Option.bind_eq_bind, Option.bind_eq_some_iff, Option.pure_def, Option.some.injEq] at h
    obtain ⟨y, h1, ys, h3, rfl⟩ := h
    intro z hz
    rcases List.mem_cons.1 hz with rfl | hz
    · exact ⟨x, by simp, h1⟩
    · obtain ⟨u, hu, e⟩ := ih h3 z hz
      exact ⟨u, by simp [hu], e⟩

/-- What is looked at through stands for a temporary, or is a constant. -/
theorem compOp_args {T : Tb} {m : Tmp → Option Opd} {o : Oper} {c : COp} (hc : compOp T m o = some c) (hR : c.isR = true) : ∀ x ∈ c.args, x.from m := by
  obtain ⟨dst, op, type, pos, after, guard⟩ := o
  cases op <;> simp only [compOp] at hc <;> try (cases hc; done)
  case buildSlice t n ps =>
    split at hc
    · split at hc
      · split at hc
        · split at hc
          · rename_i ps' hps
            split at hc
            · cases hc
              intro x hx
              simp only [COp.args, List.mem_map] at hx
              obtain ⟨p, hp, rfl⟩ := hx
              obtain ⟨q, hq, e⟩ := mapM_mem hps p hp
              obtain ⟨y, hy, rfl⟩ := Option.map_eq_some_iff.1 e
              exact cO_from hy
            · cases hc
          · cases hc
        · cases hc
      · cases hc
    · cases hc
  case call cl =>
    split at hc
    · obtain ⟨l, hl, rfl⟩ := Option.map_eq_some_iff.1 hc
      intro x hx
      cases hp : T.pureF _ <;> rw [hp] at hx hR <;> simp only [COp.isR, COp.args, Bool.false_eq_true] at hR hx
      obtain ⟨q, hq, e⟩ := mapM_mem hl x hx
      exact cO_from e
    · split at hc
      · cases hc; cases hR
      · cases hc
    · split at hc
      · split at hc
        · split at hc
          · split at hc
            · split at hc
              · split at hc
                · cases hc; cases hR
                · cases hc
              · cases hc
            · cases hc
          · cases hc
        · cases hc
      · cases hc
    · split at hc
      · split at hc
        · rename_i hx
          split at hc <;> first | (cases hc; intro x hx'; simp only [COp.args, List.mem_singleton] at hx'; subst hx'; exact cO_from hx) | cases hc
        · cases hc
      · cases hc
    · cases hc
  case binOp op xt x y yt =>
    split at hc
    · rename_i h1 h2
      unfold compBin at hc
      intro z hz
      split at hc
      · split at hc
        all_goals first
          | (cases hc; cases hR; done)
          | (split at hc <;> first
              | (cases hc; simp only [COp.args, List.mem_cons, List.not_mem_nil, or_false] at hz; rcases hz with rfl | rfl <;> first | exact cO_from h1 | exact cO_from h2)
              | cases hc)
          | cases hc
      · cases hc
    · cases hc
  all_goals first
    | (obtain ⟨y, hy, rfl⟩ := Option.map_eq_some_iff.1 hc; first | (cases hR; done) | (intro x hx; simp only [COp.args, List.mem_singleton] at hx; subst hx; exact cO_from hy))
    | (split at hc <;> first | cases hc | skip)
  all_goals try (cases hR; done)
  all_goals first
    | (intro x hx; simp only [COp.args, List.mem_singleton] at hx; subst hx; apply cO_from; assumption)
    | (split at hc <;> first | cases hc | skip)
  all_goals try (cases hR; done)
  all_goals first
    | (intro x hx; simp only [COp.args, List.mem_singleton] at hx; subst hx; apply cO_from; assumption)
    | (split at hc <;> first | cases hc | skip)
  all_goals try (cases hR; done)
  all_goals first
    | (intro x hx; simp only [COp.args, List.mem_singleton] at hx; subst hx; apply cO_from; assumption)
    | (split at hc <;> first | cases hc | skip)
  all_goals try (cases hR; done)
  all_goals first
    | (intro x hx; simp only [COp.args, List.mem_singleton] at hx; subst hx; apply cO_from; assumption)
    | (split at hc <;> first | cases hc | skip)
  all_goals try (cases hR; done)
  all_goals (intro x hx; simp only [COp.args, List.mem_singleton] at hx; subst hx; apply cO_from; assumption)

/-! ### What must have come before -/
def bindsOf (o : Oper) : List Nat := (o.after.toList.filter (Region.binds .any)).map (·.on)
def ancOne (tab : List Nat) (es : List Nat) : Nat := es.foldl (fun m k => m ||| (1 <<< k) ||| tab.getD k 0) 0
def ancGo : List Nat → List Oper → List Nat
  | tab, [] => tab
  | tab, o :: r => ancGo (tab ++ [ancOne tab (bindsOf o)]) r

theorem ancOne_bit {tab : List Nat} {i : Nat} : ∀ (es : List Nat) (m : Nat), (es.foldl (fun m k => m ||| (1 <<< k) ||| tab.getD k 0) m).testBit i = true → m.testBit i = true ∨ ∃ k ∈ es, i = k ∨ (tab.getD k 0).testBit i = true := by
  intro es
  induction es with
  | nil => intro m h; exact .inl h
  | cons k es ih =>
    intro m h
    rcases ih _ h with h | ⟨k', hk, h⟩
    · simp only [Nat.testBit_or, Bool.or_eq_true] at h
      rcases h with (h | h) | h
      · exact .inl h
      · refine .inr ⟨k, by simp, .inl ?_⟩
        rw [Nat.one_shiftLeft, Nat.testBit_two_pow] at h
        simpa [eq_comm] using h
      · exact .inr ⟨k, by simp, .inr h⟩
    · exact .inr ⟨k', by simp [hk], h⟩

theorem ancGo_pre : ∀ (l : List Oper) (tab : List Nat), ∃ r, ancGo tab l = tab ++ r := by
  intro l
  induction l with
  | nil => intro tab; exact ⟨[], by simp [ancGo]⟩
  | cons o l ih =>
    intro tab
    obtain ⟨r, hr⟩ := ih (tab ++ [ancOne tab (bindsOf o)])
    exact ⟨_ :: r, by rw [ancGo, hr, List.append_assoc]; rfl⟩

theorem ancGo_bit : ∀ (l : List Oper) (tab : List Nat) (j : Nat) (o : Oper) (i : Nat), l[j]? = some o → (∀ k ∈ bindsOf o, k < tab.length + j) → ((ancGo tab l).getD (tab.length + j) 0).testBit i = true →
    ∃ k ∈ bindsOf o, i = k ∨ ((ancGo tab l).getD k 0).testBit i = true := by
  intro l
  induction l with
  | nil => intro tab j o i h; simp at h
  | cons x l ih =>
    intro tab j o i h hk hb
    cases j with
    | zero =>
      simp at h; subst h
      obtain ⟨r, hr⟩ := ancGo_pre l (tab ++ [ancOne tab (bindsOf x)])
      simp only [ancGo] at hb ⊢
      rw [hr] at hb ⊢
      have e1 : (tab ++ [ancOne tab (bindsOf x)] ++ r).getD (tab.length + 0) 0 = ancOne tab (bindsOf x) := by
        simp [List.getD_eq_getElem?_getD]
      rw [e1] at hb
      rcases ancOne_bit _ _ hb with h | ⟨k, hkm, h⟩
      · simp at h
      · refine ⟨k, hkm, h.imp id (fun h => ?_)⟩
        have hlt := hk k hkm
        rw [List.append_assoc, List.getD_eq_getElem?_getD, List.getElem?_append_left (by omega), ← List.getD_eq_getElem?_getD]
        exact h
    | succ j =>
      simp only [ancGo] at hb ⊢
      have := ih (tab ++ [ancOne tab (bindsOf x)]) j o i (by simpa using h) (by intro k hkm; have := hk k hkm; simp; omega)
      simp only [List.length_append, List.length_singleton] at this
      rw [show tab.length + 1 + j = tab.length + (j + 1) by omega] at this
      exact this hb
end Go.AE
