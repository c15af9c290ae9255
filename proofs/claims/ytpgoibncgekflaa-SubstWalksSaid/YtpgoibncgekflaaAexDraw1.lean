/- AE, part 23: what operations ask of the objects. -/
import Derived.Test.YtpgoibncgekflaaAexExec
set_option linter.unusedVariables false
set_option linter.unusedSimpArgs false
namespace Go.AE
open Go Go.RowKit

/-- it may change the objects -/
def COp.isE : COp → Bool
  | .box _ | .mkslice .. | .mkmap | .range _ | .append .. | .store .. | .call false _ _ | .callv .. | .mapupd .. | .next _ => true
  | _ => false
/-- it does nothing to them but put new ones behind -/
def COp.isPush : COp → Bool
  | .box _ | .mkslice .. | .mkmap | .range _ => true
  | .append _ _ (.k (.slice none 0 0)) _ => true
  | _ => false
/-- it looks at them -/
def COp.isR : COp → Bool
  | .load .. | .nilchk _ | .eqv .. | .slice .. | .fa .. | .ia .. | .len .. | .call true _ _ | .bslice .. | .lookup .. => true
  | _ => false
/-- what it looks at them through -/
def COp.args : COp → List Opd
  | .load _ _ x | .nilchk x | .slice _ x _ _ _ | .fa _ x | .ia _ x _ | .len _ x | .lookup _ _ x _ => [x]
  | .eqv _ _ x y => [x, y]
  | .call true _ l => l
  | .bslice _ _ _ ps => ps.map (·.2)
  | _ => []

def AV.lt0 (n : Nat) : AV → Bool
  | .own _ id _ _ _ | .ptr id _ | .ep _ id _ _ _ | .mp id | .it id => decide (id < n)
  | _ => true
def AV.lt (n : Nat) : AV → Bool
  | .agg cs => cs.all (AV.lt0 n)
  | x => x.lt0 n

section
variable {I : Cells} {w : World} {σ : List Loc} {h h2 : List AO} {vars env : List AV} {call : CallF} {n : Nat}

theorem Rep.lt0 {x : AV} {v : Value} (hr : Rep I w σ x v) : x.lt0 σ.length = true := by
  cases hr <;> simp only [AV.lt0, decide_eq_true_eq] <;> rename_i L _ _ <;> first | rfl | skip
  all_goals (first | exact (List.getElem?_eq_some_iff.1 (by assumption)).1)
theorem Rep.lt {x : AV} {v : Value} (hr : Rep I w σ x v) : x.lt σ.length = true := by
  cases x with
  | agg cs =>
    cases hr with
    | agg _ _ arr hs h1 hr =>
      simp only [AV.lt, List.all_eq_true]
      intro c hc
      obtain ⟨i, hi⟩ := List.getElem?_of_mem hc
      exact (hr i c hi).lt0
  | _ => exact hr.lt0

theorem rowAt_cong {sz id ver m : Nat} (hh : h2[id]? = h[id]?) : rowAt h2 sz id ver m = rowAt h sz id ver m := by
  simp only [rowAt, hh]

/-- Both lists of objects hold the same at the first n places. -/
def Same (n : Nat) (h h2 : List AO) : Prop := ∀ (id : Nat), id < n → h2[id]? = h[id]?
/-- What the one holds the other holds. -/
def More (h h2 : List AO) : Prop := ∀ (id : Nat) (o : AO), h[id]? = some o → h2[id]? = some o

theorem rowAt_more (hm : More h h2) {sz id ver m : Nat} {p : List AV × Nat} (hp : rowAt h sz id ver m = some p) : rowAt h2 sz id ver m = some p := by
  unfold rowAt at hp
  split at hp
  · rename_i a b c d hid
    simp only [rowAt, hm _ _ hid]
    exact hp
  · cases hp

theorem load_same (hs : Same n h h2) {a : Bool} {sz : Nat} {x : AV} (hx : x.lt n = true) : evLoad h2 a sz x = evLoad h a sz x := by
  cases x <;> simp only [evLoad] <;> simp only [AV.lt, AV.lt0, decide_eq_true_eq] at hx
  · rw [hs _ hx]
  · rw [rowAt_cong (hs _ hx)]
theorem load_more (hm : More h h2) {a : Bool} {sz : Nat} {x r : AV} (he : evLoad h a sz x = some r) : evLoad h2 a sz x = some r := by
  cases x <;> simp only [evLoad] at he ⊢ <;> try exact he
  · split at he
    · rename_i hid; rw [hm _ _ hid]; exact he
    · cases he
  · split at he
    · rename_i hid; rw [rowAt_more hm hid]; exact he
    · cases he

theorem snap0_same (hs : Same n h h2) {x : AV} (hx : x.lt0 n = true) : x.snap0 h2 = x.snap0 h := by
  cases x <;> simp only [AV.snap0]
  simp only [AV.lt0, decide_eq_true_eq] at hx
  rw [rowAt_cong (hs _ hx)]
theorem snap0_more (hm : More h h2) {x r : AV} (he : x.snap0 h = some r) : x.snap0 h2 = some r := by
  cases x <;> simp only [AV.snap0] at he ⊢ <;> try exact he
  split at he
  · rename_i hid; rw [rowAt_more hm hid]; exact he
  · cases he
theorem mapM_cong {α β : Type} {f g : α → Option β} {l : List α} (hfg : ∀ x ∈ l, f x = g x) : l.mapM f = l.mapM g := by
  induction l with
  | nil => rfl
  | cons x l ih => simp only [List.mapM_cons, hfg x (by simp), ih (fun y hy => hfg y (by simp [hy]))]
theorem mapM_more {α β : Type} {f g : α → Option β} {l : List α} {r : List β} (hfg : ∀ x y, f x = some y → g x = some y) (he : l.mapM f = some r) : l.mapM g = some r := by
  induction l generalizing r with
  | nil => exact he
  | cons x l ih =>
    simp only [List.mapM_cons, Option.bind_eq_bind, Option.bind_eq_some_iff, Option.pure_def, Option.some.injEq] at he ⊢
    obtain ⟨y, h1, ys, h3, rfl⟩ := he
    exact ⟨y, hfg _ _ h1, ys, ih h3, rfl⟩
theorem snap1_same (hs : Same n h h2) {x : AV} (hx : x.lt n = true) : x.snap1 h2 = x.snap1 h := by
  cases x <;> simp only [AV.snap1] <;> try exact snap0_same hs hx
  rename_i cs
  simp only [AV.lt, List.all_eq_true] at hx
  rw [mapM_cong (fun x hm => snap0_same hs (hx x hm))]
theorem snap1_more (hm : More h h2) {x r : AV} (he : x.snap1 h = some r) : x.snap1 h2 = some r := by
  cases x <;> simp only [AV.snap1] at he ⊢ <;> try exact snap0_more hm he
  rename_i cs
  obtain ⟨a, h1, rfl⟩ := Option.map_eq_some_iff.1 he
  rw [mapM_more (fun x y h => snap0_more hm h) h1]; rfl

theorem elems_same (hs : Same n h h2) {sz : Nat} : ∀ (ps : List (Nat × Opd)) (l : List AV), (∀ p ∈ ps, (getO vars env p.2).lt n = true) → evElems vars env h2 sz l ps = evElems vars env h sz l ps := by
  intro ps
  induction ps with
  | nil => intro l _; rfl
  | cons p ps ih =>
    intro l hl
    obtain ⟨i, x⟩ := p
    have hx : (getO vars env x).snap1 h2 = (getO vars env x).snap1 h := snap1_same hs (hl (i, x) (by simp))
    simp only [evElems, hx]
    split
    · split
      · exact ih _ (fun p hp => hl p (by simp [hp]))
      · rfl
    · rfl
theorem elems_more (hm : More h h2) {sz : Nat} : ∀ (ps : List (Nat × Opd)) (l r : List AV), evElems vars env h sz l ps = some r → evElems vars env h2 sz l ps = some r := by
  intro ps
  induction ps with
  | nil => intro l r he; exact he
  | cons p ps ih =>
    intro l r he
    obtain ⟨i, x⟩ := p
    simp only [evElems] at he ⊢
    cases hx : (getO vars env x).snap1 h with
    | none => simp [hx] at he
    | some y =>
      rw [snap1_more hm hx]
      rw [hx] at he
      simp only [Option.bind_some] at he ⊢
      split at he
      · split at he
        · rename_i hc; rw [if_pos hc]; exact ih _ _ he
        · cases he
      · cases he

theorem len_same (hs : Same n h h2) {k : LenK} {x : AV} (hx : x.lt n = true) : evLen h2 k x = evLen h k x := by
  unfold evLen
  split <;> try rfl
  · simp only [AV.lt, AV.lt0, decide_eq_true_eq] at hx
    rw [rowAt_cong (hs _ hx)]
  · simp only [AV.lt, AV.lt0, decide_eq_true_eq] at hx
    rw [hs _ hx]
theorem map_more {α β : Type} {a b : Option α} {f : α → β} {r : β} (hab : ∀ y, a = some y → b = some y) (he : a.map f = some r) : b.map f = some r := by
  obtain ⟨y, h1, rfl⟩ := Option.map_eq_some_iff.1 he
  rw [hab y h1]; rfl
theorem len_more (hm : More h h2) {k : LenK} {x : AV} {r : Nat} (he : evLen h k x = some r) : evLen h2 k x = some r := by
  unfold evLen at he ⊢
  split at he <;> try exact he
  · exact map_more (fun y hy => rowAt_more hm hy) he
  · split at he
    · rename_i hid; rw [hm _ _ hid]; exact he
    · cases he

theorem nil_same (hs : Same n h h2) {x : AV} (hx : x.lt n = true) : evNil h2 x = evNil h x := by
  cases x <;> simp only [evNil]
  simp only [AV.lt, AV.lt0, decide_eq_true_eq] at hx
  rw [rowAt_cong (hs _ hx)]
theorem nil_more (hm : More h h2) {x r : AV} (he : evNil h x = some r) : evNil h2 x = some r := by
  cases x <;> simp only [evNil] at he ⊢ <;> try exact he
  exact map_more (fun y hy => rowAt_more hm hy) he
theorem fa_same (hs : Same n h h2) {o : Nat} {x : AV} (hx : x.lt n = true) : evFa h2 o x = evFa h o x := by
  cases x <;> simp only [evFa]
  simp only [AV.lt, AV.lt0, decide_eq_true_eq] at hx
  rw [rowAt_cong (hs _ hx)]
theorem fa_more (hm : More h h2) {o : Nat} {x r : AV} (he : evFa h o x = some r) : evFa h2 o x = some r := by
  cases x <;> simp only [evFa] at he ⊢ <;> try exact he
  exact map_more (fun y hy => rowAt_more hm hy) he

theorem eq_same (hs : Same n h h2) {k : EqK} {x y : AV} (hx : x.lt n = true) (hy : y.lt n = true) : eqNil h2 k x y = eqNil h k x y := by
  unfold eqNil
  split <;> try rfl
  simp only [AV.lt, AV.lt0, decide_eq_true_eq] at hx
  rw [rowAt_cong (hs _ hx)]
theorem eq_more (hm : More h h2) {k : EqK} {x y : AV} {b : Bool} (he : eqNil h k x y = some b) : eqNil h2 k x y = some b := by
  unfold eqNil at he ⊢
  split at he <;> try exact he
  split at he
  · rename_i hid
    simp only [rowAt_more hm hid]; exact he
  · cases he

theorem ia_same (hs : Same n h h2) {sz : Nat} {x i : Opd} (hx : (getO vars env x).lt n = true) : evIa vars env h2 sz x i = evIa vars env h sz x i := by
  unfold evIa
  split <;> try rfl
  rename_i hxx _
  rw [hxx] at hx
  simp only [AV.lt, AV.lt0, decide_eq_true_eq] at hx
  rw [rowAt_cong (hs _ hx)]
theorem ia_more (hm : More h h2) {sz : Nat} {x i : Opd} {r : AV} (he : evIa vars env h sz x i = some r) : evIa vars env h2 sz x i = some r := by
  unfold evIa at he ⊢
  split at he <;> try exact he
  split at he
  · rename_i hc
    rw [if_pos hc]
    exact map_more (fun y hy => rowAt_more hm hy) he
  · cases he

theorem slice_same (hs : Same n h h2) {sz : Nat} {x : AV} {lo hi mx : Option Opd} (hx : x.lt n = true) : evSlice vars env h2 sz x lo hi mx = evSlice vars env h sz x lo hi mx := by
  unfold evSlice
  split <;> try rfl
  simp only [AV.lt, AV.lt0, decide_eq_true_eq] at hx
  rw [rowAt_cong (hs _ hx)]
theorem slice_more (hm : More h h2) {sz : Nat} {x r : AV} {lo hi mx : Option Opd} (he : evSlice vars env h sz x lo hi mx = some r) : evSlice vars env h2 sz x lo hi mx = some r := by
  unfold evSlice at he ⊢
  split at he <;> try exact he
  split at he
  · rename_i hc
    rw [if_pos hc]
    simp only [Option.bind_eq_bind, Option.bind_eq_some_iff] at he ⊢
    obtain ⟨p, h1, h2⟩ := he
    exact ⟨p, rowAt_more hm h1, h2⟩
  · cases he

/-- Neither changes the objects nor looks at them. -/
theorem ev_plain {c : COp} {r : AV} {h' : List AO} (hE : c.isE = false) (hR : c.isR = false) (he : evOp call vars env h c = some (r, h')) : h' = h ∧ ∀ g, evOp call vars env g c = some (r, g) := by
  cases c <;> simp only [COp.isE, COp.isR, Bool.true_eq_false] at hE hR <;> simp only [evOp] at he ⊢
  case call p f args => cases p <;> simp at hE hR
  case bad => cases he
  all_goals first
    | (cases he; exact ⟨rfl, fun g => rfl⟩)
    | (obtain ⟨y, h1, h3⟩ := Option.map_eq_some_iff.1 he; cases h3; exact ⟨rfl, fun g => by rw [h1]; rfl⟩)
    | (split at he <;> first | (cases he; exact ⟨rfl, fun g => rfl⟩) | cases he | skip)
  all_goals first
    | (obtain ⟨y, h1, h3⟩ := Option.map_eq_some_iff.1 he; cases h3; exact ⟨rfl, fun g => by rw [h1]; rfl⟩)
    | (split at he <;> first | (cases he; rename_i hc; exact ⟨rfl, fun g => by simp [hc]⟩) | cases he | skip)
  all_goals first
    | (obtain ⟨y, h1, h3⟩ := Option.map_eq_some_iff.1 he; cases h3; rename_i hc; exact ⟨rfl, fun g => by rw [if_pos hc, h1]; rfl⟩)

theorem ev_reads {c : COp} {r : AV} {h' : List AO} (hR : c.isR = true) (he : evOp call vars env h c = some (r, h')) : h' = h := by
  cases c <;> simp only [COp.isR, Bool.false_eq_true] at hR <;> simp only [evOp] at he
  case call p f args =>
    cases p <;> simp at hR
    simp only [evOp] at he
    split at he
    · split at he
      · cases he; rfl
      · cases he
    · cases he
  case lookup =>
    split at he
    · split at he
      · split at he
        · split at he <;> (cases he; rfl)
        · cases he
      · cases he
    · cases he
  all_goals (obtain ⟨y, h1, h3⟩ := Option.map_eq_some_iff.1 he; cases h3; rfl)

theorem ev_more (hm : More h h2) {c : COp} {r : AV} (hR : c.isR = true) (he : evOp call vars env h c = some (r, h)) : evOp call vars env h2 c = some (r, h2) := by
  cases c <;> simp only [COp.isR, Bool.false_eq_true] at hR <;> simp only [evOp] at he ⊢
  case call p f args =>
    cases p <;> simp at hR
    simp only [evOp] at he ⊢
    split at he
    · rename_i as has
      rw [mapM_more (fun x y h => snap1_more hm h) has]
      simp only
      split at he
      · rename_i hc; cases he; simp only [hc]
      · cases he
    · cases he
  case lookup =>
    split at he
    · split at he
      · rename_i hid
        rw [hm _ _ hid]
        simp only
        split at he
        · rename_i hk
          rw [if_pos hk]
          split at he <;> (rename_i hl; cases he; simp only [hl])
        · cases he
      · cases he
    · cases he
  all_goals (obtain ⟨y, h1, h3⟩ := Option.map_eq_some_iff.1 he; cases h3; refine Option.map_eq_some_iff.2 ⟨_, ?_, rfl⟩)
  · exact elems_more hm _ _ _ h1
  · exact load_more hm h1
  · exact nil_more hm h1
  · exact eq_more hm h1
  · exact slice_more hm h1
  · exact fa_more hm h1
  · exact ia_more hm h1
  · exact len_more hm h1

theorem ev_same (hs : Same n h h2) {c : COp} {r : AV} (hR : c.isR = true) (hx : ∀ x ∈ c.args, (getO vars env x).lt n = true) (he : evOp call vars env h2 c = some (r, h2)) : evOp call vars env h c = some (r, h) := by
  cases c <;> simp only [COp.isR, Bool.false_eq_true] at hR <;> simp only [COp.args, List.mem_singleton, forall_eq, List.mem_cons, List.not_mem_nil, or_false, forall_eq_or_imp] at hx <;> simp only [evOp] at he ⊢
  case call p f args =>
    cases p <;> simp at hR
    simp only [evOp, COp.args] at he hx ⊢
    rw [mapM_cong (f := AV.snap1 h2) (g := AV.snap1 h) (fun x hm => by
      obtain ⟨y, hy, rfl⟩ := List.mem_map.1 hm
      exact snap1_same hs (hx y hy))] at he
    split at he
    · split at he
      · rename_i hc; cases he; simp only [hc]
      · cases he
    · cases he
  case lookup =>
    split at he
    · rename_i id k hm hk
      rw [hm] at hx
      simp only [AV.lt, AV.lt0, decide_eq_true_eq] at hx
      rw [hs _ hx] at he
      split at he
      · rename_i hid
        split at he
        · rename_i hk
          rw [if_pos hk]
          split at he <;> (rename_i hl; cases he; simp only [hl])
        · cases he
      · cases he
    · cases he
  all_goals (obtain ⟨y, h1, h3⟩ := Option.map_eq_some_iff.1 he; cases h3; refine Option.map_eq_some_iff.2 ⟨_, ?_, rfl⟩)
  · rw [← elems_same hs _ _ (fun p hp => hx _ (List.mem_map.2 ⟨p, hp, rfl⟩))]; exact h1
  · rw [← load_same hs hx]; exact h1
  · rw [← nil_same hs hx]; exact h1
  · rw [← eq_same hs hx.1 hx.2]; exact h1
  · rw [← slice_same hs hx]; exact h1
  · rw [← fa_same hs hx]; exact h1
  · rw [← ia_same hs hx]; exact h1
  · rw [← len_same hs hx]; exact h1

/-- Puts new ones behind. -/
theorem ev_push {c : COp} {r : AV} {h' : List AO} (hp : c.isPush = true) (he : evOp call vars env h c = some (r, h')) : ∃ X, h' = h ++ X := by
  unfold COp.isPush at hp
  split at hp
  · simp only [evOp] at he
    obtain ⟨y, h1, h3⟩ := Option.map_eq_some_iff.1 he
    cases h3; exact ⟨_, rfl⟩
  · simp only [evOp] at he
    split at he
    · split at he
      · cases he; exact ⟨_, rfl⟩
      · cases he
    · cases he
  · cases he; exact ⟨_, rfl⟩
  · simp only [evOp] at he
    split at he
    · cases he; exact ⟨_, rfl⟩
    · cases he
  · simp only [evOp, getO, ofVal, evAppend] at he
    split at he
    · cases he
    · split at he
      · cases he; exact ⟨[], by simp⟩
      · split at he
        · cases he; exact ⟨_, rfl⟩
        · cases he
  · cases hp

/-- What append does to them leaves each variable as it is. -/
theorem ev_append {sz bytes : Nat} {s x : Opd} {r : AV} {h' : List AO} (he : evOp call vars env h (.append sz bytes s x) = some (r, h')) :
    (∃ X, h' = h ++ X) ∨ ∃ id sz ver l k sz' ver' l' k', h[id]? = some (.row sz ver l k) ∧ h' = h.set id (.row sz' ver' l' k') := by
  simp only [evOp, evAppend] at he
  split at he
  · cases he
  · split at he
    · split at he
      · cases he; exact .inl ⟨[], by simp⟩
      · split at he
        · cases he; exact .inl ⟨_, rfl⟩
        · cases he
    · split at he
      · split at he
        · cases he; exact .inl ⟨[], by simp⟩
        · split at he
          · split at he
            · cases he; exact .inl ⟨_, rfl⟩
            · cases he
          · cases he
      · cases he
    · split at he
      · split at he
        · rename_i l k hrow
          split at he
          · split at he
            · cases he; exact .inl ⟨[], by simp⟩
            · split at he
              · cases he
                right
                unfold rowAt at hrow
                split at hrow
                · rename_i hid
                  exact ⟨_, _, _, _, _, _, _, _, _, hid, rfl⟩
                · cases hrow
              · cases he
          · cases he
        · cases he
      · cases he
    · cases he

theorem ev_store {sz : Nat} {a x : Opd} {r : AV} {h' : List AO} {id off : Nat} (ha : getO vars env a = .ptr id off) (he : evOp call vars env h (.store sz a x) = some (r, h')) : ∃ o, h' = h.set id o := by
  simp only [evOp] at he
  obtain ⟨y, h1, h3⟩ := Option.map_eq_some_iff.1 he
  cases h3
  rw [ha] at h1
  simp only [evStore] at h1
  split at h1
  · split at h1
    · split at h1
      · cases h1; exact ⟨_, rfl⟩
      · cases h1
    · cases h1
  · cases h1
end
end Go.AE
