/- AE, part 6: structs and slices that are made of parts. -/
import Derived.Test.YtpgoibncgekflaaAexOps1
set_option linter.unusedVariables false
set_option linter.unusedSimpArgs false
namespace Go.AE
open Go Go.RowKit

/-- Cells, one by one. -/
structure CellsRep (I : Cells) (w : World) (σ : List Loc) (cs : List AV) (arr : Array Value) : Prop where
  size : arr.size = cs.length
  one : ∀ (i : Nat) (c : AV), cs[i]? = some c → (arr.getD i undef).oneCell' = true
  rep : ∀ (i : Nat) (c : AV), cs[i]? = some c → Rep I w σ c (arr.getD i undef)

section
variable {P : Program} {B : Nat} {w0 w w' : World} {I I' : Cells} {σ σ' : List Loc} {h : List AO}

theorem Rep.cells {a : AV} {v : Value} (hr : Rep I w σ a v) {cs : List AV} (hc : a.cl = some cs) : CellsRep I w σ cs v.cells :=
  let ⟨_, h1, h2, h3⟩ := hr.cl hc
  ⟨h1, h2, h3⟩
theorem CellsRep.mono {cs : List AV} {arr : Array Value} (hr : CellsRep I w σ cs arr) (he : Ext I w I' w') (hl : Later σ σ') : CellsRep I' w' σ' cs arr :=
  ⟨hr.size, hr.one, fun i c hi => (hr.rep i c hi).mono he hl⟩
theorem CellsRep.set {cs : List AV} {arr : Array Value} (hr : CellsRep I w σ cs arr) {i : Nat} {x : AV} {v : Value} (hx : Rep I w σ x v) (h1 : v.oneCell' = true) :
    CellsRep I w σ (cs.set i x) (arr.setIfInBounds i v) := by
  have key : ∀ (j : Nat) (c : AV), (cs.set i x)[j]? = some c → (arr.setIfInBounds i v).getD j undef = v ∧ c = x ∨ (arr.setIfInBounds i v).getD j undef = arr.getD j undef ∧ cs[j]? = some c := by
    intro j c hj
    by_cases e : i = j
    · subst e
      have hlt : i < cs.length := by have := (List.getElem?_eq_some_iff.1 hj).1; simpa using this
      rw [List.getElem?_set_self hlt] at hj
      have : i < arr.size := by rw [hr.size]; exact hlt
      exact .inl ⟨by simp [Array.getD, this], (Option.some.inj hj).symm⟩
    · rw [List.getElem?_set_ne e] at hj
      refine .inr ⟨?_, hj⟩
      have h2 : (arr.setIfInBounds i v)[j]? = arr[j]? := Array.getElem?_setIfInBounds_ne e
      rw [Array.getD_eq_getD_getElem?, Array.getD_eq_getD_getElem?, h2]
  refine ⟨by simp [hr.size], fun j c hj => ?_, fun j c hj => ?_⟩
  · rcases key j c hj with ⟨h2, rfl⟩ | ⟨h2, h3⟩
    · rw [h2]; exact h1
    · rw [h2]; exact hr.one j c h3
  · rcases key j c hj with ⟨h2, rfl⟩ | ⟨h2, h3⟩
    · rw [h2]; exact hx
    · rw [h2]; exact hr.rep j c h3

theorem getD_get {arr : Array Value} {i : Nat} {v : Value} (h : arr[i]? = some v) : arr.getD i undef = v := by
  obtain ⟨hl, rfl⟩ := Array.getElem?_eq_some_iff.1 h
  simp [Array.getD, hl]

theorem CellsRep.put {cs : List AV} {arr : Array Value} (hr : CellsRep I w σ cs arr) {xs : List AV} {vs : Array Value} (hx : CellsRep I w σ xs vs) (off : Nat) :
    CellsRep I w σ (putAt cs off xs) (vs.zipIdx.foldl (fun (cs : Array Value) (p : Value × Nat) => cs.setIfInBounds (off + p.2) p.1) arr) := by
  rw [← Array.foldl_toList, Array.toList_zipIdx]
  obtain ⟨hs, h1, h2⟩ := hx
  have h1' : ∀ (i : Nat) (c : AV), xs[i]? = some c → ∃ v, vs.toList[i]? = some v ∧ v.oneCell' = true ∧ Rep I w σ c v := by
    intro i c hi
    have hlt := (List.getElem?_eq_some_iff.1 hi).1
    have hlt' : i < vs.size := by omega
    have hg : vs[i]? = some vs[i] := Array.getElem?_eq_getElem hlt'
    refine ⟨vs[i], by simp, ?_, ?_⟩
    · rw [← getD_get hg]; exact h1 i c hi
    · rw [← getD_get hg]; exact h2 i c hi
  have hlen : vs.toList.length = xs.length := by simpa using hs
  clear hs h1 h2
  generalize vs.toList = vl at *
  have key : ∀ (xs : List AV) (vl : List Value) (k : Nat) (cs : List AV) (arr : Array Value), CellsRep I w σ cs arr → vl.length = xs.length →
      (∀ (i : Nat) (c : AV), xs[i]? = some c → ∃ v, vl[i]? = some v ∧ v.oneCell' = true ∧ Rep I w σ c v) →
      CellsRep I w σ (putAt cs (off + k) xs) ((vl.zipIdx k).foldl (fun (cs : Array Value) (p : Value × Nat) => cs.setIfInBounds (off + p.2) p.1) arr) := by
    intro xs
    induction xs with
    | nil => intro vl k cs arr hr hl _; cases vl with
      | nil => exact hr
      | cons _ _ => simp at hl
    | cons x xs ih =>
      intro vl k cs arr hr hl hx
      cases vl with
      | nil => simp at hl
      | cons v vl =>
        obtain ⟨u, hu, h1, h2⟩ := hx 0 x rfl
        simp at hu; subst hu
        simp only [putAt, List.zipIdx_cons, List.foldl_cons]
        exact ih vl (k + 1) _ _ (hr.set h2 h1) (by simpa using hl) (fun i c hi => by simpa using hx (i + 1) c (by simpa using hi))
  exact key xs vl 0 cs arr hr hlen h1'

theorem putAt_length (cs : List AV) (off : Nat) (xs : List AV) : (putAt cs off xs).length = cs.length := by
  induction xs generalizing cs off with
  | nil => rfl
  | cons x xs ih => simp [putAt, ih]

/-- Parts and where they go. -/
theorem fill_rep {vars env : List AV} (place : Nat → Option (Nat × Nat)) :
    ∀ (l : List ((Nat × Value) × (Nat × Nat × Opd))) (cs : List AV) (arr : Array Value) (cs' : List AV), CellsRep I w σ cs arr →
      (∀ x ∈ l, place x.1.1 = some (x.2.1, x.2.2.1) ∧ Rep I w σ (getO vars env x.2.2.2) x.1.2) → evBuild vars env cs (l.map (·.2)) = some cs' →
      ∃ arr', Instr.fill place arr (l.map (·.1)) = some arr' ∧ CellsRep I w σ cs' arr' := by
  intro l
  induction l with
  | nil =>
    intro cs arr cs' hr hf he
    simp only [List.map_nil, evBuild, Option.some.injEq] at he
    subst he
    exact ⟨arr, rfl, hr⟩
  | cons p l ih =>
    intro cs arr cs' hr hf he
    obtain ⟨⟨i, v⟩, off, sz, x⟩ := p
    obtain ⟨hp1, hp2⟩ := hf _ (List.mem_cons_self ..)
    simp only [List.map_cons, evBuild] at he
    split at he
    · rename_i xs hcl
      split at he
      · rename_i hc
        have hx := hp2.cells hcl
        obtain ⟨arr', h1, h2⟩ := ih _ _ cs' (hr.put hx off) (fun x hx => hf x (List.mem_cons_of_mem _ hx)) he
        refine ⟨arr', ?_, h2⟩
        simp only at hp1
        simp only [List.map_cons, Instr.fill, hp1]
        have g1 : v.cells.size = xs.length := hx.size
        have g2 := hr.size
        rw [if_neg (by simp; omega)]
        exact h1
      · cases he
    · cases he

theorem CellsRep.ofVals (xs : List Value) (h1 : ∀ x ∈ xs, x.oneCell' = true) : CellsRep I w σ (toL xs) xs.toArray := by
  refine ⟨by simp [toL], fun i c hi => ?_, fun i c hi => ?_⟩
  · have hlt := (List.getElem?_eq_some_iff.1 hi).1
    simp [toL] at hlt
    simpa [Array.getD, hlt] using h1 _ (List.getElem_mem hlt)
  · have hlt := (List.getElem?_eq_some_iff.1 hi).1
    simp [toL] at hlt hi
    obtain ⟨y, hy, rfl⟩ := hi
    have : xs.toArray.getD i undef = y := by
      have := (List.getElem?_eq_some_iff.1 hy).2
      simp [Array.getD, hlt, this]
    rw [this]; exact .v σ y

/-- A struct of parts. -/
theorem gives_build (hI : Inv B w0 I σ w h) {vars env : List AV} {t : TypeId} {i : TI} (ht : TIok P t i) {fields : Array Field} (hd : i.desc = .struct fields)
    (h1 : ∀ x ∈ i.zero.cells.toList, x.oneCell' = true)
    (places : List (Nat × Nat)) (hpl : places.length = fields.size) (hpf : ∀ (j : Nat) (f : Field) (q : Nat × Nat), fields[j]? = some f → places[j]? = some q → f.offset = q.1 ∧ ∃ tf, TIok P f.type tf ∧ tf.size = q.2)
    (l : List ((Nat × Value) × (Nat × Nat × Opd))) (hl : ∀ x ∈ l, places[x.1.1]? = some (x.2.1, x.2.2.1) ∧ Rep I w σ (getO vars env x.2.2.2) x.1.2)
    {cs : List AV} (he : evBuild vars env (toL i.zero.cells.toList) (l.map (·.2)) = some cs) :
    Gives P B w0 I σ w (do pure (.value (← Instr.build t (l.map (·.1)).toArray))) (.agg cs) h := by
  have hz := CellsRep.ofVals (I := I) (w := w) (σ := σ) i.zero.cells.toList h1
  obtain ⟨arr', hf, hr⟩ := fill_rep (fun j => places.toArray[j]?) l _ _ cs hz (fun x hx => by simpa using hl x hx) he
  have hm : (fields.mapM fun (f : Field) => (do pure (f.offset, ← sizeOf f.type) : Sem (Nat × Nat))).run P w = .ok places.toArray w := by
    rw [← Array.toArray_toList (xs := fields)]
    rw [List.mapM_toArray]
    simp only [Sem.run_map]
    have key : ∀ (fl : List Field) (pl : List (Nat × Nat)), pl.length = fl.length → (∀ (j : Nat) (f : Field) (q : Nat × Nat), fl[j]? = some f → pl[j]? = some q → f.offset = q.1 ∧ ∃ tf, TIok P f.type tf ∧ tf.size = q.2) →
        (fl.mapM fun (f : Field) => (do pure (f.offset, ← sizeOf f.type) : Sem (Nat × Nat))).run P w = .ok pl w := by
      intro fl
      induction fl with
      | nil => intro pl hpl _; cases pl with
        | nil => rfl
        | cons _ _ => simp at hpl
      | cons f fl ih =>
        intro pl hpl hp
        cases pl with
        | nil => simp at hpl
        | cons q pl =>
          obtain ⟨h1, tf, h2, h3⟩ := hp 0 f q rfl rfl
          have := ih pl (by simpa using hpl) (fun j f q hf hq => hp (j + 1) f q (by simpa using hf) (by simpa using hq))
          simp only [List.mapM_cons, Sem.run_bind, h2.sizeOf, Result.andThen_ok, Sem.run_pure, this, h1, h3]
    rw [key fields.toList places (by simpa using hpl) (fun j f q hf hq => hpf j f q (by simpa using hf) hq)]
    rfl
  refine Gives.same hI (v := .agg arr') ?_ (.agg σ cs arr' hr.size hr.one hr.rep)
  simp only [Instr.build, Sem.run_bind, ht.zeroValue, Result.andThen_ok, ht.underlying, hd, hm]
  rw [Array.toArray_toList] at hf
  simp only [hf, Sem.run_pure, Result.andThen_ok, List.toList_toArray]
end
end Go.AE
