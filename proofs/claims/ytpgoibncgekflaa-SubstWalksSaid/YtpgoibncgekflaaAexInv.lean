/- AE, part 4: how the state goes on when something is made or written. -/
import Derived.Test.YtpgoibncgekflaaAexLoad
set_option linter.unusedVariables false
set_option linter.unusedSimpArgs false
namespace Go.AE
open Go Go.RowKit

section
variable {P : Program} {B : Nat} {w0 w w' : World} {I I' : Cells} {σ σ' : List Loc} {h : List AO}

theorem RepRow.mono {L : Loc} {sz k : Nat} {l : List AV} (hr : RepRow I w L sz l k) (he : Ext I w I' w')
    (hb : L.has = true → w'.heap[L.b]? = w.heap[L.b]?) (hn : L.has = true → ∀ x, I' L.b x → I L.b x) : RepRow I' w' L sz l k := by
  refine ⟨hr.hk, hr.hsz, ?_⟩
  rcases hr.lies with hl | ⟨hh, arr, t, h1, h2, h3, h4, h5, h6, h7⟩
  · exact .inl hl
  · exact .inr ⟨hh, arr, t, (hb hh).trans h1, h2, h3, h4, fun j el i c a b => (h5 j el i c a b).mono he (Later.nil _), fun j i a b => he.sub _ _ (h6 j i a b),
      fun x hx hi => h7 x hx (hn hh x hi)⟩

theorem RepO.mono {L : Loc} {o : AO} (hr : RepO I w σ L o) (he : Ext I w I' w') (hl : Later σ σ')
    (hb : L.has = true → w'.heap[L.b]? = w.heap[L.b]?) (hn : L.has = true → ∀ x, I' L.b x → I L.b x) : RepO I' w' σ' L o := by
  cases o with
  | box cs =>
    obtain ⟨h1, h2, h3, ⟨arr, t, h4, h5, h6, h7⟩, h8⟩ := hr
    exact ⟨h1, h2, h3, ⟨arr, t, (hb h2).trans h4, h5, h6, fun i c hc => (h7 i c hc).mono he hl⟩, fun x hx => h8 x (hn h2 x hx)⟩
  | row sz ver l k => exact ⟨hr.1, hr.2.1, hr.2.2.mono he hb hn⟩
  | map es =>
    obtain ⟨h1, h2, entries, clock, h3, h4, h5⟩ := hr
    refine ⟨h1, h2, entries, clock, (hb h2).trans h3, h4, fun i e hi => ?_⟩
    obtain ⟨m, m1, m2, m3⟩ := h5 i e hi
    exact ⟨m, m1, m2, m3.mono he (Later.nil _)⟩
  | siter s pos =>
    obtain ⟨h1, h2, h3⟩ := hr
    exact ⟨h1, h2, (hb h2).trans h3⟩

/-- The world has gone on; no object has turned. -/
theorem Inv.same (hI : Inv B w0 I σ w h) (hbel : Below B w w') (he : Ext I w I' w') (himm : ∀ (b x : Nat), I' b x → ∃ v, w'.cell? ⟨b, x, none⟩ = some v)
    (hoth : ∀ (j : Nat) (Lj : Loc), σ[j]? = some Lj → Lj.has = true → w'.heap[Lj.b]? = w.heap[Lj.b]? ∧ ∀ x, I' Lj.b x → I Lj.b x) : Inv B w0 I' σ w' h where
  below := hI.below.trans hbel
  base := Nat.le_trans hI.base hbel.size
  len := hI.len
  obj := fun id o L ho hL => (hI.obj id o L ho hL).mono he (Later.refl _) (fun hh => (hoth id L hL hh).1) (fun hh => (hoth id L hL hh).2)
  mine := fun id L hL hh => ⟨(hI.mine id L hL hh).1, Nat.lt_of_lt_of_le (hI.mine id L hL hh).2 hbel.size⟩
  dist := hI.dist
  imm := himm

/-- One object has turned, or moved. -/
theorem Inv.upd (hI : Inv B w0 I σ w h) {id : Nat} {L L' : Loc} {o' : AO} (hid : σ[id]? = some L) (hbel : Below B w w') (he : Ext I w I' w')
    (himm : ∀ (b x : Nat), I' b x → ∃ v, w'.cell? ⟨b, x, none⟩ = some v)
    (hoth : ∀ (j : Nat) (Lj : Loc), j ≠ id → σ[j]? = some Lj → Lj.has = true → w'.heap[Lj.b]? = w.heap[Lj.b]? ∧ ∀ x, I' Lj.b x → I Lj.b x)
    (hlater : L' = L ∨ (L.fix = false ∧ L'.fix = false ∧ L.ver < L'.ver)) (hrep : RepO I' w' (σ.set id L') L' o')
    (hmine : L'.has = true → B ≤ L'.b ∧ L'.b < w'.heap.size ∧ ∀ (j : Nat) (Lj : Loc), j ≠ id → σ[j]? = some Lj → Lj.has = true → Lj.b ≠ L'.b) :
    Inv B w0 I' (σ.set id L') w' (h.set id o') := by
  have hlt := (List.getElem?_eq_some_iff.1 hid).1
  have hla : Later σ (σ.set id L') := by
    rcases hlater with rfl | ⟨h1, h2, h3⟩
    · have : σ.set id L' = σ := by
        apply List.ext_getElem?
        intro j
        by_cases e : id = j
        · subst e; rw [List.getElem?_set_self hlt, hid]
        · rw [List.getElem?_set_ne e]
      rw [this]; exact Later.refl _
    · exact Later.set hid h1 h2 h3
  have hlen : id < h.length := by rw [← hI.len]; exact hlt
  have get : ∀ (j : Nat) (M : Loc), (σ.set id L')[j]? = some M → (j = id ∧ M = L') ∨ (j ≠ id ∧ σ[j]? = some M) := by
    intro j M hM
    by_cases e : id = j
    · subst e; rw [List.getElem?_set_self hlt] at hM; cases hM; exact .inl ⟨rfl, rfl⟩
    · rw [List.getElem?_set_ne e] at hM; exact .inr ⟨fun e' => e e'.symm, hM⟩
  refine ⟨hI.below.trans hbel, Nat.le_trans hI.base hbel.size, by simp [hI.len], ?_, ?_, ?_, himm⟩
  · intro j o M ho hM
    rcases get j M hM with ⟨rfl, rfl⟩ | ⟨hne, hM⟩
    · rw [List.getElem?_set_self hlen] at ho; cases ho; exact hrep
    · rw [List.getElem?_set_ne (fun e => hne e.symm)] at ho
      exact (hI.obj j o M ho hM).mono he hla (fun hh => (hoth j M hne hM hh).1) (fun hh => (hoth j M hne hM hh).2)
  · intro j M hM hh
    rcases get j M hM with ⟨rfl, rfl⟩ | ⟨hne, hM⟩
    · exact ⟨(hmine hh).1, (hmine hh).2.1⟩
    · exact ⟨(hI.mine j M hM hh).1, Nat.lt_of_lt_of_le (hI.mine j M hM hh).2 hbel.size⟩
  · intro i j Li Lj hi hj hne hhi hhj
    rcases get i Li hi with ⟨rfl, rfl⟩ | ⟨hi', hi2⟩ <;> rcases get j Lj hj with ⟨rfl, rfl⟩ | ⟨hj', hj2⟩
    · exact absurd rfl hne
    · exact fun e => (hmine hhi).2.2 j Lj hj' hj2 hhj e.symm
    · exact (hmine hhj).2.2 i Li hi' hi2 hhi
    · exact hI.dist i j Li Lj hi2 hj2 hne hhi hhj

/-- An object more. -/
theorem Inv.push (hI : Inv B w0 I σ w h) {L' : Loc} {o' : AO} (hbel : Below B w w') (he : Ext I w I' w')
    (himm : ∀ (b x : Nat), I' b x → ∃ v, w'.cell? ⟨b, x, none⟩ = some v)
    (hoth : ∀ (j : Nat) (Lj : Loc), σ[j]? = some Lj → Lj.has = true → w'.heap[Lj.b]? = w.heap[Lj.b]? ∧ ∀ x, I' Lj.b x → I Lj.b x)
    (hrep : RepO I' w' (σ ++ [L']) L' o')
    (hmine : L'.has = true → B ≤ L'.b ∧ L'.b < w'.heap.size ∧ ∀ (j : Nat) (Lj : Loc), σ[j]? = some Lj → Lj.has = true → Lj.b ≠ L'.b) :
    Inv B w0 I' (σ ++ [L']) w' (h ++ [o']) := by
  have get : ∀ (j : Nat) (M : Loc), (σ ++ [L'])[j]? = some M → (j = σ.length ∧ M = L') ∨ (j < σ.length ∧ σ[j]? = some M) := by
    intro j M hM
    by_cases e : j < σ.length
    · rw [List.getElem?_append_left e] at hM; exact .inr ⟨e, hM⟩
    · rw [List.getElem?_append_right (by omega)] at hM
      have := (List.getElem?_eq_some_iff.1 hM).1
      simp at this
      have e2 : j = σ.length := by omega
      subst e2
      simp at hM
      exact .inl ⟨rfl, hM.symm⟩
  refine ⟨hI.below.trans hbel, Nat.le_trans hI.base hbel.size, by simp [hI.len], ?_, ?_, ?_, himm⟩
  · intro j o M ho hM
    rcases get j M hM with ⟨rfl, rfl⟩ | ⟨hlt, hM⟩
    · rw [hI.len] at ho; simp at ho; subst ho; exact hrep
    · rw [List.getElem?_append_left (by rw [← hI.len]; exact hlt)] at ho
      exact (hI.obj j o M ho hM).mono he (Later.append _ _) (fun hh => (hoth j M hM hh).1) (fun hh => (hoth j M hM hh).2)
  · intro j M hM hh
    rcases get j M hM with ⟨rfl, rfl⟩ | ⟨hlt, hM⟩
    · exact ⟨(hmine hh).1, (hmine hh).2.1⟩
    · exact ⟨(hI.mine j M hM hh).1, Nat.lt_of_lt_of_le (hI.mine j M hM hh).2 hbel.size⟩
  · intro i j Li Lj hi hj hne hhi hhj
    rcases get i Li hi with ⟨rfl, rfl⟩ | ⟨hi', hi2⟩ <;> rcases get j Lj hj with ⟨rfl, rfl⟩ | ⟨hj', hj2⟩
    · exact absurd rfl hne
    · exact fun e => (hmine hhi).2.2 j Lj hj2 hhj e.symm
    · exact (hmine hhj).2.2 i Li hi2 hhi
    · exact hI.dist i j Li Lj hi2 hj2 hne hhi hhj

/-! ### A new block -/
theorem cell_old (o : Obj) {b x : Nat} (hb : b < w.heap.size) : (w.alloc o).cell? ⟨b, x, none⟩ = w.cell? ⟨b, x, none⟩ := World.cell?_alloc_lt (a := ⟨b, x, none⟩) (w := w) (o := o) hb
theorem Inv.imm_lt (hI : Inv B w0 I σ w h) {b x : Nat} (hi : I b x) : b < w.heap.size := by
  obtain ⟨v, hv⟩ := hI.imm b x hi
  exact World.block_lt_of_cell? w (a := ⟨b, x, none⟩) hv
theorem below_new (hB : B ≤ w.heap.size) (o : Obj) : Below B w (w.alloc o) := (Below.refl B w).alloc hB o
theorem heap_new (o : Obj) : (w.alloc o).heap[w.heap.size]? = some o := by
  show (w.heap.push o)[w.heap.size]? = some o
  simp
theorem size_new (o : Obj) : (w.alloc o).heap.size = w.heap.size + 1 := by
  show (w.heap.push o).size = _
  simp

/-- A new block of cells that can't change. -/
theorem Inv.fresh (hI : Inv B w0 I σ w h) (arr : Array Value) (e : TypeId) :
    Inv B w0 (fun b x => I b x ∨ (b = w.heap.size ∧ x < arr.size)) σ (w.alloc (.cells arr e)) h ∧
    Step B I σ w (fun b x => I b x ∨ (b = w.heap.size ∧ x < arr.size)) σ (w.alloc (.cells arr e)) := by
  have he : Ext I w (fun b x => I b x ∨ (b = w.heap.size ∧ x < arr.size)) (w.alloc (.cells arr e)) :=
    ⟨fun b x hb => .inl hb, fun b x hb => cell_old _ (hI.imm_lt hb)⟩
  refine ⟨hI.same (below_new hI.base _) he ?_ ?_, he, Later.refl _, ?_, by rw [size_new]; omega⟩
  · rintro b x (hb | ⟨rfl, hx⟩)
    · obtain ⟨v, hv⟩ := hI.imm b x hb
      exact ⟨v, by rw [cell_old _ (hI.imm_lt hb)]; exact hv⟩
    · exact ⟨arr[x], by unfold World.cell?; rw [heap_new]; simp [hx]⟩
  · intro j Lj hL hh
    have := (hI.mine j Lj hL hh).2
    refine ⟨Below.heap_alloc w _ _ this, fun x hx => ?_⟩
    rcases hx with hx | ⟨e, _⟩
    · exact hx
    · omega
  · rintro b x (hb | ⟨rfl, _⟩)
    · exact .inl hb
    · exact .inr hI.base

/-- A new block, and an object in it. -/
theorem Inv.grow (hI : Inv B w0 I σ w h) (o : Obj) {o' : AO} {L' : Loc} (hLb : L'.has = true → L'.b = w.heap.size)
    (hrep : ∀ he : Ext I w I (w.alloc o), RepO I (w.alloc o) (σ ++ [L']) L' o') :
    Inv B w0 I (σ ++ [L']) (w.alloc o) (h ++ [o']) ∧ Step B I σ w I (σ ++ [L']) (w.alloc o) := by
  have he : Ext I w I (w.alloc o) := ⟨fun b x hb => hb, fun b x hb => cell_old _ (hI.imm_lt hb)⟩
  refine ⟨hI.push (below_new hI.base _) he ?_ ?_ (hrep he) ?_, he, Later.append _ _, fun b x hb => .inl hb, by rw [size_new]; omega⟩
  · intro b x hb
    obtain ⟨v, hv⟩ := hI.imm b x hb
    exact ⟨v, by rw [cell_old _ (hI.imm_lt hb)]; exact hv⟩
  · exact fun j Lj hL hh => ⟨Below.heap_alloc w _ _ (hI.mine j Lj hL hh).2, fun x hx => hx⟩
  · intro hh
    rw [hLb hh, size_new]
    exact ⟨hI.base, by omega, fun j Lj hL hh' => by have := (hI.mine j Lj hL hh').2; omega⟩
end
end Go.AE
