/- AE, part 8: literals of slices, make. -/
import Derived.Test.YtpgoibncgekflaaAexOps3
set_option linter.unusedVariables false
set_option linter.unusedSimpArgs false
namespace Go.AE
open Go Go.RowKit

section
variable {P : Program} {B : Nat} {w0 w w' : World} {I I' : Cells} {σ σ' : List Loc} {h : List AO}

theorem zeroEl_cells (zs : List Value) : (zeroEl zs).cells = toL zs := by
  unfold zeroEl
  split <;> rfl

theorem zeroArr (n sz : Nat) (z : Array Value) (hz : n * sz = 0 ∨ z.size = sz) (x : Nat) (hx : x < n * sz) :
    ((Array.range (n * sz)).map (fun i => z[i % z.size]!)).getD x undef = z.getD (x % sz) undef := by
  have hsz : z.size = sz := by rcases hz with h | h <;> omega
  have hpos : 0 < sz := by
    rcases Nat.eq_zero_or_pos sz with h0 | h0
    · rw [h0, Nat.mul_zero] at hx; omega
    · exact h0
  have hlt : x % sz < z.size := by rw [hsz]; exact Nat.mod_lt _ hpos
  rw [Array.getD_eq_getD_getElem?]
  simp [hx, hsz, Array.getD, hlt, getElem!_pos, hsz ▸ hlt]

/-- Elements that are all zero. -/
theorem ElemsRep.zeros (n sz : Nat) (z zv : Array Value) (hz : (n * sz = 0 ∧ z = #[]) ∨ z = zv) (hzv : zv.size = sz) (h1 : ∀ x ∈ zv.toList, x.oneCell' = true) :
    ElemsRep I w sz (List.replicate n (zeroEl zv.toList)) ((Array.range (n * sz)).map (fun i => z[i % z.size]!)) := by
  have get : ∀ (j : Nat) (el : AV), (List.replicate n (zeroEl zv.toList))[j]? = some el → j < n ∧ el = zeroEl zv.toList := by
    intro j el he
    rw [List.getElem?_replicate] at he
    split at he
    · rename_i hj; exact ⟨hj, (Option.some.inj he).symm⟩
    · cases he
  have val : ∀ (j : Nat) (el : AV) (i : Nat) (c : AV), (List.replicate n (zeroEl zv.toList))[j]? = some el → el.cells[i]? = some c →
      ∃ u, ((Array.range (n * sz)).map (fun i => z[i % z.size]!)).getD (j * sz + i) undef = u ∧ u.oneCell' = true ∧ c = .v u := by
    intro j el i c he hc
    obtain ⟨hj, rfl⟩ := get j el he
    rw [zeroEl_cells] at hc
    simp only [toL, List.getElem?_map, Option.map_eq_some_iff] at hc
    obtain ⟨u, hu, rfl⟩ := hc
    have hi : i < sz := by have := (List.getElem?_eq_some_iff.1 hu).1; simp at this; omega
    have hlt : j * sz + i < n * sz := by
      have := Nat.mul_le_mul_right sz (show j + 1 ≤ n from hj)
      rw [Nat.add_mul] at this; omega
    have hzz : z = zv := by
      rcases hz with ⟨h0, _⟩ | h0
      · omega
      · exact h0
    subst hzz
    refine ⟨u, ?_, h1 u (List.mem_of_getElem? hu), rfl⟩
    rw [zeroArr n sz z (.inr hzv) _ hlt]
    have : (j * sz + i) % sz = i := by rw [Nat.mul_comm, Nat.mul_add_mod]; exact Nat.mod_eq_of_lt hi
    rw [this, Array.getD_eq_getD_getElem?, ← Array.getElem?_toList, hu]; rfl
  refine ⟨by simp, fun j el he => ?_, fun j el i c he hc => ?_, fun j el i c he hc => ?_⟩
  · obtain ⟨_, rfl⟩ := get j el he
    rw [zeroEl_cells]; simp [toL, hzv]
  · obtain ⟨u, h2, h3, h4⟩ := val j el i c he hc
    rw [h2]; exact h3
  · obtain ⟨u, h2, h3, h4⟩ := val j el i c he hc
    rw [h2, h4]; exact .v [] u

/-- Elements and where they go. -/
theorem fillEls (hI : Inv B w0 I σ w h) {vars env : List AV} (sz : Nat) :
    ∀ (l : List ((Nat × Value) × (Nat × Opd))) (els : List AV) (arr : Array Value) (els' : List AV), ElemsRep I w sz els arr →
      (∀ x ∈ l, x.1.1 = x.2.1 ∧ Rep I w σ (getO vars env x.2.2) x.1.2) → evElems vars env h sz els (l.map (·.2)) = some els' →
      ∃ arr', Instr.fill (fun i => some (i * sz, sz)) arr (l.map (·.1)) = some arr' ∧ ElemsRep I w sz els' arr' ∧ els'.length = els.length := by
  intro l
  induction l with
  | nil =>
    intro els arr els' hr hf he
    simp only [List.map_nil, evElems, Option.some.injEq] at he
    subst he
    exact ⟨arr, rfl, hr, rfl⟩
  | cons p l ih =>
    intro els arr els' hr hf he
    obtain ⟨⟨i, v⟩, j, x⟩ := p
    obtain ⟨hp1, hp2⟩ := hf _ (List.mem_cons_self ..)
    simp only at hp1 hp2
    subst hp1
    simp only [List.map_cons, evElems] at he
    split at he
    · rename_i y ys hb
      obtain ⟨y', hs, hcl⟩ := Option.bind_eq_some_iff.1 hb
      obtain ⟨ys', hcl, e⟩ := Option.map_eq_some_iff.1 hcl
      cases e
      split at he
      · rename_i hc
        have hy := hp2.snap1 hI hs
        have hcs := hy.cells hcl
        have hyc := (hy.cl hcl).1
        have hput := hr.put hyc hc.1 hcs hc.2
        obtain ⟨arr', h1, h2, h3⟩ := ih _ _ els' hput (fun x hx => hf x (List.mem_cons_of_mem _ hx)) he
        refine ⟨arr', ?_, h2, by rw [h3]; simp⟩
        simp only [List.map_cons, Instr.fill]
        have g1 : v.cells.size = ys.length := hcs.size
        have g2 := hr.size
        have g3 : i * sz + sz ≤ els.length * sz := by
          have := Nat.mul_le_mul_right sz (show i + 1 ≤ els.length from hc.2)
          rwa [Nat.add_mul, Nat.one_mul] at this
        rw [if_neg (by simp; omega)]
        exact h1
      · cases he
    · cases he

/-- New cells that can't change, as a slice. -/
theorem Inv.slice_new (hI : Inv B w0 I σ w h) {sz : Nat} {l : List AV} {arr : Array Value} (hr : ElemsRep I w sz l arr) (e : TypeId) :
    ∃ I', Inv B w0 I' σ (w.alloc (.cells arr e)) h ∧ Step B I σ w I' σ (w.alloc (.cells arr e)) ∧
      Rep I' (w.alloc (.cells arr e)) σ (.slc sz true true l) (.slice (some ⟨w.heap.size, 0, none⟩) l.length l.length) := by
  obtain ⟨h1, h2⟩ := hI.fresh arr e
  refine ⟨_, h1, h2, ?_⟩
  have lt : ∀ (j : Nat) (el : AV) (i : Nat) (c : AV), l[j]? = some el → el.cells[i]? = some c → j * sz + i < arr.size := by
    intro j el i c hj hi
    have hj' := (List.getElem?_eq_some_iff.1 hj).1
    have hi' := (List.getElem?_eq_some_iff.1 hi).1
    rw [hr.cells j el hj] at hi'
    have := Nat.mul_le_mul_right sz (show j + 1 ≤ l.length from hj')
    rw [Nat.add_mul] at this
    rw [hr.size]; omega
  refine .slc σ sz true true l (some ⟨w.heap.size, 0, none⟩) l.length w.heap.size 0 (fun j i => arr.getD (j * sz + i) undef) (fun _ => rfl) (fun _ => by simp) (fun e => by cases e) (Nat.le_refl _) (fun _ => rfl) hr.cells
    (fun j el i c hj hi => ?_) (fun j el i c hj hi => .inr ⟨rfl, by simpa using lt j el i c hj hi⟩) hr.one (fun j el i c hj hi => (hr.rep j el i c hj hi).mono h2.ext (Later.nil _))
  have := lt j el i c hj hi
  unfold World.cell?
  rw [heap_new]
  simp [Array.getD, this]

theorem gives_bslice (hI : Inv B w0 I σ w h) {vars env : List AV} {t e : TypeId} {i : TI} (hu : P.underlying t = some (.slice e)) (ht : TIok P e i)
    (h1 : ∀ x ∈ i.zero.cells.toList, x.oneCell' = true) (hzs : i.zero.cells.size = i.size) (n : Nat) (hn : n * i.size ≤ 2 ^ 24)
    (l : List ((Nat × Value) × (Nat × Opd))) (hl : ∀ x ∈ l, x.1.1 = x.2.1 ∧ Rep I w σ (getO vars env x.2.2) x.1.2)
    {els : List AV} (he : evElems vars env h i.size (List.replicate n (zeroEl i.zero.cells.toList)) (l.map (·.2)) = some els) :
    Gives P B w0 I σ w (do pure (.value (← Instr.buildSlice t n (l.map (·.1)).toArray))) (.slc i.size true true els) h := by
  obtain ⟨z, hz1, hz2⟩ : ∃ z : Array Value, z = (if n * i.size = 0 then #[] else i.zero.cells) ∧ ((n * i.size = 0 ∧ z = #[]) ∨ z = i.zero.cells) := by
    by_cases h0 : n * i.size = 0
    · exact ⟨_, rfl, .inl ⟨h0, by rw [if_pos h0]⟩⟩
    · exact ⟨_, rfl, .inr (by rw [if_neg h0])⟩
  obtain ⟨arr', hf, hr, hlen⟩ := fillEls hI i.size l _ _ _ (ElemsRep.zeros (I := I) (w := w) n i.size z i.zero.cells hz2 hzs h1) hl he
  rw [List.length_replicate] at hlen
  obtain ⟨I', g1, g2, g3⟩ := hI.slice_new hr e
  refine ⟨_, _, I', σ, .inl ?_, g1, g2, g3⟩
  have hno : ¬ (n * i.size > 2 ^ 24) := by omega
  by_cases h0 : n * i.size = 0
  · rw [if_pos h0] at hz1
    subst hz1
    simp only [Instr.buildSlice, Sem.run_bind, run_underlying hu, Result.andThen_ok, ht.sizeOf, if_neg hno, if_pos h0, Sem.run_pure, List.toList_toArray, hf]
    simp [newRow, hlen]
  · rw [if_neg h0] at hz1
    subst hz1
    simp only [Instr.buildSlice, Sem.run_bind, run_underlying hu, Result.andThen_ok, ht.sizeOf, if_neg hno, if_neg h0, Sem.run_pure, ht.zeroValue, List.toList_toArray, hf]
    simp [newRow, hlen]
end
end Go.AE
