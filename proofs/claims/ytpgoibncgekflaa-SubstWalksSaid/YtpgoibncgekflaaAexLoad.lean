/- AE, part 3: what is read. -/
import Derived.Test.YtpgoibncgekflaaAexRep
set_option linter.unusedVariables false
set_option linter.unusedSimpArgs false
namespace Go.AE
open Go Go.RowKit

/-- What is told of a type. -/
structure TI where
  size : Nat
  bytes : Nat
  zero : Value
  desc : TypeDesc

def TI.agg (i : TI) : Bool := match i.desc with
  | .struct _ | .array _ _ => true
  | _ => false

structure TIok (P : Program) (t : TypeId) (i : TI) : Prop where
  info : ∃ inf, P.info? t = some inf ∧ inf.size = i.size ∧ inf.bytes = i.bytes ∧ inf.zero = some i.zero
  und : P.underlying t = some i.desc

section
variable {P : Program} {t : TypeId} {i : TI} {w : World}
theorem TIok.sizeOf (h : TIok P t i) : (sizeOf t).run P w = .ok i.size w := by
  obtain ⟨inf, h1, h2, h3, h4⟩ := h.info
  simp [Go.sizeOf, typeInfo, h1, h2]
theorem TIok.zeroValue (h : TIok P t i) : (zeroValue t).run P w = .ok i.zero w := by
  obtain ⟨inf, h1, h2, h3, h4⟩ := h.info
  simp [Go.zeroValue, typeInfo, h1, h4]
theorem TIok.underlying (h : TIok P t i) : (underlying t).run P w = .ok i.desc w := run_underlying h.und w
theorem TIok.isAgg (h : TIok P t i) : (isAgg t).run P w = .ok i.agg w := by
  simp only [Go.isAgg, Sem.run_bind, h.underlying, Result.andThen_ok, TI.agg]
  cases i.desc <;> rfl
theorem TIok.bytes (h : TIok P t i) {α : Type} (f : Nat → World → Result α) : ((typeInfo t).run P w).andThen (fun x w' => f x.bytes w') = f i.bytes w := by
  obtain ⟨inf, h1, h2, h3, h4⟩ := h.info
  simp [typeInfo, h1, h3]
end

section
variable {P : Program} {B : Nat} {w0 w : World} {I : Cells} {σ : List Loc} {h : List AO}

/-- Cells that are there, as a variable's value. -/
theorem run_loadVar_rep {t : TypeId} {i : TI} (ht : TIok P t i) {τ : List Loc} (cs : List AV) (b o : Nat) (g : Nat → Value)
    (hc : ∀ (j : Nat) (c : AV), cs[j]? = some c → w.cell? ⟨b, o + j, none⟩ = some (g j))
    (h1 : ∀ (j : Nat) (c : AV), cs[j]? = some c → (g j).oneCell' = true) (hr : ∀ (j : Nat) (c : AV), cs[j]? = some c → Rep I w τ c (g j))
    (hsz : cs.length = i.size) {r : AV} (he : asEl i.agg cs = some r) :
    ∃ v, (loadVar t ⟨b, o, none⟩).run P w = .ok v w ∧ Rep I w τ r v := by
  unfold asEl at he
  cases hg : i.agg with
  | true =>
    simp only [hg, if_true, Option.some.injEq] at he
    subst he
    have hl := run_loadCells (P := P) w ⟨b, o, none⟩ i.size g (fun j hj => by
      rw [Addr.add_lit]
      exact hc j _ (List.getElem?_eq_getElem (by omega)))
    refine ⟨.agg ((List.range i.size).map g).toArray, ?_, ?_⟩
    · simp [loadVar, ht.isAgg, ht.sizeOf, hg, hl]
    · refine .agg τ cs _ (by simp [hsz]) (fun j c hj => ?_) (fun j c hj => ?_)
      · have := (List.getElem?_eq_some_iff.1 hj).1
        simpa [hsz ▸ this] using h1 j c hj
      · have := (List.getElem?_eq_some_iff.1 hj).1
        simpa [hsz ▸ this] using hr j c hj
  | false =>
    simp only [hg, Bool.false_eq_true, if_false] at he
    match cs, he with
    | [c], he =>
      cases he
      have h0 := hc 0 r rfl
      simp only [Nat.add_zero] at h0
      exact ⟨g 0, by simp [loadVar, ht.isAgg, hg, h0], hr 0 r rfl⟩

theorem rowAt_eq {sz id ver m : Nat} {l : List AV} {k : Nat} (hr : rowAt h sz id ver m = some (l, k)) : h[id]? = some (.row sz ver l k) ∧ m ≤ l.length := by
  unfold rowAt at hr
  split at hr
  · rename_i sz' ver' l' k' hh
    split at hr
    · rename_i hc
      cases hr
      obtain ⟨rfl, rfl, hm⟩ := hc
      exact ⟨hh, hm⟩
    · cases hr
  · cases hr

theorem Inv.loc (hI : Inv B w0 I σ w h) {id : Nat} {o : AO} (ho : h[id]? = some o) : ∃ L, σ[id]? = some L ∧ RepO I w σ L o := by
  have hl := (List.getElem?_eq_some_iff.1 ho).1
  have : id < σ.length := by rw [hI.len]; exact hl
  exact ⟨σ[id], List.getElem?_eq_getElem this, hI.obj id o _ ho (List.getElem?_eq_getElem this)⟩

theorem drop_take_get {α : Type} (l : List α) (off n j : Nat) (x : α) (hx : ((l.drop off).take n)[j]? = some x) : l[off + j]? = some x ∧ j < n := by
  have hj : j < n := by
    have := (List.getElem?_eq_some_iff.1 hx).1
    simp at this; omega
  rw [List.getElem?_take_of_lt hj, List.getElem?_drop] at hx
  exact ⟨hx, hj⟩

/-- A row's element, where it lies. -/
theorem Inv.row_cells (hI : Inv B w0 I σ w h) {sz id ver : Nat} {l : List AV} {k : Nat} {L : Loc} (ho : h[id]? = some (.row sz ver l k)) (hL : σ[id]? = some L) (hne : l ≠ []) :
    L.has = true ∧ l.length ≤ L.cap ∧ L.ver = ver ∧ L.fix = false ∧ (∀ (j : Nat) (el : AV), l[j]? = some el → el.cells.length = sz) ∧
    ∃ g : Nat → Nat → Value, (∀ (j : Nat) (el : AV) (i : Nat) (c : AV), l[j]? = some el → el.cells[i]? = some c → w.cell? ⟨L.b, L.o + (j * sz + i), none⟩ = some (g j i)) ∧
      (∀ (j : Nat) (el : AV) (i : Nat) (c : AV), l[j]? = some el → el.cells[i]? = some c → (g j i).oneCell' = true) ∧
      (∀ (j : Nat) (el : AV) (i : Nat) (c : AV), l[j]? = some el → el.cells[i]? = some c → Rep I w [] c (g j i)) := by
  obtain ⟨hf, hv, hR⟩ := hI.obj id _ L ho hL
  rcases hR.lies with ⟨h0, _⟩ | ⟨hh, arr, t, hb, hsz, hlen, h1, hr, _⟩
  · exact absurd h0 hne
  · refine ⟨hh, hlen, hv, hf, hR.hsz, fun j i => arr.getD (L.o + (j * sz + i)) undef, fun j el i c hj hi => ?_, h1, hr⟩
    have hj' := (List.getElem?_eq_some_iff.1 hj).1
    have hi' := (List.getElem?_eq_some_iff.1 hi).1
    rw [hR.hsz j el hj] at hi'
    have : j * sz + i < L.cap * sz := by
      have h3 : (j + 1) * sz ≤ L.cap * sz := Nat.mul_le_mul_right _ (by omega)
      rw [Nat.add_mul] at h3
      omega
    have hlt : L.o + (j * sz + i) < arr.size := by omega
    simp [World.cell?, hb, Array.getD, hlt]

theorem take_get {α : Type} {l : List α} {n j : Nat} {x : α} (hx : (l.take n)[j]? = some x) : l[j]? = some x := by
  have hj : j < n := by
    have := (List.getElem?_eq_some_iff.1 hx).1
    simp at this; omega
  rwa [List.getElem?_take_of_lt hj] at hx

/-- What is loaded. -/
theorem run_load_rep (hI : Inv B w0 I σ w h) {t : TypeId} {i : TI} (ht : TIok P t i) {x : AV} {vx : Value} (hx : Rep I w σ x vx) {r : AV}
    (he : evLoad h i.agg i.size x = some r) : ∃ v, (Instr.loadAt t vx).run P w = .ok v w ∧ Rep I w σ r v := by
  cases hx with
  | ip _ cs b o g hc hi h1 hr =>
    simp only [evLoad] at he
    split at he
    · rename_i hsz
      have := run_loadVar_rep (P := P) (I := I) (w := w) ht (τ := σ) (cs.take i.size) b o g
        (fun j c hj => hc j c (take_get hj)) (fun j c hj => h1 j c (take_get hj))
        (fun j c hj => (hr j c (take_get hj)).mono (Ext.refl _ _) (Later.nil _)) (by simp; omega) he
      simpa [Instr.loadAt, Instr.sureAddr] using this
    · cases he
  | ptr _ id off L hL hf =>
    simp only [evLoad] at he
    split at he
    · rename_i cs hh
      split at he
      · rename_i hsz
        obtain ⟨_, _, ho, ⟨arr, t', hb, hs, h1, hr⟩, _⟩ := hI.obj id _ L hh hL
        have := run_loadVar_rep (P := P) (I := I) (w := w) ht (τ := σ) ((cs.drop off).take i.size) L.b (L.o + off) (fun j => arr.getD (off + j) undef)
          (fun j c hj => by
            have hj := (drop_take_get cs off _ j c hj).1
            have hlt := (List.getElem?_eq_some_iff.1 hj).1
            have : off + j < arr.size := by omega
            simp [World.cell?, hb, Array.getD, this, ho])
          (fun j c hj => h1 _ c (drop_take_get cs off _ j c hj).1) (fun j c hj => hr _ c (drop_take_get cs off _ j c hj).1) (by simp; omega) he
        simpa [Instr.loadAt, Instr.sureAddr] using this
      · cases he
    · cases he
  | ep _ sz id ver idx off x h1x L hL hv hx =>
    simp only [evLoad] at he
    split at he
    · rename_i l k hra
      obtain ⟨hh, hm⟩ := rowAt_eq hra
      split at he
      · rename_i el hel
        split at he
        · rename_i hsz
          have hne : l ≠ [] := by rintro rfl; simp at hel
          obtain ⟨hhas, hcap, hver, hfix, hsz', g, hc, h1, hr⟩ := hI.row_cells hh hL hne
          obtain ⟨_, rfl⟩ := hx hver.symm
          have := run_loadVar_rep (P := P) (I := I) (w := w) ht (τ := σ) ((el.cells.drop off).take i.size) L.b (L.o + (idx * sz + off)) (fun j => g idx (off + j))
            (fun j c hj => by
              have hj := (drop_take_get el.cells off _ j c hj).1
              have := hc idx el (off + j) c hel hj
              rwa [show L.o + (idx * sz + off) + j = L.o + (idx * sz + (off + j)) by omega])
            (fun j c hj => h1 idx el _ c hel (drop_take_get el.cells off _ j c hj).1)
            (fun j c hj => (hr idx el _ c hel (drop_take_get el.cells off _ j c hj).1).mono (Ext.refl _ _) (Later.nil _)) (by simp; omega) he
          simpa [Instr.loadAt, Instr.sureAddr] using this
        · cases he
      · cases he
    · cases he
  | v => simp [evLoad] at he
  | junk => simp [evLoad] at he
  | slc _ sz ex nn l a cap b o g ha hn hnil hcap hex hsz hc hi h1 hr => simp [evLoad] at he
  | agg _ cs arr hs h1 hr => simp [evLoad] at he
  | tup _ vs arr hs hr => simp [evLoad] at he
  | own _ sz id ver off n x h1x L hL hv h => simp [evLoad] at he
  | fn _ f p q ap aq hp hq hpr hqr => simp [evLoad] at he
  | mp _ id L hL hf => simp [evLoad] at he
  | it _ id L hL hf => simp [evLoad] at he
end
end Go.AE
