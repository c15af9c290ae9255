/- AE, part 7: rows that are handed on as values; literals. -/
import Derived.Test.YtpgoibncgekflaaAexOps2
set_option linter.unusedVariables false
set_option linter.unusedSimpArgs false
namespace Go.AE
open Go Go.RowKit

section
variable {P : Program} {B : Nat} {w0 w w' : World} {I I' : Cells} {σ σ' : List Loc} {h : List AO}

theorem take_drop_len {α : Type} {l : List α} {off n : Nat} (h : off + n ≤ l.length) : ((l.drop off).take n).length = n := by simp; omega

/-- A row, a part of which can't change, as a value. -/
theorem Rep.snap0 (hI : Inv B w0 I σ w h) {a y : AV} {v : Value} (hr : Rep I w σ a v) (hs : a.snap0 h = some y) : Rep I w [] y v := by
  cases a with
  | own sz id ver off n =>
    cases hr with | own _ _ _ _ _ _ x h1x L hL hv hx => ?_
    simp only [AV.snap0] at hs
    split at hs
    · rename_i l k hra
      split at hs
      · rename_i hk
        cases hs
        obtain ⟨hh, hm⟩ := rowAt_eq hra
        obtain ⟨hf, hver, hR⟩ := hI.obj id _ L hh hL
        have hlen := take_drop_len (l := l) (off := off) (n := n) hm
        rcases hx hver.symm with ⟨hhas, hcap, rfl⟩ | ⟨rfl, a, rfl⟩
        · by_cases hne : l = []
          · subst hne
            simp at hm
            have hn0 : n = 0 := by omega
            subst hn0
            exact .slc [] sz false false [] (some ⟨L.b, L.o + off * sz, none⟩) (L.cap - off) 0 0 (fun _ _ => undef) (fun e => absurd rfl e) (fun e => by cases e) (fun e => by cases e) (by simp) (fun e => by cases e)
              (fun j el e => by simp at e) (fun j el i c e => by simp at e) (fun j el i c e => by simp at e) (fun j el i c e => by simp at e) (fun j el i c e => by simp at e)
          · obtain ⟨_, _, _, _, hsz, g, hc, h1, hr⟩ := hI.row_cells hh hL hne
            have himm : ∀ j i, j < k → i < sz → I L.b (L.o + (j * sz + i)) := by
              rcases hR.lies with ⟨h0, _⟩ | ⟨_, arr, t, _, _, _, _, _, h6, _⟩
              · exact absurd h0 hne
              · exact h6
            have key := Rep.slc (I := I) (w := w) [] sz false false ((l.drop off).take n) (some ⟨L.b, L.o + off * sz, none⟩) (L.cap - off) L.b (L.o + off * sz) (fun j i => g (off + j) i) (fun _ => rfl) (fun e => by cases e)
              (fun e => by cases e) (by rw [hlen]; omega) (fun e => by cases e) (fun j el e => hsz _ el (drop_take_get l off n j el e).1)
              (fun j el i c e f => by
                have := hc _ el i c (drop_take_get l off n j el e).1 f
                rwa [show L.o + off * sz + (j * sz + i) = L.o + ((off + j) * sz + i) by rw [Nat.add_mul]; omega])
              (fun j el i c e f => by
                have h2 := drop_take_get l off n j el e
                have hi : i < sz := by
                  have := (List.getElem?_eq_some_iff.1 f).1
                  rwa [hsz _ el h2.1] at this
                have := himm (off + j) i (by omega) hi
                rwa [show L.o + off * sz + (j * sz + i) = L.o + ((off + j) * sz + i) by rw [Nat.add_mul]; omega])
              (fun j el i c e f => h1 _ el i c (drop_take_get l off n j el e).1 f) (fun j el i c e f => hr _ el i c (drop_take_get l off n j el e).1 f)
            rw [hlen] at key
            exact key
        · have : (l.drop off).take 0 = [] := by simp
          rw [this]
          exact .slc [] sz false false [] a 0 0 0 (fun _ _ => undef) (fun e => absurd rfl e) (fun e => by cases e) (fun _ => rfl) (by simp) (fun e => by cases e)
              (fun j el e => by simp at e) (fun j el i c e => by simp at e) (fun j el i c e => by simp at e) (fun j el i c e => by simp at e) (fun j el i c e => by simp at e)
      · cases hs
    · cases hs
  | _ =>
    simp only [AV.snap0] at hs
    split at hs
    · rename_i hf
      cases hs
      exact hr.of_free0 hf
    · cases hs

theorem mapM_get {α β : Type} {f : α → Option β} : ∀ {l : List α} {r : List β}, l.mapM f = some r → r.length = l.length ∧ ∀ (i : Nat) (x : α) (y : β), l[i]? = some x → r[i]? = some y → f x = some y := by
  intro l
  induction l with
  | nil => intro r h; simp at h; subst h; exact ⟨rfl, fun i x y hx => by simp at hx⟩
  | cons a l ih =>
    intro r h
    simp only [List.mapM_cons, Option.bind_eq_bind, Option.bind_eq_some_iff, Option.pure_def, Option.some.injEq] at h
    obtain ⟨b, hb, r', hr', rfl⟩ := h
    obtain ⟨h1, h2⟩ := ih hr'
    refine ⟨by simp [h1], fun i x y hx hy => ?_⟩
    cases i with
    | zero => simp at hx hy; subst hx; subst hy; exact hb
    | succ i => exact h2 i x y (by simpa using hx) (by simpa using hy)
theorem mapM_get' {α β : Type} {f : α → Option β} {l : List α} {r : List β} (h : l.mapM f = some r) {i : Nat} {y : β} (hy : r[i]? = some y) : ∃ x, l[i]? = some x ∧ f x = some y := by
  obtain ⟨h1, h2⟩ := mapM_get h
  have hlt := (List.getElem?_eq_some_iff.1 hy).1
  have hx : l[i]? = some l[i] := List.getElem?_eq_getElem (by omega)
  exact ⟨_, hx, h2 i _ y hx hy⟩

theorem Rep.snap1 (hI : Inv B w0 I σ w h) {a y : AV} {v : Value} (hr : Rep I w σ a v) (hs : a.snap1 h = some y) : Rep I w [] y v := by
  cases a with
  | agg cs =>
    cases hr with | agg _ _ arr hsz h1 hr => ?_
    simp only [AV.snap1, Option.map_eq_some_iff] at hs
    obtain ⟨cs', hm, rfl⟩ := hs
    refine .agg [] cs' arr (by rw [(mapM_get hm).1]; exact hsz) (fun i c hi => ?_) (fun i c hi => ?_)
    · obtain ⟨x, hx, _⟩ := mapM_get' hm hi
      exact h1 i x hx
    · obtain ⟨x, hx, hf⟩ := mapM_get' hm hi
      exact (hr i x hx).snap0 hI hf
  | _ => exact hr.snap0 hI (by simpa [AV.snap1] using hs)

/-! ### Elements in a row of cells -/
structure ElemsRep (I : Cells) (w : World) (sz : Nat) (l : List AV) (arr : Array Value) : Prop where
  size : arr.size = l.length * sz
  cells : ∀ (j : Nat) (el : AV), l[j]? = some el → el.cells.length = sz
  one : ∀ (j : Nat) (el : AV) (i : Nat) (c : AV), l[j]? = some el → el.cells[i]? = some c → (arr.getD (j * sz + i) undef).oneCell' = true
  rep : ∀ (j : Nat) (el : AV) (i : Nat) (c : AV), l[j]? = some el → el.cells[i]? = some c → Rep I w [] c (arr.getD (j * sz + i) undef)

theorem foldl_put (vs : Array Value) (off : Nat) (arr : Array Value) (hle : off + vs.size ≤ arr.size) :
    (vs.zipIdx.foldl (fun (cs : Array Value) (p : Value × Nat) => cs.setIfInBounds (off + p.2) p.1) arr).size = arr.size ∧
    ∀ x, (vs.zipIdx.foldl (fun (cs : Array Value) (p : Value × Nat) => cs.setIfInBounds (off + p.2) p.1) arr).getD x undef = if off ≤ x ∧ x < off + vs.size then vs.getD (x - off) undef else arr.getD x undef := by
  rw [← Array.foldl_toList, Array.toList_zipIdx]
  have key : ∀ (vl : List Value) (k : Nat) (arr : Array Value), off + k + vl.length ≤ arr.size →
      ((vl.zipIdx k).foldl (fun (cs : Array Value) (p : Value × Nat) => cs.setIfInBounds (off + p.2) p.1) arr).size = arr.size ∧
      ∀ x, ((vl.zipIdx k).foldl (fun (cs : Array Value) (p : Value × Nat) => cs.setIfInBounds (off + p.2) p.1) arr).getD x undef = if off + k ≤ x ∧ x < off + k + vl.length then vl.getD (x - (off + k)) undef else arr.getD x undef := by
    intro vl
    induction vl with
    | nil => intro k arr _; exact ⟨rfl, fun x => by simp; intro a b; omega⟩
    | cons v vl ih =>
      intro k arr hle
      simp only [List.length_cons] at hle
      simp only [List.zipIdx_cons, List.foldl_cons]
      obtain ⟨h1, h2⟩ := ih (k + 1) (arr.setIfInBounds (off + k) v) (by simp; omega)
      refine ⟨by rw [h1]; simp, fun x => ?_⟩
      rw [h2 x]
      simp only [List.length_cons]
      by_cases hx : x = off + k
      · subst hx
        rw [if_neg (by omega), if_pos (by omega)]
        simp only [Nat.sub_self, List.getD_cons_zero]
        rw [Array.getD_eq_getD_getElem?, Array.getElem?_setIfInBounds_self_of_lt (by omega)]
        rfl
      · by_cases hc : off + k ≤ x ∧ x < off + k + (vl.length + 1)
        · rw [if_pos (by omega), if_pos hc]
          rw [show x - (off + k) = (x - (off + (k + 1))) + 1 by omega, List.getD_cons_succ]
        · rw [if_neg (by omega), if_neg hc]
          rw [Array.getD_eq_getD_getElem?, Array.getD_eq_getD_getElem?, Array.getElem?_setIfInBounds_ne (by omega)]
  obtain ⟨h1, h2⟩ := key vs.toList 0 arr (by simpa using hle)
  refine ⟨h1, fun x => ?_⟩
  have := h2 x
  simp only [Nat.add_zero, Array.length_toList] at this
  rw [this]
  split
  · rw [Array.getD_eq_getD_getElem?, List.getD_eq_getElem?_getD, Array.getElem?_toList]
  · rfl

theorem ElemsRep.put {sz : Nat} {l : List AV} {arr : Array Value} (hr : ElemsRep I w sz l arr) {y : AV} {ys : List AV} {vs : Array Value} (hy : y.cells = ys) (hl : ys.length = sz)
    (hx : CellsRep I w [] ys vs) {j : Nat} (hj : j < l.length) :
    ElemsRep I w sz (l.set j y) (vs.zipIdx.foldl (fun (cs : Array Value) (p : Value × Nat) => cs.setIfInBounds (j * sz + p.2) p.1) arr) := by
  have hmul : ∀ a b, a < b → a * sz + sz ≤ b * sz := fun a b hab => by
    have := Nat.mul_le_mul_right sz (show a + 1 ≤ b from hab)
    rwa [Nat.add_mul, Nat.one_mul] at this
  have hvs := hx.size
  obtain ⟨h1, h2⟩ := foldl_put vs (j * sz) arr (by rw [hr.size]; have := hmul j l.length hj; omega)
  have get : ∀ (a : Nat) (el : AV), (l.set j y)[a]? = some el → (a = j ∧ el = y) ∨ (a ≠ j ∧ l[a]? = some el) := by
    intro a el he
    by_cases e : j = a
    · subst e; rw [List.getElem?_set_self hj] at he; cases he; exact .inl ⟨rfl, rfl⟩
    · rw [List.getElem?_set_ne e] at he; exact .inr ⟨fun e' => e e'.symm, he⟩
  have hcs : ∀ (a : Nat) (el : AV), (l.set j y)[a]? = some el → el.cells.length = sz := by
    intro a el he
    rcases get a el he with ⟨_, rfl⟩ | ⟨_, he⟩
    · rw [hy]; exact hl
    · exact hr.cells a el he
  have val : ∀ (a : Nat) (el : AV) (i : Nat) (c : AV), (l.set j y)[a]? = some el → el.cells[i]? = some c →
      (a = j ∧ ys[i]? = some c ∧ (vs.zipIdx.foldl (fun (cs : Array Value) (p : Value × Nat) => cs.setIfInBounds (j * sz + p.2) p.1) arr).getD (a * sz + i) undef = vs.getD i undef) ∨
      (l[a]? = some el ∧ (vs.zipIdx.foldl (fun (cs : Array Value) (p : Value × Nat) => cs.setIfInBounds (j * sz + p.2) p.1) arr).getD (a * sz + i) undef = arr.getD (a * sz + i) undef) := by
    intro a el i c he hc
    have hi : i < sz := by rw [← hcs a el he]; exact (List.getElem?_eq_some_iff.1 hc).1
    rcases get a el he with ⟨rfl, rfl⟩ | ⟨hne, he⟩
    · refine .inl ⟨rfl, by rw [← hy]; exact hc, ?_⟩
      rw [h2, if_pos (by omega), Nat.add_sub_cancel_left]
    · refine .inr ⟨he, ?_⟩
      rw [h2, if_neg]
      rintro ⟨p, q⟩
      rcases Nat.lt_or_gt_of_ne hne with hlt | hlt
      · have := hmul a j hlt; omega
      · have := hmul j a hlt; omega
  refine ⟨by rw [h1, hr.size]; simp, hcs, fun a el i c he hc => ?_, fun a el i c he hc => ?_⟩
  · rcases val a el i c he hc with ⟨_, h3, h4⟩ | ⟨h3, h4⟩
    · rw [h4]; exact hx.one i c h3
    · rw [h4]; exact hr.one a el i c h3 hc
  · rcases val a el i c he hc with ⟨_, h3, h4⟩ | ⟨h3, h4⟩
    · rw [h4]; exact hx.rep i c h3
    · rw [h4]; exact hr.rep a el i c h3 hc
end
end Go.AE
