/- AE, part 20: what is left behind a call. -/
import Derived.Test.YtpgoibncgekflaaAexMark
set_option linter.unusedVariables false
set_option linter.unusedSimpArgs false
namespace Go.AE
open Go Go.RowKit

section
variable {P : Program} {B : Nat} {w0 w w' : World} {I I' : Cells} {σ σ' : List Loc} {h : List AO}

theorem take_loc {n id : Nat} {L : Loc} (hL : σ[id]? = some L) (hlt : id < n) : (σ.take n)[id]? = some L := by
  rw [List.getElem?_take_of_lt hlt]; exact hL

theorem Rep.below0 {n : Nat} {x : AV} {v : Value} (hr : Rep I w σ x v) (hb : x.below0 n = true) : Rep I w (σ.take n) x v := by
  cases hr with
  | v => exact .v _ _
  | junk => exact .junk _ _
  | slc _ sz ex nn l a cap b o g ha hn hnil hcap hex hsz hc hi h1 hr => exact .slc _ sz ex nn l a cap b o g ha hn hnil hcap hex hsz hc hi h1 hr
  | ip _ cs b o g hc hi h1 hr => exact .ip _ cs b o g hc hi h1 hr
  | agg _ cs arr hs h1 hr => simp [AV.below0] at hb
  | tup _ vs arr hs hr => simp [AV.below0] at hb
  | own _ sz id ver off n' x h1x L hL hv hx => exact .own _ sz id ver off n' _ h1x L (take_loc hL (by simpa [AV.below0] using hb)) hv hx
  | ptr _ id off L hL hf' => exact .ptr _ id off L (take_loc hL (by simpa [AV.below0] using hb)) hf'
  | ep _ sz id ver idx off x h1x L hL hv hx => exact .ep _ sz id ver idx off _ h1x L (take_loc hL (by simpa [AV.below0] using hb)) hv hx
  | mp _ id L hL hf' => exact .mp _ id L (take_loc hL (by simpa [AV.below0] using hb)) hf'
  | it _ id L hL hf' => exact .it _ id L (take_loc hL (by simpa [AV.below0] using hb)) hf'
  | fn _ f p q ap aq hp hq hpr hqr =>
    cases p with
    | cons _ _ => simp [AV.below0] at hb
    | nil => cases q with
      | cons _ _ => simp [AV.below0] at hb
      | nil => exact .fn _ f [] [] ap aq hp hq (fun i c h => by simp at h) (fun i c h => by simp at h)

theorem Rep.below1 {n : Nat} {x : AV} {v : Value} (hr : Rep I w σ x v) (hb : x.below1 n = true) : Rep I w (σ.take n) x v := by
  cases x with
  | fn f p q =>
    cases hr with
    | fn _ _ _ _ ap aq hp hq hpr hqr =>
      simp only [AV.below1, Bool.and_eq_true, List.all_eq_true] at hb
      exact .fn _ f p q ap aq hp hq (fun i c hc => (hpr i c hc).below0 (hb.1 c (List.mem_of_getElem? hc))) (fun i c hc => (hqr i c hc).below0 (hb.2 c (List.mem_of_getElem? hc)))
  | _ => exact hr.below0 (by simpa [AV.below1] using hb)

/-- What can't change any more once the objects from n on are gone. -/
def Gone (I : Cells) (w : World) (σ : List Loc) (n : Nat) : Cells := fun b x => I b x ∨ (∃ (id : Nat) (L : Loc), n ≤ id ∧ σ[id]? = some L ∧ L.has = true ∧ L.b = b ∧ ∃ v, w.cell? ⟨b, x, none⟩ = some v)

theorem gone_ext (n : Nat) : Ext I w (Gone I w σ n) w := ⟨fun b x h => .inl h, fun _ _ _ => rfl⟩

theorem Inv.leave (hI : Inv B w0 I σ w h) {n : Nat} (hn : n ≤ h.length) (hb : (h.take n).all (AO.below n) = true) : Inv B w0 (Gone I w σ n) (σ.take n) w (h.take n) where
  below := hI.below
  base := hI.base
  len := by simp [hI.len]
  obj := by
    intro id o L ho hL
    have hlt : id < n := by
      have := (List.getElem?_eq_some_iff.1 ho).1
      simp at this; omega
    rw [List.getElem?_take_of_lt hlt] at ho hL
    have hbo : o.below n = true := by
      have := List.all_eq_true.1 hb o (List.mem_of_getElem? (i := id) (by rw [List.getElem?_take_of_lt hlt]; exact ho))
      exact this
    have hr := hI.obj id o L ho hL
    have hno : L.has = true → ∀ x, Gone I w σ n L.b x → I L.b x := by
      rintro hh x (hx | ⟨id', L', h1, h2, h3, h4, _⟩)
      · exact hx
      · exact absurd h4.symm (hI.dist id id' L L' hL h2 (by omega) hh h3)
    cases o with
    | box cs =>
      obtain ⟨h1, h2, h3, ⟨arr, t, h4, h5, h6, h7⟩, h8⟩ := hr
      simp only [AO.below, List.all_eq_true] at hbo
      exact ⟨h1, h2, h3, ⟨arr, t, h4, h5, h6, fun i c hc => ((h7 i c hc).below1 (hbo c (List.mem_of_getElem? hc))).mono (gone_ext n) (Later.refl _)⟩, fun x hx => h8 x (hno h2 x hx)⟩
    | row sz ver l k => exact ⟨hr.1, hr.2.1, hr.2.2.mono (gone_ext n) (fun _ => rfl) hno⟩
    | map es =>
      obtain ⟨h1, h2, entries, clock, h3, h4, h5⟩ := hr
      refine ⟨h1, h2, entries, clock, h3, h4, fun i e hi => ?_⟩
      obtain ⟨m, m1, m2, m3⟩ := h5 i e hi
      exact ⟨m, m1, m2, m3.mono (gone_ext n) (Later.refl _)⟩
    | siter s pos => exact hr
  mine := fun id L hL hh => hI.mine id L (by
    have hlt : id < n := by
      have := (List.getElem?_eq_some_iff.1 hL).1
      simp at this; omega
    rwa [List.getElem?_take_of_lt hlt] at hL) hh
  dist := fun i j Li Lj hi hj hne h1 h2 => hI.dist i j Li Lj (take_get hi) (take_get hj) hne h1 h2
  imm := by
    rintro b x (hx | ⟨_, _, _, _, _, _, hv⟩)
    · exact hI.imm b x hx
    · exact hv

theorem gone_step {n : Nat} (hI : Inv B w0 I σ w h) {σ0 : List Loc} {I0 : Cells} {wa : World} (hs : Step B I0 σ0 wa I σ w) (hn : σ0.length = n) : Step B I0 σ0 wa (Gone I w σ n) (σ.take n) w := by
  refine ⟨hs.ext.trans (gone_ext n), fun id L hL => ?_, ?_, hs.size⟩
  · obtain ⟨L', h1, h2⟩ := hs.later id L hL
    have := (List.getElem?_eq_some_iff.1 hL).1
    exact ⟨L', take_loc h1 (by omega), h2⟩
  · rintro b x (hx | ⟨id, L, _, h2, h3, rfl, _⟩)
    · exact hs.new b x hx
    · exact .inr (hI.mine id L h2 h3).1

/-- A row that is gone, as a value. -/
theorem Rep.frz0 (hI : Inv B w0 I σ w h) {n : Nat} {x y : AV} {v : Value} (hr : Rep I w σ x v) (hf : x.frz0 n h = some y) : Rep (Gone I w σ n) w (σ.take n) y v := by
  cases x with
  | own sz id ver off m =>
    simp only [AV.frz0] at hf
    split at hf
    · rename_i hlt
      cases hf
      exact (hr.below0 (by simpa [AV.below0] using hlt)).mono (gone_ext n) (Later.refl _)
    · rename_i hge
      split at hf
      · rename_i l k hra
        cases hf
        obtain ⟨hh, hm⟩ := rowAt_eq hra
        cases hr with
        | own _ _ _ _ _ _ x h1x L hL hv hx =>
          obtain ⟨hfx, hver, hR⟩ := hI.obj id _ L hh hL
          have hlen := take_drop_len (l := l) (off := off) (n := m) hm
          rcases hx hver.symm with ⟨hhas, hcap, rfl⟩ | ⟨rfl, a, rfl⟩
          · by_cases hne : l = []
            · subst hne
              simp at hm
              have hn0 : m = 0 := by omega
              subst hn0
              exact .slc _ sz false false [] (some ⟨L.b, L.o + off * sz, none⟩) (L.cap - off) 0 0 (fun _ _ => undef) (fun e => absurd rfl e) (fun e => by cases e) (fun e => by cases e) (by simp) (fun e => by cases e)
                (fun j el e => by simp at e) (fun j el i c e => by simp at e) (fun j el i c e => by simp at e) (fun j el i c e => by simp at e) (fun j el i c e => by simp at e)
            · obtain ⟨_, _, _, _, hsz, g, hc, h1, hr⟩ := hI.row_cells hh hL hne
              have cell : ∀ (j : Nat) (el : AV) (i : Nat) (c : AV), ((l.drop off).take m)[j]? = some el → el.cells[i]? = some c → w.cell? ⟨L.b, L.o + off * sz + (j * sz + i), none⟩ = some (g (off + j) i) := by
                intro j el i c e f
                have := hc _ el i c (drop_take_get l off m j el e).1 f
                rwa [show L.o + off * sz + (j * sz + i) = L.o + ((off + j) * sz + i) by rw [Nat.add_mul]; omega]
              have key := Rep.slc (I := Gone I w σ n) (w := w) (σ.take n) sz false false ((l.drop off).take m) (some ⟨L.b, L.o + off * sz, none⟩) (L.cap - off) L.b (L.o + off * sz) (fun j i => g (off + j) i) (fun _ => rfl) (fun e => by cases e)
                (fun e => by cases e) (by rw [hlen]; omega) (fun e => by cases e) (fun j el e => hsz _ el (drop_take_get l off m j el e).1) cell
                (fun j el i c e f => .inr ⟨id, L, by omega, hL, hhas, rfl, _, cell j el i c e f⟩)
                (fun j el i c e f => h1 _ el i c (drop_take_get l off m j el e).1 f) (fun j el i c e f => (hr _ el i c (drop_take_get l off m j el e).1 f).mono (gone_ext n) (Later.refl _))
              rw [hlen] at key
              exact key
          · have : (l.drop off).take 0 = [] := by simp
            rw [this]
            exact .slc _ sz false false [] a 0 0 0 (fun _ _ => undef) (fun e => absurd rfl e) (fun e => by cases e) (fun _ => rfl) (by simp) (fun e => by cases e)
                (fun j el e => by simp at e) (fun j el i c e => by simp at e) (fun j el i c e => by simp at e) (fun j el i c e => by simp at e) (fun j el i c e => by simp at e)
      · cases hf
  | ptr id off =>
    simp only [AV.frz0] at hf
    split at hf
    · rename_i hlt; cases hf; exact (hr.below0 (by simpa [AV.below0] using hlt)).mono (gone_ext n) (Later.refl _)
    · cases hf
  | ep sz id ver i off =>
    simp only [AV.frz0] at hf
    split at hf
    · rename_i hlt; cases hf; exact (hr.below0 (by simpa [AV.below0] using hlt)).mono (gone_ext n) (Later.refl _)
    · cases hf
  | mp id =>
    simp only [AV.frz0] at hf
    split at hf
    · rename_i hlt; cases hf; exact (hr.below0 (by simpa [AV.below0] using hlt)).mono (gone_ext n) (Later.refl _)
    · cases hf
  | it id =>
    simp only [AV.frz0] at hf
    split at hf
    · rename_i hlt; cases hf; exact (hr.below0 (by simpa [AV.below0] using hlt)).mono (gone_ext n) (Later.refl _)
    · cases hf
  | fn f p q =>
    cases p with
    | cons _ _ => simp [AV.frz0] at hf
    | nil => cases q with
      | cons _ _ => simp [AV.frz0] at hf
      | nil =>
        simp only [AV.frz0, Option.some.injEq] at hf
        subst hf
        exact (hr.below0 (n := n) (by simp [AV.below0])).mono (gone_ext n) (Later.refl _)
  | agg cs => simp [AV.frz0] at hf
  | tup vs => simp [AV.frz0] at hf
  | v x => simp only [AV.frz0, Option.some.injEq] at hf; subst hf; exact (hr.below0 (n := n) rfl).mono (gone_ext n) (Later.refl _)
  | junk => simp only [AV.frz0, Option.some.injEq] at hf; subst hf; exact .junk _ _
  | slc sz ex nn l => simp only [AV.frz0, Option.some.injEq] at hf; subst hf; exact (hr.below0 (n := n) rfl).mono (gone_ext n) (Later.refl _)
  | ip cs => simp only [AV.frz0, Option.some.injEq] at hf; subst hf; exact (hr.below0 (n := n) rfl).mono (gone_ext n) (Later.refl _)

theorem Rep.frz1 (hI : Inv B w0 I σ w h) {n : Nat} {x y : AV} {v : Value} (hr : Rep I w σ x v) (hf : x.frz1 n h = some y) : Rep (Gone I w σ n) w (σ.take n) y v := by
  cases x with
  | agg cs =>
    simp only [AV.frz1, Option.map_eq_some_iff] at hf
    obtain ⟨cs', hm, rfl⟩ := hf
    cases hr with
    | agg _ _ arr hs h1 hr =>
      refine .agg _ cs' arr (by rw [(mapM_get hm).1]; exact hs) (fun i c hi => ?_) (fun i c hi => ?_)
      · obtain ⟨x, hx, _⟩ := mapM_get' hm hi; exact h1 i x hx
      · obtain ⟨x, hx, hf⟩ := mapM_get' hm hi; exact (hr i x hx).frz0 hI hf
  | fn f p q =>
    simp only [AV.frz1, Option.bind_eq_bind, Option.bind_eq_some_iff, Option.pure_def, Option.some.injEq] at hf
    obtain ⟨p', hp', q', hq', rfl⟩ := hf
    cases hr with
    | fn _ _ _ _ ap aq hp hq hpr hqr =>
      refine .fn _ f p' q' ap aq (by rw [(mapM_get hp').1]; exact hp) (by rw [(mapM_get hq').1]; exact hq) (fun i c hi => ?_) (fun i c hi => ?_)
      · obtain ⟨x, hx, hf⟩ := mapM_get' hp' hi; exact (hpr i x hx).frz0 hI hf
      · obtain ⟨x, hx, hf⟩ := mapM_get' hq' hi; exact (hqr i x hx).frz0 hI hf
  | _ => exact hr.frz0 hI (by simpa [AV.frz1] using hf)

theorem Rep.frz2 (hI : Inv B w0 I σ w h) {n : Nat} {x y : AV} {v : Value} (hr : Rep I w σ x v) (hf : x.frz2 n h = some y) : Rep (Gone I w σ n) w (σ.take n) y v := by
  cases x with
  | tup vs =>
    simp only [AV.frz2, Option.map_eq_some_iff] at hf
    obtain ⟨vs', hm, rfl⟩ := hf
    cases hr with
    | tup _ _ arr hs hr =>
      refine .tup _ vs' arr (by rw [(mapM_get hm).1]; exact hs) (fun i c hi => ?_)
      obtain ⟨x, hx, hf⟩ := mapM_get' hm hi; exact (hr i x hx).frz1 hI hf
  | _ => exact hr.frz1 hI (by simpa [AV.frz2] using hf)
end
end Go.AE
