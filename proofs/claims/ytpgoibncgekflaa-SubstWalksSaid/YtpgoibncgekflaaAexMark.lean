/- AE, part 19: what is agreed ahead of a region; what is left behind a call. -/
import Derived.Test.YtpgoibncgekflaaAexReg
set_option linter.unusedVariables false
set_option linter.unusedSimpArgs false
namespace Go.AE
open Go Go.RowKit

section
variable {P : Program} {B : Nat} {w0 w w' : World} {I I' : Cells} {σ σ' : List Loc} {h : List AO} {vt : List Tmp} {nt : Nat} {vars env : List AV} {lm : List (Option Tmp)} {a : Act}

theorem set_same {α : Type} {l : List α} {i : Nat} {x : α} (hx : l[i]? = some x) : l.set i x = l := by
  apply List.ext_getElem?
  intro j
  by_cases e : i = j
  · subst e; rw [List.getElem?_set_self (List.getElem?_eq_some_iff.1 hx).1, hx]
  · rw [List.getElem?_set_ne e]

theorem raise_ok (hI : Inv B w0 I σ w h) (sz id ver m : Nat) : ∃ I', Inv B w0 I' σ w (raise h sz id ver m) ∧ Step B I σ w I' σ w := by
  unfold raise
  split
  · rename_i l k hra
    obtain ⟨hh, hm⟩ := rowAt_eq hra
    obtain ⟨L, hL, hf, hver, hR⟩ := hI.loc hh
    rcases hR.lies with ⟨rfl, h2, h3⟩ | ⟨hhas, arr, t, hb, hasz, hcap, h1, hr, himm, hno⟩
    · simp at hm
      subst hm
      have : max k 0 = k := by simp
      rw [this, set_same hh]
      exact ⟨I, hI, Step.refl _ _ _ _⟩
    · have hBb := hI.mine id L hL hhas
      have he : Ext I w (fun b x => I b x ∨ (b = L.b ∧ L.o ≤ x ∧ x < L.o + m * sz)) w := ⟨fun b x hb => .inl hb, fun _ _ _ => rfl⟩
      have hmc : m * sz ≤ L.cap * sz := Nat.mul_le_mul_right _ (by omega)
      have hinv := hI.upd (id := id) (L' := L) (o' := .row sz ver l (max k m)) (w' := w) hL (Below.refl _ _) he
        (by
          rintro b x (hb' | ⟨rfl, h5, h6⟩)
          · exact hI.imm b x hb'
          · have : x < arr.size := by omega
            exact ⟨arr[x], by simp [World.cell?, hb, this]⟩)
        (fun j Lj hj hLj hhj => ⟨rfl, fun x hx => by
          rcases hx with hx | ⟨e, _⟩
          · exact hx
          · exact absurd e (hI.dist j id Lj L hLj hL hj hhj hhas)⟩) (.inl rfl)
        (by
          rw [set_same hL]
          refine ⟨hf, hver, by have := hR.hk; omega, hR.hsz, .inr ⟨hhas, arr, t, hb, hasz, hcap, h1, fun j el i c p q => (hr j el i c p q).mono he (Later.nil _), fun j i hj hi => ?_, fun x hx hi => ?_⟩⟩
          · by_cases hjk : j < k
            · exact .inl (himm j i hjk hi)
            · refine .inr ⟨rfl, by omega, ?_⟩
              have := mul_succ_le (sz := sz) (show j < m by omega)
              omega
          · have m1 : k * sz ≤ max k m * sz := Nat.mul_le_mul_right _ (Nat.le_max_left _ _)
            have m2 : m * sz ≤ max k m * sz := Nat.mul_le_mul_right _ (Nat.le_max_right _ _)
            rcases hi with hi | ⟨_, _, hi⟩
            · exact hno x (by omega) hi
            · omega)
        (fun _ => ⟨hBb.1, hBb.2, fun j Lj hj hLj hhj => hI.dist j id Lj L hLj hL hj hhj hhas⟩)
      rw [set_same hL] at hinv
      refine ⟨_, hinv, he, Later.refl _, ?_, Nat.le_refl _⟩
      rintro b x (hb' | ⟨rfl, _⟩)
      · exact .inl hb'
      · exact .inr hBb.1
  · exact ⟨I, hI, Step.refl _ _ _ _⟩

theorem raise0_ok (hI : Inv B w0 I σ w h) (x : AV) : ∃ I', Inv B w0 I' σ w (raise0 h x) ∧ Step B I σ w I' σ w := by
  cases x with
  | own sz id ver off n => exact raise_ok hI sz id ver (off + n)
  | _ => exact ⟨I, hI, Step.refl _ _ _ _⟩
theorem raiseL_ok : ∀ (cs : List AV) {I : Cells} {h : List AO}, Inv B w0 I σ w h → ∃ I', Inv B w0 I' σ w (cs.foldl raise0 h) ∧ Step B I σ w I' σ w := by
  intro cs
  induction cs with
  | nil => intro I h hI; exact ⟨I, hI, Step.refl _ _ _ _⟩
  | cons c cs ih =>
    intro I h hI
    obtain ⟨I1, h1, s1⟩ := raise0_ok hI c
    obtain ⟨I2, h2, s2⟩ := ih h1
    exact ⟨I2, h2, s1.trans s2⟩

/-- a nil is as good as a row without elements, that lies nowhere yet -/
theorem adopt_ok (hI : Inv B w0 I σ w h) (sz : Nat) : Inv B w0 I (σ ++ [⟨false, false, 0, 0, 0, 0⟩]) w (h ++ [.row sz 0 [] 0]) ∧ Step B I σ w I (σ ++ [⟨false, false, 0, 0, 0, 0⟩]) w ∧
    Rep I w (σ ++ [⟨false, false, 0, 0, 0, 0⟩]) (.own sz h.length 0 0 0) (.slice none 0 0) := by
  refine ⟨hI.push (Below.refl _ _) (Ext.refl _ _) hI.imm (fun j Lj _ _ => ⟨rfl, fun x hx => hx⟩) ⟨rfl, rfl, Nat.le_refl _, fun j el e => by simp at e, .inl ⟨rfl, rfl, rfl⟩⟩ (fun e => by cases e),
    ⟨Ext.refl _ _, Later.append _ _, fun b x hx => .inl hx, Nat.le_refl _⟩, ?_⟩
  exact .own _ sz _ 0 0 0 _ rfl ⟨false, false, 0, 0, 0, 0⟩ (by rw [← hI.len]; simp) (Nat.le_refl _) (fun _ => .inr ⟨rfl, none, rfl⟩)

theorem mark_ok (hI : Inv B w0 I σ w h) (hv : VOk I w σ vt nt vars a) (m : Mark) :
    ∃ I' σ', Inv B w0 I' σ' w (doMark (vars, h) m).2 ∧ Step B I σ w I' σ' w ∧ VOk I' w σ' vt nt (doMark (vars, h) m).1 a := by
  cases m with
  | v i =>
    simp only [doMark]
    obtain ⟨I', h1, h2⟩ : ∃ I', Inv B w0 I' σ w (raise1 h (vars.getD i .junk)) ∧ Step B I σ w I' σ w := by
      unfold raise1
      split
      · exact raiseL_ok _ hI
      · exact raise0_ok hI _
    exact ⟨I', σ, h1, h2, hv.step h2⟩
  | p i off n =>
    simp only [doMark]
    split
    · split
      · obtain ⟨I', h1, h2⟩ := raiseL_ok ((List.drop (_ + off) _).take n) hI
        exact ⟨I', σ, h1, h2, hv.step h2⟩
      · exact ⟨I, σ, hI, Step.refl _ _ _ _, hv⟩
    · exact ⟨I, σ, hI, Step.refl _ _ _ _, hv⟩
  | av i sz =>
    simp only [doMark]
    split
    · rename_i hx
      obtain ⟨h1, h2, h3⟩ := adopt_ok hI sz
      refine ⟨I, _, h1, h2, ?_⟩
      have hv' := hv.step h2
      refine ⟨by simp [hv.len], hv.size, hv.defers, hv.nodup, hv.lt, fun j t y g1 g2 => ?_⟩
      by_cases e : i = j
      · subst e
        have hlt : i < vars.length := by rw [hv.len]; exact (List.getElem?_eq_some_iff.1 g1).1
        rw [List.getElem?_set_self hlt] at g2
        cases g2
        have hrep := hv.rep i t _ g1 (List.getElem?_eq_getElem hlt)
        have hxx : vars[i] = .v (.slice none 0 0) := by rw [List.getD_eq_getElem?_getD, List.getElem?_eq_getElem hlt] at hx; exact hx
        rw [hxx] at hrep
        generalize a.tmps.getD t undef = z at hrep ⊢
        cases hrep
        exact h3
      · rw [List.getElem?_set_ne e] at g2
        exact hv'.rep j t y g1 g2
    · exact ⟨I, σ, hI, Step.refl _ _ _ _, hv⟩
  | ap i off sz =>
    simp only [doMark]
    split
    · rename_i id o hx
      split
      · rename_i cs ho
        split
        · rename_i hc
          obtain ⟨h1, h2, h3⟩ := adopt_ok hI sz
          have hid := (List.getElem?_eq_some_iff.1 ho).1
          have ho1 : (h ++ [AO.row sz 0 [] 0])[id]? = some (.box cs) := by rw [List.getElem?_append_left hid]; exact ho
          obtain ⟨L, hL, hf, hhas, hR⟩ := h1.loc ho1
          obtain ⟨arr, t, hb, hs, hone, hrep⟩ := hR.lies
          have hBb := h1.mine id L hL hhas
          have hval : Rep I w (σ ++ [⟨false, false, 0, 0, 0, 0⟩]) (.own sz h.length 0 0 0) (arr.getD (o + off) undef) := by
            have := hrep _ _ hc
            generalize arr.getD (o + off) undef = z at this ⊢
            cases this
            exact h3
          have hinv := h1.upd (id := id) (L' := L) (o' := .box (cs.set (o + off) (.own sz h.length 0 0 0))) (w' := w) hL (Below.refl _ _) (Ext.refl _ _) h1.imm (fun j Lj _ _ _ => ⟨rfl, fun x hx => hx⟩) (.inl rfl)
            (by
              rw [set_same hL]
              refine ⟨hf, hhas, hR.o, ⟨arr, t, hb, by simp [hs], fun j c hj => ?_, fun j c hj => ?_⟩, hR.apart⟩
              · by_cases e : o + off = j
                · subst e
                  exact hone _ _ hc
                · rw [List.getElem?_set_ne e] at hj; exact hone j c hj
              · by_cases e : o + off = j
                · subst e
                  rw [List.getElem?_set_self (List.getElem?_eq_some_iff.1 hc).1] at hj
                  cases hj; exact hval
                · rw [List.getElem?_set_ne e] at hj; exact hrep j c hj)
            (fun _ => ⟨hBb.1, hBb.2, fun j Lj hj hLj hhj => h1.dist j id Lj L hLj hL hj hhj hhas⟩)
          rw [set_same hL, List.set_append_left _ _ hid] at hinv
          exact ⟨I, _, hinv, h2, hv.step h2⟩
        · exact ⟨I, σ, hI, Step.refl _ _ _ _, hv⟩
      · exact ⟨I, σ, hI, Step.refl _ _ _ _, hv⟩
    · exact ⟨I, σ, hI, Step.refl _ _ _ _, hv⟩

theorem marks_ok : ∀ (ms : List Mark) {I : Cells} {σ : List Loc} {h : List AO} {vars : List AV}, Inv B w0 I σ w h → VOk I w σ vt nt vars a →
    ∃ I' σ', Inv B w0 I' σ' w (ms.foldl doMark (vars, h)).2 ∧ Step B I σ w I' σ' w ∧ VOk I' w σ' vt nt (ms.foldl doMark (vars, h)).1 a := by
  intro ms
  induction ms with
  | nil => intro I σ h vars hI hv; exact ⟨I, σ, hI, Step.refl _ _ _ _, hv⟩
  | cons m ms ih =>
    intro I σ h vars hI hv
    obtain ⟨I1, σ1, h1, s1, v1⟩ := mark_ok hI hv m
    obtain ⟨I2, σ2, h2, s2, v2⟩ := ih h1 v1
    exact ⟨I2, σ2, h2, s1.trans s2, v2⟩
end
end Go.AE
