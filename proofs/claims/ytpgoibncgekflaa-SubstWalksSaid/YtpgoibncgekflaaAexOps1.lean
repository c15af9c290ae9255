/- AE, part 5: operations that read and make. -/
import Derived.Test.YtpgoibncgekflaaAexInv
set_option linter.unusedVariables false
set_option linter.unusedSimpArgs false
namespace Go.AE
open Go Go.RowKit

/-- An operation ends in a value that r stands for, the objects being h'. -/
def Gives (P : Program) (B : Nat) (w0 : World) (I : Cells) (σ : List Loc) (w : World) (s : Sem Next) (r : AV) (h' : List AO) : Prop :=
  ∃ v w' I' σ', (s.run P w = .ok (.value v) w' ∨ (s.run P w = .ok .skip w' ∧ v = undef)) ∧ Inv B w0 I' σ' w' h' ∧ Step B I σ w I' σ' w' ∧ Rep I' w' σ' r v

section
variable {P : Program} {B : Nat} {w0 w w' : World} {I I' : Cells} {σ σ' : List Loc} {h : List AO}

theorem Gives.same (hI : Inv B w0 I σ w h) {s : Sem Next} {r : AV} {v : Value} (hs : s.run P w = .ok (.value v) w) (hr : Rep I w σ r v) : Gives P B w0 I σ w s r h :=
  ⟨v, w, I, σ, .inl hs, hI, .refl _ _ _ _, hr⟩

theorem Rep.cl {a : AV} {v : Value} (hr : Rep I w σ a v) {cs : List AV} (hc : a.cl = some cs) :
    a.cells = cs ∧ v.cells.size = cs.length ∧ (∀ (i : Nat) (c : AV), cs[i]? = some c → (v.cells.getD i undef).oneCell' = true) ∧ (∀ (i : Nat) (c : AV), cs[i]? = some c → Rep I w σ c (v.cells.getD i undef)) := by
  have one : ∀ {c : AV} {u : Value}, u.oneCell' = true → Rep I w σ c u → [c] = cs → v = u → [c] = cs ∧ v.cells.size = cs.length ∧ (∀ (i : Nat) (c : AV), cs[i]? = some c → (v.cells.getD i undef).oneCell' = true) ∧ (∀ (i : Nat) (c : AV), cs[i]? = some c → Rep I w σ c (v.cells.getD i undef)) := by
    rintro c u hu hrep rfl rfl
    have hcells : v.cells = #[v] := by cases v <;> first | rfl | (simp [Value.oneCell'] at hu)
    refine ⟨rfl, by simp [hcells], ?_, ?_⟩ <;>
    · intro i c' hi
      cases i with
      | zero => simp at hi; subst hi; simpa [hcells] using (by assumption)
      | succ i => simp at hi
  cases hr with
  | v =>
    simp only [AV.cl] at hc
    split at hc
    · rename_i hu; exact one hu (.v _ _) (Option.some.inj hc) rfl
    · cases hc
  | junk => simp [AV.cl] at hc
  | tup _ vs arr hs hr => simp [AV.cl] at hc
  | agg _ cs' arr hs h1 hr =>
    simp only [AV.cl, Option.some.injEq] at hc
    subst hc
    exact ⟨rfl, hs, h1, hr⟩
  | slc _ sz ex nn l a cap b o g ha hn hnil hcap hex hsz hc' hi h1 hr => exact one rfl (.slc _ sz ex nn l a cap b o g ha hn hnil hcap hex hsz hc' hi h1 hr) (Option.some.inj hc) rfl
  | ip _ cs' b o g hc' hi h1 hr => exact one rfl (.ip _ cs' b o g hc' hi h1 hr) (Option.some.inj hc) rfl
  | own _ sz id ver off n x h1x L hL hv hx => exact one h1x (.own _ sz id ver off n v h1x L hL hv hx) (Option.some.inj hc) rfl
  | ptr _ id off L hL hf => exact one rfl (.ptr _ id off L hL hf) (Option.some.inj hc) rfl
  | ep _ sz id ver idx off x h1x L hL hv hx => exact one h1x (.ep _ sz id ver idx off v h1x L hL hv hx) (Option.some.inj hc) rfl
  | fn _ f p q ap aq hp hq hpr hqr => exact one rfl (.fn _ f p q ap aq hp hq hpr hqr) (Option.some.inj hc) rfl
  | mp _ id L hL hf => exact one rfl (.mp _ id L hL hf) (Option.some.inj hc) rfl
  | it _ id L hL hf => exact one rfl (.it _ id L hL hf) (Option.some.inj hc) rfl

theorem Rep.ofVal (x : Value) : Rep I w σ (ofVal x) x := by
  cases x with
  | agg arr =>
    simp only [AE.ofVal]
    split
    · rename_i ha
      refine .agg σ _ arr (by simp) (fun i c hi => ?_) (fun i c hi => ?_)
      · have hlt := (List.getElem?_eq_some_iff.1 hi).1
        simp at hlt
        have := (Array.all_eq_true.1 ha) i hlt
        simpa [Array.getD, hlt] using this
      · have hlt := (List.getElem?_eq_some_iff.1 hi).1
        simp at hlt
        simp [hlt] at hi
        subst hi
        simpa [Array.getD, hlt] using Rep.v σ arr[i]
    · exact .v σ _
  | _ => exact .v σ _

/-- What an operand stands for. -/
def OpsOk (I : Cells) (w : World) (σ : List Loc) (vars env : List AV) (ρ : Operand → Value) (m : Tmp → Option Opd) : Prop :=
  ∀ (t : Tmp) (y : Opd), m t = some y → Rep I w σ (getO vars env y) (ρ (.tmp t))
def cO (m : Tmp → Option Opd) : Operand → Option Opd
  | .tmp t => m t
  | .const x => some (.k x)
  | .func f => some (.fn f)
  | .global _ => none
theorem OpsOk.get {vars env : List AV} {a : Act} {m : Tmp → Option Opd} (ho : OpsOk I w σ vars env a.eval m) {x : Operand} {y : Opd} (hx : cO m x = some y) :
    Rep I w σ (getO vars env y) (a.eval x) := by
  cases x with
  | tmp t => exact ho t y hx
  | const v => simp only [cO, Option.some.injEq] at hx; subst hx; exact Rep.ofVal v
  | func f => simp only [cO, Option.some.injEq] at hx; subst hx; exact .fn σ (.func f) [] [] #[] #[] rfl rfl (fun i c h => by simp at h) (fun i c h => by simp at h)
  | global g => simp [cO] at hx

/-! ### A variable in memory -/
theorem gives_box (hI : Inv B w0 I σ w h) {x : AV} {vx : Value} (hx : Rep I w σ x vx) {cs : List AV} (hc : x.cl = some cs) (e : TypeId) :
    Gives P B w0 I σ w (do pure (.value (← Instr.box e vx))) (.ptr h.length 0) (h ++ [.box cs]) := by
  obtain ⟨_, h1, h2, h3⟩ := hx.cl hc
  have hg := hI.grow (.cells vx.cells e) (o' := .box cs) (L' := ⟨true, true, w.heap.size, 0, 0, 0⟩) (fun _ => rfl) (fun he =>
    ⟨rfl, rfl, rfl, ⟨vx.cells, e, heap_new _, h1, h2, fun i c hi => (h3 i c hi).mono he (Later.append _ _)⟩, fun x hx => by
      have := hI.imm_lt hx; simp at this⟩)
  refine ⟨.pointer (some ⟨w.heap.size, 0, none⟩), _, I, _, .inl ?_, hg.1, hg.2, ?_⟩
  · simp [Instr.box, newVar, newRow]
  · have : (σ ++ [(⟨true, true, w.heap.size, 0, 0, 0⟩ : Loc)])[h.length]? = some ⟨true, true, w.heap.size, 0, 0, 0⟩ := by
      rw [← hI.len]; simp
    exact .ptr _ _ _ _ this rfl
end
end Go.AE
