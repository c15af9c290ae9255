/- AE, part 16: an operation does what its compiled form is told to do. -/
import Derived.Test.YtpgoibncgekflaaAexComp
set_option linter.unusedVariables false
set_option linter.unusedSimpArgs false
namespace Go.AE
open Go Go.RowKit

section
variable {P : Program} {B : Nat} {w0 w w' : World} {I I' : Cells} {σ σ' : List Loc} {h : List AO}

/-- Going on from an operation. -/
def Goes (B : Nat) (w0 : World) (I : Cells) (σ : List Loc) (w : World) (o : Oper) (a : Act) (r : AV) (h' : List AO) (next : Act → World → Prop) : Prop :=
  ∀ v w' I' σ', Inv B w0 I' σ' w' h' → Step B I σ w I' σ' w' → Rep I' w' σ' r v → next (a.put o.dst v) w'

theorem Gives.wp {o : Oper} {a : Act} {r : AV} {h' : List AO} (hg : Gives P B w0 I σ w (execOp a.eval o) r h') {next : Act → World → Prop} {Q : Exit → Act → World → Prop}
    (hn : Goes B w0 I σ w o a r h' next) : Oper.wp P o a w next Q := by
  obtain ⟨v, w', I', σ', hr, h1, h2, h3⟩ := hg
  rcases hr with hr | ⟨hr, rfl⟩
  · simp only [Oper.wp, hr, Oper.upon_value]
    exact hn v w' I' σ' h1 h2 h3
  · simp only [Oper.wp, hr, Oper.upon_skip]
    exact hn _ w' I' σ' h1 h2 h3

theorem ends_wp {o : Oper} {a : Act} {r : AV} {h' : List AO} {f : FuncId} {vals : Array Value} (hrun : (execOp a.eval o).run P w = .ok (.enter f vals) w) (hc : Calls P f vals w (Ends B w0 I σ w r h'))
    {next : Act → World → Prop} {Q : Exit → Act → World → Prop} (hn : Goes B w0 I σ w o a r h' next) : Oper.wp P o a w next Q := by
  simp only [Oper.wp, hrun, Oper.upon_enter]
  refine hc.mono ?_
  rintro e w' ⟨v, I', σ', rfl, h1, h2, h3⟩
  exact hn v w' I' σ' h1 h2 h3

theorem cOs_args {vars env : List AV} {a : Act} {m : Tmp → Option Opd} (ho : OpsOk I w σ vars env a.eval m) {xs : Array Operand} {l : List Opd} (hl : cOs m xs.toList = some l) :
    ArgsRep I w σ (l.map (getO vars env)) (xs.map a.eval) := by
  obtain ⟨h1, h2⟩ := mapM_get hl
  refine ⟨by simp [h1], fun i v hi => ?_⟩
  simp only [List.getElem?_map, Option.map_eq_some_iff] at hi
  obtain ⟨y, hy, rfl⟩ := hi
  obtain ⟨x, hx, hf⟩ := mapM_get' hl hy
  have hx' : xs[i]? = some x := by simpa using hx
  have : (xs.map a.eval)[i]? = some (a.eval x) := by simp [hx']
  rw [getD_get this]
  exact ho.get hf

/-- A call that is handed values alone. -/
theorem pure_call (hI : Inv B w0 I σ w h) {call : CallF} (hc : CallOk P call) {f : FuncId} {as as' : List AV} {vals : Array Value} (ha : ArgsRep I w σ as vals) (hs : as.mapM (AV.snap1 h) = some as') {r : AV} (he : call f as' [] = some (r, [])) :
    Calls P f vals w (Ends B w0 I σ w r h) := by
  have hI0 : Inv w.heap.size w I [] w [] := by
    refine ⟨Below.refl _ _, Nat.le_refl _, rfl, fun id o L ho => by simp at ho, fun id L hL => by simp at hL, fun i j Li Lj hi => by simp at hi, hI.imm⟩
  have ha' : ArgsRep I w [] as' vals := by
    obtain ⟨h1, h2⟩ := mapM_get hs
    refine ⟨by rw [ha.size, h1], fun i y hy => ?_⟩
    obtain ⟨x, hx, hf⟩ := mapM_get' hs hy
    exact (ha.rep i x hx).snap1 hI hf
  refine (hc.calls f as' [] r [] he w.heap.size w I [] w vals hI0 ha').mono ?_
  rintro e w' ⟨v, I', σ', rfl, h1, h2, h3⟩
  have hσ : σ' = [] := List.length_eq_zero_iff.1 (by rw [h1.len]; rfl)
  subst hσ
  refine ⟨v, I', σ, rfl, ?_, ⟨h2.ext, Later.refl _, fun b x hb => ?_, h2.size⟩, h3.mono (Ext.refl _ _) (Later.nil _)⟩
  · refine hI.same (h1.below.mono hI.base) h2.ext h1.imm (fun j Lj hL hh => ?_)
    have hlt := (hI.mine j Lj hL hh).2
    refine ⟨h1.below.block _ hlt, fun x hx => ?_⟩
    rcases h2.new _ x hx with hx | hx
    · exact hx
    · omega
  · rcases h2.new b x hb with hb | hb
    · exact .inl hb
    · exact .inr (Nat.le_trans hI.base hb)

theorem places_ok {T : Tb} (hT : TbOk P T) {fs : Array Field} {places : List (Nat × Nat)} (hp : fs.toList.mapM (placeOf T) = some places) :
    places.length = fs.size ∧ ∀ (j : Nat) (f : Field) (q : Nat × Nat), fs[j]? = some f → places[j]? = some q → f.offset = q.1 ∧ ∃ tf, TIok P f.type tf ∧ tf.size = q.2 := by
  obtain ⟨h1, h2⟩ := mapM_get hp
  refine ⟨by simpa using h1, fun j f q hf hq => ?_⟩
  have := h2 j f q (by simpa using hf) hq
  simp only [placeOf, Option.map_eq_some_iff] at this
  obtain ⟨i, hi, rfl⟩ := this
  exact ⟨rfl, i, hT _ _ hi, rfl⟩
end
end Go.AE
