/- AE, part 22: functions and calls. -/
import Derived.Test.YtpgoibncgekflaaAexDraw5
set_option linter.unusedVariables false
set_option linter.unusedSimpArgs false
namespace Go.AE
open Go Go.RowKit

def compRes (T : Tb) (vt : List Tmp) : ResultVar → Option CRes
  | .tmp t => (varOf vt t).map .var
  | .cell t ty => match T.ty ty, varOf vt t with
    | some i, some j => some (.cell j i.agg i.size)
    | _, _ => none

def compFun (T : Tb) (H : Hints) (vt : List Tmp) (fn : Func) : Option CFun :=
  if vt.take (fn.params.size + fn.nfree) = List.range (fn.params.size + fn.nfree) ∧ vt.Nodup ∧ (vt.all fun t => decide (t < fn.ntmps)) = true ∧ (fn.params.size + fn.nfree) ≤ fn.ntmps then
    match fn.body with
    | some c => match compCode T fn.ntmps vt H drawOk 0 c, fn.results.toList.mapM (compRes T vt) with
      | some cc, some rs => some ⟨(fn.params.size + fn.nfree), vt.length, cc, rs⟩
      | _, _ => none
    | none => none
  else none

/-- Hints told by lists. -/
def Hints.of (rm : List (Nat × List Mark)) (ap : List (Nat × List (Option Nat × Nat))) (lk : List (Nat × List Bool × List Mark)) : Hints :=
  ⟨fun id => (rm.lookup id).getD [], fun id => (ap.lookup id).getD [], fun id => (lk.lookup id).getD ([], [])⟩

theorem tiok_of {P : Program} {t : TypeId} {i : TI} (h1 : (P.info? t).map (fun x => (x.size, x.bytes, x.zero)) = some (i.size, i.bytes, some i.zero)) (h2 : P.underlying t = some i.desc) : TIok P t i := by
  obtain ⟨inf, h3, h4⟩ := Option.map_eq_some_iff.1 h1
  simp only [Prod.mk.injEq] at h4
  exact ⟨⟨inf, h3, h4.1, h4.2.1, h4.2.2⟩, h2⟩
theorem tbok_of {P : Program} {l : List (TypeId × TI)} {q : FuncId → Bool} (h : ∀ p ∈ l, TIok P p.1 p.2) : TbOk P ⟨fun t => l.lookup t, q⟩ := by
  intro t i hti
  simp only at hti
  induction l with
  | nil => simp at hti
  | cons p l ih =>
    obtain ⟨a, b⟩ := p
    rw [List.lookup_cons] at hti
    split at hti
    · rename_i e
      cases hti
      have : t = a := by simpa using e
      subst this
      exact h (t, i) (by simp)
    · exact ih (fun p hp => h p (by simp [hp])) hti

/-- A function is compiled to this. -/
structure CodeOk (P : Program) (T : Tb) (f : FuncId) (c : CFun) : Prop where
  ok : ∃ (fn : Func) (H : Hints) (vt : List Tmp), P.funcs[f]? = some fn ∧ compFun T H vt fn = some c ∧ (fn.name == "runtime.NumGoroutine") = false

section
variable {P : Program} {B : Nat} {w0 w w' : World} {I I' : Cells} {σ σ' : List Loc} {h : List AO} {vt : List Tmp} {nt : Nat} {vars env : List AV} {lm : List (Option Tmp)} {a : Act}

theorem enter_of {f : FuncId} {fn : Func} {c : Code} (hf : P.funcs[f]? = some fn) (hb : fn.body = some c) (hn : (fn.name == "runtime.NumGoroutine") = false) (vals : Array Value) (w : World) : (callFunc f vals).run P w = .ok (.enter f vals) w := by
  have hn' : ¬ fn.name = "runtime.NumGoroutine" := by simpa using hn
  simp [callFunc, hf, hb, hn']

/-- The results of a function. -/
theorem results_ok (hI : Inv B w0 I σ w h) (hv : VOk I w σ vt nt vars a) {T : Tb} (hT : TbOk P T) {fn : Func} {cs : List CRes} (hc : fn.results.toList.mapM (compRes T vt) = some cs) {rs : List AV} (hr : cs.mapM (resOf vars h) = some rs) :
    ∃ v, (results fn a.tmps).run P w = .ok v w ∧ Rep I w σ (pack rs) v := by
  have key : ∀ (l : List ResultVar) (cs : List CRes) (rs : List AV), l.mapM (compRes T vt) = some cs → cs.mapM (resOf vars h) = some rs →
      ∃ vs : List Value, (l.mapM fun r => (match r with
        | .tmp t => pure (a.tmps.getD t undef)
        | .cell b t => do loadVar t (← asAddr (a.tmps.getD b undef)) : Sem Value)).run P w = .ok vs w ∧ vs.length = rs.length ∧ ∀ (i : Nat) (r : AV), rs[i]? = some r → ∃ v, vs[i]? = some v ∧ Rep I w σ r v := by
    intro l
    induction l with
    | nil =>
      intro cs rs h1 h2
      simp at h1; subst h1
      simp at h2; subst h2
      exact ⟨[], rfl, rfl, fun i r h => by simp at h⟩
    | cons x l ih =>
      intro cs rs h1 h2
      simp only [List.mapM_cons, Option.bind_eq_bind, Option.bind_eq_some_iff, Option.pure_def, Option.some.injEq] at h1
      obtain ⟨c, hc1, cs', hcs', rfl⟩ := h1
      simp only [List.mapM_cons, Option.bind_eq_bind, Option.bind_eq_some_iff, Option.pure_def, Option.some.injEq] at h2
      obtain ⟨r, hr1, rs', hrs', rfl⟩ := h2
      obtain ⟨vs, g1, g2, g3⟩ := ih cs' rs' hcs' hrs'
      have one : ∃ v, ((match x with
        | .tmp t => pure (a.tmps.getD t undef)
        | .cell b t => do loadVar t (← asAddr (a.tmps.getD b undef)) : Sem Value)).run P w = .ok v w ∧ Rep I w σ r v := by
        cases x with
        | tmp t =>
          simp only [compRes, Option.map_eq_some_iff] at hc1
          obtain ⟨i, hi, rfl⟩ := hc1
          simp only [resOf, Option.some.injEq] at hr1
          subst hr1
          have h1 := varOf_eq hi
          have hlt := (List.getElem?_eq_some_iff.1 h1).1
          have h2 : vars[i]? = some (vars.getD i .junk) := by
            rw [List.getD_eq_getElem?_getD, List.getElem?_eq_getElem (by rw [hv.len]; exact hlt)]; rfl
          exact ⟨_, rfl, hv.rep i t _ h1 h2⟩
        | cell b ty =>
          simp only [compRes] at hc1
          split at hc1
          · rename_i i j hi hj
            cases hc1
            simp only [resOf] at hr1
            have h1 := varOf_eq hj
            have hlt := (List.getElem?_eq_some_iff.1 h1).1
            have h2 : vars[j]? = some (vars.getD j .junk) := by
              rw [List.getD_eq_getElem?_getD, List.getElem?_eq_getElem (by rw [hv.len]; exact hlt)]; rfl
            obtain ⟨v, q1, q2⟩ := run_load_rep (P := P) hI (hT _ _ hi) (hv.rep j b _ h1 h2) hr1
            refine ⟨v, ?_, q2⟩
            have hz : ∀ z : Value, (Instr.loadAt ty z).run P w = .ok v w → (do loadVar ty (← asAddr z) : Sem Value).run P w = .ok v w := by
              intro z q
              cases z with
              | pointer p =>
                cases p with
                | some ad => simpa [Instr.loadAt, Instr.sureAddr, asAddr] using q
                | none => simp [Instr.loadAt, Instr.sureAddr] at q
              | _ => simp [Instr.loadAt, Instr.sureAddr] at q
            exact hz _ q1
          · cases hc1
      obtain ⟨v, q1, q2⟩ := one
      refine ⟨v :: vs, ?_, by simp [g2], fun i r h => ?_⟩
      · simp only [List.mapM_cons, Sem.run_bind, q1, Result.andThen_ok, g1, Sem.run_pure]
      · cases i with
        | zero => simp at h; subst h; exact ⟨v, rfl, q2⟩
        | succ i => simpa using g3 i r (by simpa using h)
  obtain ⟨vs, g1, g2, g3⟩ := key fn.results.toList cs rs hc hr
  have hrun : (results fn a.tmps).run P w = .ok (if hh : vs.toArray.size = 1 then vs.toArray[0] else .tuple vs.toArray) w := by
    unfold results
    rw [← Array.toArray_toList (xs := fn.results), List.mapM_toArray]
    simp only [Sem.run_bind, Sem.run_map, Sem.run_pure]
    exact congrArg (fun r => (Result.andThen (Result.andThen r fun (a : List Value) w' => Result.ok a.toArray w') fun a w' => Result.ok (if h : a.size = 1 then a[0] else Value.tuple a) w')) g1
  refine ⟨_, hrun, ?_⟩
  unfold pack
  split
  · rename_i x
    simp only [List.length_cons, List.length_nil] at g2
    obtain ⟨v, hv1, hv2⟩ := g3 0 x rfl
    have : vs = [v] := by
      match vs, g2, hv1 with
      | [u], _, hv1 => simp at hv1; subst hv1; rfl
    subst this
    exact hv2
  · rename_i hne
    have hlen : ¬ vs.toArray.size = 1 := by
      intro e
      simp only [List.size_toArray] at e
      match rs, hne, g2 with
      | [x], hne, _ => exact hne x rfl
      | [], _, g2 => simp only [List.length_nil] at g2; omega
      | _ :: _ :: _, _, g2 => simp only [List.length_cons] at g2; omega
    rw [dif_neg hlen]
    refine .tup σ rs vs.toArray (by simp [g2]) (fun i r hi => ?_)
    obtain ⟨v, hv1, hv2⟩ := g3 i r hi
    have : vs.toArray[i]? = some v := by simpa using hv1
    rw [getD_get this]; exact hv2

/-- A function's body, from its arguments to its end. -/
theorem body_ok (hm : P.follows .mixedOrders = true) {T : Tb} (hT : TbOk P T) {call : CallF} (hcall : CallOk P call) {f : FuncId} {c : CFun} (hf : CodeOk P T f c) {args : List AV} {vals : Array Value} (ha : ArgsRep I w σ args vals) (hn : args.length = c.np) (hI : Inv B w0 I σ w h)
    {fuel : Nat} {x : AXit} {vars' : List AV} {h' : List AO} (he : exec call fuel c.body (start c args) h = some (x, vars', h')) (hx : x = .normal ∨ x = .ret) {rs : List AV} (hr : c.res.mapM (resOf vars' h') = some rs) {R : Ending → World → Prop}
    (hR : ∀ v w' I' σ', Inv B w0 I' σ' w' h' → Step B I σ w I' σ' w' → Rep I' w' σ' (pack rs) v → R (.returned v) w') : Calls P f vals w R := by
  obtain ⟨fn, H, vt, h1, h2, h4⟩ := hf.ok
  unfold compFun at h2
  split at h2
  · rename_i hcond
    obtain ⟨c1, c2, c3, c4⟩ := hcond
    split at h2
    · rename_i code hb
      split at h2
      · rename_i cc rs' hcc hrs
        cases h2
        simp only at hn he hr
        have hsz : vals.size = (fn.params.size + fn.nfree) := by rw [ha.size, hn]
        have hvl : vt.length ≥ (fn.params.size + fn.nfree) := by
          have := congrArg List.length c1
          simp at this; omega
        have hv0 : VOk I w σ vt fn.ntmps (start ⟨(fn.params.size + fn.nfree), vt.length, cc, rs'⟩ args) { tmps := vals ++ Array.replicate (fn.ntmps - vals.size) undef, defers := [] } := by
          refine ⟨by simp [start, hn]; omega, by simp [hsz]; omega, rfl, c2, fun t ht => by simpa using List.all_eq_true.1 c3 t ht, fun i t v g1 g2 => ?_⟩
          have par : ∀ j, j < (fn.params.size + fn.nfree) → vt[j]? = some j := by
            intro j hj
            have : (vt.take (fn.params.size + fn.nfree))[j]? = some j := by rw [c1]; simp [hj]
            rwa [List.getElem?_take_of_lt hj] at this
          simp only [start] at g2
          by_cases hi : i < args.length
          · rw [List.getElem?_append_left hi] at g2
            have hti : t = i := by
              have := par i (by omega)
              rw [this] at g1; exact (Option.some.inj g1).symm
            subst hti
            rw [getD_left (by omega)]
            exact ha.rep _ v g2
          · rw [List.getElem?_append_right (by omega), List.getElem?_replicate] at g2
            split at g2
            · cases g2
              have hlt := (List.getElem?_eq_some_iff.1 g1).1
              have htn : (fn.params.size + fn.nfree) ≤ t := by
                rcases Nat.lt_or_ge t (fn.params.size + fn.nfree) with hlt' | hge
                · have g3 := par t hlt'
                  obtain ⟨l1, e1⟩ := List.getElem?_eq_some_iff.1 g1
                  obtain ⟨l2, e2⟩ := List.getElem?_eq_some_iff.1 g3
                  have := (List.getElem_inj c2).1 (e1.trans e2.symm)
                  omega
                · exact hge
              have htl : @LT.lt Nat _ t fn.ntmps := by simpa using List.all_eq_true.1 c3 t (List.mem_of_getElem? g1)
              rw [getD_right (by omega), Array.getD_eq_getD_getElem?]
              have : (Array.replicate (fn.ntmps - vals.size) undef)[t - vals.size]? = some undef := by
                rw [Array.getElem?_replicate, if_pos (by omega)]
              rw [this]
              exact .v _ _
            · cases g2
        refine calls_of_wp h1 hb ?_
        refine exec_sound hT (draw_ok hm hT _ _) hcall fuel code 0 cc hcc _ _ _ _ _ I σ w _ _ he hv0 hI (fun a' w' I' σ' q1 q2 q3 => ?_)
        obtain ⟨v, r1, r2⟩ := results_ok (P := P) q2 q1 hT hrs hr
        rcases hx with rfl | rfl
        · exact ⟨q1.defers, v, r1, hR v w' I' σ' q2 q3 r2⟩
        · exact ⟨q1.defers, v, r1, hR v w' I' σ' q2 q3 r2⟩
      · cases h2
    · cases h2
  · cases h2

theorem CodeOk.enter {T : Tb} {f : FuncId} {c : CFun} (hf : CodeOk P T f c) (vals : Array Value) (w : World) : (callFunc f vals).run P w = .ok (.enter f vals) w := by
  obtain ⟨fn, H, vt, h1, h2, h4⟩ := hf.ok
  unfold compFun at h2
  split at h2
  · split at h2
    · rename_i code hb
      exact enter_of h1 hb h4 vals w
    · cases h2
  · cases h2

/-- What an entry of the table of functions has to be. -/
def EntryOk (P : Program) (T : Tb) (f : FuncId) : FEntry → Prop
  | .code c => CodeOk P T f c
  | .keep _ => False
  | .oracle g => ∀ args h r h', g args h = some (r, h') → (∀ (vals : Array Value) (w : World), (callFunc f vals).run P w = .ok (.enter f vals) w) ∧
      ∀ B w0 I σ w (vals : Array Value), Inv B w0 I σ w h → ArgsRep I w σ args vals → Calls P f vals w (Ends B w0 I σ w r h')

theorem entries_of {P : Program} {T : Tb} {l : List (FuncId × FEntry)} (h : ∀ p ∈ l, EntryOk P T p.1 p.2) : ∀ f e, l.lookup f = some e → EntryOk P T f e := by
  intro f e hl
  induction l with
  | nil => simp at hl
  | cons p l ih =>
    obtain ⟨a, b⟩ := p
    rw [List.lookup_cons] at hl
    split at hl
    · rename_i ee
      cases hl
      have : f = a := by simpa using ee
      subst this
      exact h (f, e) (by simp)
    · exact ih (fun p hp => h p (by simp [hp])) hl

theorem leave_cases {n0 : Nat} {c : CFun} {run : CRun} {r : AV} {h' : List AO} (hl : leave n0 c run = some (r, h')) :
    ∃ x vars hh rs, run = some (x, vars, hh) ∧ (x = .normal ∨ x = .ret) ∧ c.res.mapM (resOf vars hh) = some rs ∧ (pack rs).frz2 n0 hh = some r ∧ n0 ≤ hh.length ∧ (hh.take n0).all (AO.below n0) = true ∧ h' = hh.take n0 := by
  have key : ∀ (vars : List AV) (hh : List AO), (match (c.res.mapM (resOf vars hh)).bind fun rs => (pack rs).frz2 n0 hh with
      | some r => if n0 ≤ hh.length ∧ (hh.take n0).all (AO.below n0) = true then some (r, hh.take n0) else none
      | none => none) = some (r, h') → ∃ rs, c.res.mapM (resOf vars hh) = some rs ∧ (pack rs).frz2 n0 hh = some r ∧ n0 ≤ hh.length ∧ (hh.take n0).all (AO.below n0) = true ∧ h' = hh.take n0 := by
    intro vars hh he
    split at he
    · rename_i r' hb
      obtain ⟨rs, h1, h2⟩ := Option.bind_eq_some_iff.1 hb
      split at he
      · rename_i hc
        cases he
        exact ⟨rs, h1, h2, hc.1, hc.2, rfl⟩
      · cases he
    · cases he
  unfold leave at hl
  split at hl
  · rename_i vars hh
    obtain ⟨rs, h1⟩ := key vars hh hl
    exact ⟨.normal, vars, hh, rs, rfl, .inl rfl, h1⟩
  · rename_i vars hh
    obtain ⟨rs, h1⟩ := key vars hh hl
    exact ⟨.ret, vars, hh, rs, rfl, .inr rfl, h1⟩
  · cases hl

theorem callN_ok (hm : P.follows .mixedOrders = true) {T : Tb} (hT : TbOk P T) {F : FuncId → Option FEntry} (hF : ∀ f e, F f = some e → EntryOk P T f e) : ∀ n, CallOk P (callN F n) := by
  intro n
  induction n with
  | zero => exact ⟨fun f args h r h' he => by simp [callN] at he, fun f args h r h' he => by simp [callN] at he⟩
  | succ n ih =>
    refine ⟨fun f args h r h' he vals w => ?_, fun f args h r h' he B w0 I σ w vals hI ha => ?_⟩
    · simp only [callN] at he
      split at he
      · rename_i c hf; exact CodeOk.enter (hF f _ hf) vals w
      · rename_i c hf; exact (hF f _ hf).elim
      · rename_i g hf; exact (hF f _ hf args h r h' he).1 vals w
      · cases he
    · simp only [callN] at he
      split at he
      · rename_i c hf
        split at he
        · rename_i hlen
          obtain ⟨x, vars, hh, rs, e1, e2, e3, e4, e5, e6, rfl⟩ := leave_cases he
          refine body_ok hm hT ih (hF f _ hf) ha hlen hI e1 e2 e3 (fun v w' I' σ' q1 q2 q3 => ?_)
          exact ⟨v, _, _, rfl, q1.leave e5 e6, gone_step q1 q2 hI.len, q3.frz2 q1 e4⟩
        · cases he
      · rename_i c hf
        exact (hF f _ hf).elim
      · rename_i g hf
        exact (hF f _ hf args h r h' he).2 B w0 I σ w vals hI ha
      · cases he
end
end Go.AE
