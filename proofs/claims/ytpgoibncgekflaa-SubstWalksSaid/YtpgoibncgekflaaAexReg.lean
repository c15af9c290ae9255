/- AE, part 18: regions in the order of the text. -/
import Derived.Test.YtpgoibncgekflaaAexSnd2
set_option linter.unusedVariables false
set_option linter.unusedSimpArgs false
namespace Go.AE
open Go Go.RowKit

def varOf (vt : List Tmp) (t : Tmp) : Option Nat := vt.findIdx? (· == t)
def mOf (vt : List Tmp) (lm : List (Option Tmp)) (t : Tmp) : Option Opd :=
  match varOf vt t with
  | some i => some (.var i)
  | none => (lm.findIdx? (· == some t)).map .loc

def compGuard (vt : List Tmp) (all : Array Oper) (lm : List (Option Tmp)) : Option (Nat × Bool) → Option (Option (Opd × Bool))
  | none => some none
  | some (g, want) => match (all[g]?).bind (·.dst) with
    | some t => (mOf vt lm t).map fun x => some (x, want)
    | none => none

/-- where an operation's result is told from now on -/
def lmOf (vt : List Tmp) (d : Option Tmp) (lm : List (Option Tmp)) : List (Option Tmp) :=
  (match d.bind (varOf vt) with
    | some _ => none
    | none => d) :: lm

def compOps (T : Tb) (nt : Nat) (vt : List Tmp) (all : Array Oper) : List (Option Tmp) → List Oper → Option (List CO)
  | _, [] => some []
  | lm, o :: r =>
    match compOp T (mOf vt lm) o, compGuard vt all lm o.guard, compOps T nt vt all (lmOf vt o.dst lm) r with
    | some c, some g, some cs => if o.dst.all (fun d => decide (d < nt)) then some (⟨c, o.dst.bind (varOf vt), g⟩ :: cs) else none
    | _, _, _ => none

/-- The variables, as they lie among the temporaries. -/
structure VOk (I : Cells) (w : World) (σ : List Loc) (vt : List Tmp) (nt : Nat) (vars : List AV) (a : Act) : Prop where
  len : vars.length = vt.length
  size : a.tmps.size = nt
  defers : a.defers = []
  nodup : vt.Nodup
  lt : ∀ t ∈ vt, t < nt
  rep : ∀ (i : Nat) (t : Tmp) (v : AV), vt[i]? = some t → vars[i]? = some v → Rep I w σ v (a.tmps.getD t undef)

/-- What operations of this region have given. -/
structure EOk (I : Cells) (w : World) (σ : List Loc) (vt : List Tmp) (lm : List (Option Tmp)) (env : List AV) (a : Act) : Prop where
  len : lm.length = env.length
  rep : ∀ (t : Tmp) (j : Nat), varOf vt t = none → lm.findIdx? (· == some t) = some j → Rep I w σ (env.getD j .junk) (a.tmps.getD t undef)

section
variable {P : Program} {B : Nat} {w0 w w' : World} {I I' : Cells} {σ σ' : List Loc} {h : List AO} {vt : List Tmp} {nt : Nat} {vars env : List AV} {lm : List (Option Tmp)} {a : Act}

theorem VOk.step (hv : VOk I w σ vt nt vars a) (s : Step B I σ w I' σ' w') : VOk I' w' σ' vt nt vars a :=
  ⟨hv.len, hv.size, hv.defers, hv.nodup, hv.lt, fun i t v h1 h2 => (hv.rep i t v h1 h2).step s⟩
theorem EOk.step (he : EOk I w σ vt lm env a) (s : Step B I σ w I' σ' w') : EOk I' w' σ' vt lm env a :=
  ⟨he.len, fun t j h1 h2 => (he.rep t j h1 h2).step s⟩

theorem varOf_eq {t : Tmp} {i : Nat} (h : varOf vt t = some i) : vt[i]? = some t := by
  obtain ⟨hlt, hp, _⟩ := List.findIdx?_eq_some_iff_getElem.1 h
  rw [List.getElem?_eq_getElem hlt]
  simpa using hp
theorem varOf_none {t : Tmp} (h : varOf vt t = none) : t ∉ vt := by
  intro hm
  have := List.findIdx?_eq_none_iff.1 h t hm
  simp at this

theorem ok_ops (hv : VOk I w σ vt nt vars a) (he : EOk I w σ vt lm env a) : OpsOk I w σ vars env a.eval (mOf vt lm) := by
  intro t y hy
  unfold mOf at hy
  split at hy
  · rename_i i hi
    cases hy
    have h1 := varOf_eq hi
    have hlt := (List.getElem?_eq_some_iff.1 h1).1
    have h2 : vars[i]? = some (vars.getD i .junk) := by
      rw [List.getD_eq_getElem?_getD, List.getElem?_eq_getElem (by rw [hv.len]; exact hlt)]; rfl
    exact hv.rep i t _ h1 h2
  · rename_i hn
    obtain ⟨j, hj, rfl⟩ := Option.map_eq_some_iff.1 hy
    exact he.rep t j hn hj

theorem put_getD {d t : Tmp} {v : Value} (hd : d < a.tmps.size) : (a.put (some d) v).tmps.getD t undef = if t = d then v else a.tmps.getD t undef := by
  simp only [Act.put]
  rw [Array.getD_eq_getD_getElem?, Array.getD_eq_getD_getElem?]
  by_cases e : t = d
  · subst e
    rw [Array.getElem?_setIfInBounds_self_of_lt hd, if_pos rfl]; rfl
  · rw [Array.getElem?_setIfInBounds_ne (fun h => e h.symm), if_neg e]

theorem put_ok (hv : VOk I w σ vt nt vars a) (he : EOk I w σ vt lm env a) {d : Option Tmp} (hd : d.all (fun d => decide (d < nt)) = true) {x : AV} {v : Value} (hx : Rep I w σ x v) :
    VOk I w σ vt nt (setO vars (d.bind (varOf vt)) x) (a.put d v) ∧ EOk I w σ vt (lmOf vt d lm) (x :: env) (a.put d v) := by
  cases d with
  | none =>
    refine ⟨hv, by simp [lmOf, he.len], fun t j h1 h2 => ?_⟩
    simp only [lmOf, Option.bind_none, List.findIdx?_cons] at h2
    simp at h2
    obtain ⟨j', hj', rfl⟩ := h2
    exact he.rep t j' h1 (by simpa using hj')
  | some d =>
    simp only [Option.all_some, decide_eq_true_eq] at hd
    have hd' : d < a.tmps.size := by rw [hv.size]; exact hd
    have hsz : (a.put (some d) v).tmps.size = nt := by simp [Act.put, hv.size]
    cases hvar : varOf vt d with
    | some i =>
      have hi := varOf_eq hvar
      simp only [Option.bind_some, hvar, setO, lmOf]
      refine ⟨⟨by simp [hv.len], hsz, hv.defers, hv.nodup, hv.lt, fun k t y h1 h2 => ?_⟩, by simp [he.len], fun t j h1 h2 => ?_⟩
      · rw [put_getD hd']
        by_cases e : i = k
        · subst e
          rw [hi] at h1; cases h1
          rw [List.getElem?_set_self (by rw [hv.len]; exact (List.getElem?_eq_some_iff.1 hi).1)] at h2
          cases h2
          rw [if_pos rfl]; exact hx
        · rw [List.getElem?_set_ne e] at h2
          have hne : t ≠ d := by
            rintro rfl
            obtain ⟨l1, g1⟩ := List.getElem?_eq_some_iff.1 h1
            obtain ⟨l2, g2⟩ := List.getElem?_eq_some_iff.1 hi
            exact e ((List.getElem_inj hv.nodup).1 (g2.trans g1.symm))
          rw [if_neg hne]; exact hv.rep k t y h1 h2
      · have hne : t ≠ d := by rintro rfl; rw [hvar] at h1; cases h1
        rw [put_getD hd', if_neg hne]
        simp only [List.findIdx?_cons] at h2
        simp at h2
        obtain ⟨j', hj', rfl⟩ := h2
        exact he.rep t j' h1 (by simpa using hj')
    | none =>
      simp only [Option.bind_some, hvar, setO, lmOf]
      have hnm := varOf_none hvar
      refine ⟨⟨hv.len, hsz, hv.defers, hv.nodup, hv.lt, fun k t y h1 h2 => ?_⟩, by simp [he.len], fun t j h1 h2 => ?_⟩
      · have hne : t ≠ d := by rintro rfl; exact hnm (List.mem_of_getElem? h1)
        rw [put_getD hd', if_neg hne]; exact hv.rep k t y h1 h2
      · rw [put_getD hd']
        simp only [List.findIdx?_cons] at h2
        by_cases e : t = d
        · subst e
          simp at h2; subst h2
          rw [if_pos rfl]; exact hx
        · rw [if_neg e]
          have : ((some d : Option Tmp) == some t) = false := by simp; exact fun h => e h.symm
          simp only [this] at h2
          simp at h2
          obtain ⟨j', hj', rfl⟩ := h2
          exact he.rep t j' h1 (by simpa using hj')

/-- A region's operations, from number p on, in the order of the text. -/
theorem ops_sound {T : Tb} (hT : TbOk P T) {call : CallF} (hcall : CallOk P call) {ops : Array Oper} {Q : Exit → Act → World → Prop} :
    ∀ (r : List Oper) (p : Nat) (lm : List (Option Tmp)) (env vars vars' : List AV) (h h' : List AO) (cs : List CO) (I : Cells) (σ : List Loc) (w : World) (a : Act),
      ops.toList.drop p = r → compOps T nt vt ops lm r = some cs → evOps call cs vars env h = some (vars', h') → VOk I w σ vt nt vars a → EOk I w σ vt lm env a → Inv B w0 I σ w h →
      (∀ a' w' I' σ', VOk I' w' σ' vt nt vars' a' → Inv B w0 I' σ' w' h' → Step B I σ w I' σ' w' → Q .normal a' w') → wpOps P ops Q (List.range' p r.length) a w := by
  intro r
  induction r with
  | nil =>
    intro p lm env vars vars' h h' cs I σ w a hr hc he hv hen hI hQ
    simp only [compOps, Option.some.injEq] at hc
    subst hc
    simp only [evOps, Option.some.injEq, Prod.mk.injEq] at he
    obtain ⟨rfl, rfl⟩ := he
    exact hQ a w I σ hv hI (Step.refl _ _ _ _)
  | cons o r ih =>
    intro p lm env vars vars' h h' cs I σ w a hr hc he hv hen hI hQ
    have hop : ops[p]? = some o := by
      have : (ops.toList.drop p)[0]? = some o := by rw [hr]; rfl
      simpa using this
    have hr' : ops.toList.drop (p + 1) = r := by
      rw [← List.tail_drop, hr]; rfl
    simp only [compOps] at hc
    split at hc
    · rename_i c g cs' h1 h2 h3
      split at hc
      · rename_i hd
        cases hc
        simp only [List.length_cons, List.range'_succ, wpOps, hop]
        have hok := ok_ops hv hen
        -- carried out
        have run : ∀ (v : AV) (h2 : List AO), evOp call vars env h c = some (v, h2) → evOps call cs' (setO vars (o.dst.bind (varOf vt)) v) (v :: env) h2 = some (vars', h') →
            Oper.wp P o a w (wpOps P ops Q (List.range' (p + 1) r.length)) Q := by
          intro v h2 hev he2
          refine op_sound hI hT h1 hok hcall hev ?_
          intro u w1 I1 σ1 hI1 st1 hr1
          obtain ⟨g1, g2⟩ := put_ok (hv.step st1) (hen.step st1) hd hr1
          exact ih (p + 1) _ _ _ _ _ _ _ I1 σ1 w1 _ hr' h3 he2 g1 g2 hI1 (fun a' w' I' σ' q1 q2 q3 => hQ a' w' I' σ' q1 q2 (st1.trans q3))
        -- passed over
        have skip : evOps call cs' (setO vars (o.dst.bind (varOf vt)) (.v undef)) (.v undef :: env) h = some (vars', h') → wpOps P ops Q (List.range' (p + 1) r.length) (a.put o.dst undef) w := by
          intro he2
          obtain ⟨g1, g2⟩ := put_ok hv hen hd (Rep.v (I := I) (w := w) σ undef)
          exact ih (p + 1) _ _ _ _ _ _ _ I σ w _ hr' h3 he2 g1 g2 hI hQ
        simp only [evOps] at he
        cases hg : o.guard with
        | none =>
          rw [hg] at h2
          simp only [compGuard, Option.some.injEq] at h2
          subst h2
          simp only at he
          split at he
          · rename_i v h2 hev
            rw [if_pos (by simp [Region.wanted, hg])]
            exact .inl (run v h2 hev he)
          · cases he
        | some gw =>
          obtain ⟨gi, want⟩ := gw
          rw [hg] at h2
          simp only [compGuard] at h2
          split at h2
          · rename_i t ht
            obtain ⟨x, hx, rfl⟩ := Option.map_eq_some_iff.1 h2
            simp only at he
            have hrep := hok t x hx
            have hy : yielded ops a.tmps gi = (match a.tmps.getD t undef with | .bool b => some b | _ => none) := by
              unfold yielded
              rw [ht]
              simp only [Option.bind_some]
              rw [Array.getD_eq_getD_getElem?]
              cases a.tmps[t]? with
              | none => rfl
              | some z => cases z <;> rfl
            split at he
            · rename_i b hb
              rw [hb] at hrep
              have hbv : a.tmps.getD t undef = .bool b := by
                have : a.eval (.tmp t) = a.tmps.getD t undef := rfl
                rw [← this]; generalize a.eval (.tmp t) = z at hrep; cases hrep; rfl
              rw [hbv] at hy
              split at he
              · rename_i hbw
                split at he
                · rename_i v h2 hev
                  rw [if_pos (by simp [Region.wanted, hg, hy, hbw])]
                  exact .inl (run v h2 hev he)
                · cases he
              · rename_i hbw
                rw [if_neg (by simp [Region.wanted, hg, hy, hbw])]
                exact skip he
            · rename_i z hb
              rw [hb] at hrep
              have hbv : a.tmps.getD t undef = .tuple z := by
                have : a.eval (.tmp t) = a.tmps.getD t undef := rfl
                rw [← this]; generalize a.eval (.tmp t) = z at hrep; cases hrep; rfl
              rw [hbv] at hy
              rw [if_neg (by simp [Region.wanted, hg, hy])]
              exact skip he
            · cases he
          · cases h2
      · cases hc
    · cases hc
end
end Go.AE
