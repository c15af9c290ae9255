/- The evaluator of compiled functions, proved sound: texts put together. -/
import Derived.Test.YtchiacliefahdaaDoorEval2
/-! AE, part 30: calls without a bound. -/
section
set_option linter.unusedVariables false
set_option linter.unusedSimpArgs false
namespace Go.AE
open Go Go.RowKit

def CallF.le (a b : CallF) : Prop := ∀ (f : FuncId) (as : List AV) (h : List AO) (r : AV × List AO), a f as h = some r → b f as h = some r

section
variable {call call' : CallF} {vars env : List AV} {h : List AO}
theorem evOp_mono (hle : call.le call') {c : COp} {r : AV × List AO} (he : evOp call vars env h c = some r) : evOp call' vars env h c = some r := by
  cases c with
  | call p f args =>
    cases p with
    | true =>
      simp only [evOp] at he ⊢
      split at he
      · rename_i as has
        split at he
        · rename_i hc
          cases he
          rw [hle _ _ _ _ hc]
        · cases he
      · cases he
    | false => exact hle _ _ _ _ he
  | callf f args =>
    simp only [evOp] at he ⊢
    split at he
    · rename_i as has
      split at he
      · rename_i hc
        cases he
        rw [hle _ _ _ _ hc]
      · cases he
    · cases he
  | callv x args =>
    simp only [evOp] at he ⊢
    split at he
    · exact hle _ _ _ _ he
    · cases he
  | _ => exact he

theorem evOps_mono (hle : call.le call') : ∀ (cs : List CO) (vars env : List AV) (h : List AO) (r : List AV × List AO), evOps call cs vars env h = some r → evOps call' cs vars env h = some r := by
  intro cs
  induction cs with
  | nil => intro vars env h r he; exact he
  | cons c cs ih =>
    intro vars env h r he
    simp only [evOps] at he ⊢
    split at he
    · rename_i hg
      split at he
      · rename_i v h' hev
        rw [evOp_mono hle hev]
        exact ih _ _ _ _ he
      · cases he
    · rename_i g want hg
      split at he
      · rename_i b hb
        split at he
        · rename_i hbw
          rw [if_pos hbw]
          split at he
          · rename_i v h' hev
            rw [evOp_mono hle hev]
            exact ih _ _ _ _ he
          · cases he
        · rename_i hbw
          rw [if_neg hbw]
          exact ih _ _ _ _ he
      · rename_i z hz
        exact ih _ _ _ _ he
      · cases he

theorem loopN_mono {step step' : List AV → List AO → CRun} {keep : List Bool} (hs : ∀ vars h r, step vars h = some r → step' vars h = some r) : ∀ (n m : Nat), n ≤ m → ∀ vars h r, loopN step keep n vars h = some r → loopN step' keep m vars h = some r := by
  intro n
  induction n with
  | zero => intro m _ vars h r he; simp [loopN] at he
  | succ n ih =>
    intro m hm vars h r he
    obtain ⟨m, rfl⟩ : ∃ k, m = k + 1 := ⟨m - 1, by omega⟩
    simp only [loopN] at he ⊢
    cases hst : step (clr keep vars) h with
    | none => rw [hst] at he; cases he
    | some q =>
      rw [hst] at he
      rw [hs _ _ _ hst]
      obtain ⟨x, v', h'⟩ := q
      cases x with
      | normal => exact ih m (by omega) _ _ _ he
      | exit id => exact he
      | ret => exact he

theorem exec_mono (hle : call.le call') {n m : Nat} (hnm : n ≤ m) : ∀ (c : CC) (vars : List AV) (h : List AO) (r : AXit × List AV × List AO), exec call n c vars h = some r → exec call' m c vars h = some r := by
  intro c
  induction c with
  | skip => intro vars h r he; exact he
  | exit id => intro vars h r he; exact he
  | ret => intro vars h r he; exact he
  | region ms aps ops =>
    intro vars h r he
    simp only [exec] at he ⊢
    split at he
    · rename_i hap
      rw [if_pos hap]
      obtain ⟨q, h1, rfl⟩ := Option.map_eq_some_iff.1 he
      rw [evOps_mono hle _ _ _ _ _ h1]; rfl
    · cases he
  | seq a b iha ihb =>
    intro vars h r he
    simp only [exec] at he ⊢
    cases ha : exec call n a vars h with
    | none => rw [ha] at he; cases he
    | some q =>
      rw [ha] at he
      rw [iha _ _ _ ha]
      obtain ⟨x, v', h'⟩ := q
      cases x with
      | normal => exact ihb _ _ _ he
      | exit id => exact he
      | ret => exact he
  | cond c x y ihx ihy =>
    intro vars h r he
    simp only [exec] at he ⊢
    split at he
    · rename_i b hb
      cases b
      · exact ihy _ _ _ he
      · exact ihx _ _ _ he
    · cases he
  | block id b ih =>
    intro vars h r he
    simp only [exec] at he ⊢
    cases hb : exec call n b vars h with
    | none => rw [hb] at he; cases he
    | some q => rw [hb] at he; rw [ih _ _ _ hb]; exact he
  | loop keep ms b ih =>
    intro vars h r he
    simp only [exec] at he ⊢
    exact loopN_mono ih n m hnm _ _ _ he
end

theorem callN_mono (F : FuncId → Option FEntry) : ∀ (n m : Nat), n ≤ m → (callN F n).le (callN F m) := by
  intro n
  induction n with
  | zero => intro m _ f as h r he; simp [callN] at he
  | succ n ih =>
    intro m hm f as h r he
    obtain ⟨m, rfl⟩ : ∃ k, m = k + 1 := ⟨m - 1, by omega⟩
    have hle := ih m (by omega)
    simp only [callN] at he ⊢
    split at he
    · rename_i c hf
      split at he
      · rename_i hl
        rw [if_pos hl]
        cases hx : exec (callN F n) n c.body (start c as) h with
        | none => rw [hx] at he; cases he
        | some q => rw [hx] at he; rw [exec_mono hle (by omega) _ _ _ _ hx]; exact he
      · cases he
    · rename_i c hf
      split at he
      · rename_i hl
        rw [if_pos hl]
        cases hx : exec (callN F n) n c.body (start c as) h with
        | none => rw [hx] at he; cases he
        | some q => rw [hx] at he; rw [exec_mono hle (by omega) _ _ _ _ hx]; exact he
      · cases he
    · rename_i c hf
      split at he
      · rename_i as has
        split at he
        · rename_i hl
          simp only [if_pos hl]
          cases hx : exec (callN F n) n c.body (start c as) [] with
          | none => rw [hx] at he; simp [leave] at he
          | some q => rw [hx] at he; rw [exec_mono hle (by omega) _ _ _ _ hx]; exact he
        · cases he
      · cases he
    · rename_i g hf
      exact he
    · cases he

/-- What some bound gives. -/
def Comes (F : FuncId → Option FEntry) (f : FuncId) (as : List AV) (h : List AO) (r : AV × List AO) : Prop := ∃ n, callN F n f as h = some r

theorem Comes.unique {F : FuncId → Option FEntry} {f : FuncId} {as : List AV} {h : List AO} {r s : AV × List AO} (a : Comes F f as h r) (b : Comes F f as h s) : r = s := by
  obtain ⟨n, hn⟩ := a
  obtain ⟨m, hm⟩ := b
  have h1 := callN_mono F n (max n m) (Nat.le_max_left _ _) _ _ _ _ hn
  have h2 := callN_mono F m (max n m) (Nat.le_max_right _ _) _ _ _ _ hm
  rw [h1] at h2
  exact Option.some.inj h2

open Classical in
/-- Calls, without a bound. -/
noncomputable def callW (F : FuncId → Option FEntry) : CallF := fun f as h => if hx : ∃ r, Comes F f as h r then some (Classical.choose hx) else none

theorem callW_iff {F : FuncId → Option FEntry} {f : FuncId} {as : List AV} {h : List AO} {r : AV × List AO} : callW F f as h = some r ↔ ∃ n, callN F n f as h = some r := by
  unfold callW
  constructor
  · intro he
    split at he
    · rename_i hx
      cases he
      exact Classical.choose_spec hx
    · cases he
  · intro hc
    have hx : ∃ r, Comes F f as h r := ⟨r, hc⟩
    rw [dif_pos hx, Comes.unique (Classical.choose_spec hx) hc]

section
variable {F : FuncId → Option FEntry} {vars env : List AV} {h : List AO}
theorem lim_op {c : COp} {r : AV × List AO} (he : evOp (callW F) vars env h c = some r) : ∃ n, evOp (callN F n) vars env h c = some r := by
  cases c with
  | call p f args =>
    cases p with
    | true =>
      simp only [evOp] at he ⊢
      split at he
      · rename_i as has
        split at he
        · rename_i hc
          cases he
          obtain ⟨n, hn⟩ := callW_iff.1 hc
          exact ⟨n, by rw [hn]⟩
        · cases he
      · cases he
    | false => exact callW_iff.1 he
  | callf f args =>
    simp only [evOp] at he ⊢
    split at he
    · rename_i as has
      split at he
      · rename_i hc
        cases he
        obtain ⟨n, hn⟩ := callW_iff.1 hc
        exact ⟨n, by rw [hn]⟩
      · cases he
    · cases he
  | callv x args =>
    simp only [evOp] at he ⊢
    split at he
    · exact callW_iff.1 he
    · cases he
  | _ => exact ⟨0, he⟩

theorem lim_ops : ∀ (cs : List CO) (vars env : List AV) (h : List AO) (r : List AV × List AO), evOps (callW F) cs vars env h = some r → ∃ n, evOps (callN F n) cs vars env h = some r := by
  intro cs
  induction cs with
  | nil => intro vars env h r he; exact ⟨0, he⟩
  | cons c cs ih =>
    intro vars env h r he
    have go : ∀ v h' q, evOp (callW F) vars env h c.op = some (v, h') → evOps (callW F) cs (setO vars c.wr v) (v :: env) h' = some q →
        ∃ n, evOp (callN F n) vars env h c.op = some (v, h') ∧ evOps (callN F n) cs (setO vars c.wr v) (v :: env) h' = some q := by
      intro v h' q h1 h2
      obtain ⟨n, hn⟩ := lim_op h1
      obtain ⟨m, hm⟩ := ih _ _ _ _ h2
      exact ⟨max n m, evOp_mono (callN_mono F _ _ (Nat.le_max_left _ _)) hn, evOps_mono (callN_mono F _ _ (Nat.le_max_right _ _)) _ _ _ _ _ hm⟩
    simp only [evOps] at he ⊢
    split at he
    · rename_i hg
      split at he
      · rename_i v h' hev
        obtain ⟨n, h1, h2⟩ := go _ _ _ hev he
        exact ⟨n, by rw [h1]; exact h2⟩
      · cases he
    · rename_i g want hg
      split at he
      · rename_i b hb
        split at he
        · rename_i hbw
          simp only [if_pos hbw]
          split at he
          · rename_i v h' hev
            obtain ⟨n, h1, h2⟩ := go _ _ _ hev he
            exact ⟨n, by rw [h1]; exact h2⟩
          · cases he
        · rename_i hbw
          simp only [if_neg hbw]
          exact ih _ _ _ _ he
      · rename_i z hz
        exact ih _ _ _ _ he
      · cases he

theorem lim_exec {k : Nat} : ∀ (c : CC) (vars : List AV) (h : List AO) (r : AXit × List AV × List AO), exec (callW F) k c vars h = some r → ∃ n, exec (callN F n) k c vars h = some r := by
  have up : ∀ {n m : Nat}, n ≤ m → ∀ (c : CC) (vars : List AV) (h : List AO) (r : AXit × List AV × List AO), exec (callN F n) k c vars h = some r → exec (callN F m) k c vars h = some r :=
    fun hnm => exec_mono (callN_mono F _ _ hnm) (Nat.le_refl k)
  intro c
  induction c with
  | skip => intro vars h r he; exact ⟨0, he⟩
  | exit id => intro vars h r he; exact ⟨0, he⟩
  | ret => intro vars h r he; exact ⟨0, he⟩
  | region ms aps ops =>
    intro vars h r he
    simp only [exec] at he ⊢
    split at he
    · rename_i hap
      simp only [if_pos hap]
      obtain ⟨q, h1, rfl⟩ := Option.map_eq_some_iff.1 he
      obtain ⟨n, hn⟩ := lim_ops _ _ _ _ _ h1
      exact ⟨n, by rw [hn]; rfl⟩
    · cases he
  | seq a b iha ihb =>
    intro vars h r he
    simp only [exec] at he ⊢
    cases ha : exec (callW F) k a vars h with
    | none => rw [ha] at he; cases he
    | some q =>
      rw [ha] at he
      obtain ⟨n, hn⟩ := iha _ _ _ ha
      obtain ⟨x, v', h'⟩ := q
      cases x with
      | normal =>
        obtain ⟨m, hm⟩ := ihb _ _ _ he
        exact ⟨max n m, by rw [up (Nat.le_max_left _ _) _ _ _ _ hn]; exact up (Nat.le_max_right _ _) _ _ _ _ hm⟩
      | exit id => exact ⟨n, by rw [hn]; exact he⟩
      | ret => exact ⟨n, by rw [hn]; exact he⟩
  | cond c x y ihx ihy =>
    intro vars h r he
    simp only [exec] at he ⊢
    split at he
    · rename_i b hb
      cases b
      · exact ihy _ _ _ he
      · exact ihx _ _ _ he
    · cases he
  | block id b ih =>
    intro vars h r he
    simp only [exec] at he ⊢
    cases hb : exec (callW F) k b vars h with
    | none => rw [hb] at he; cases he
    | some q =>
      rw [hb] at he
      obtain ⟨n, hn⟩ := ih _ _ _ hb
      exact ⟨n, by rw [hn]; exact he⟩
  | loop keep ms b ih =>
    intro vars h r he
    simp only [exec] at he ⊢
    generalize (ms.foldl doMark (vars, h)).1 = vars0 at he ⊢
    generalize (ms.foldl doMark (vars, h)).2 = h0 at he ⊢
    have key : ∀ (j : Nat) (vars : List AV) (h : List AO), loopN (exec (callW F) k b) keep j vars h = some r → ∃ n, loopN (exec (callN F n) k b) keep j vars h = some r := by
      intro j
      induction j with
      | zero => intro vars h he; simp [loopN] at he
      | succ j ihj =>
        intro vars h he
        simp only [loopN] at he ⊢
        cases hb : exec (callW F) k b (clr keep vars) h with
        | none => rw [hb] at he; cases he
        | some q =>
          rw [hb] at he
          obtain ⟨n, hn⟩ := ih _ _ _ hb
          obtain ⟨x, v', h'⟩ := q
          cases x with
          | normal =>
            obtain ⟨m, hm⟩ := ihj _ _ he
            refine ⟨max n m, ?_⟩
            rw [up (Nat.le_max_left _ _) _ _ _ _ hn]
            exact loopN_mono (up (Nat.le_max_right _ _) b) j j (Nat.le_refl _) _ _ _ hm
          | exit id => exact ⟨n, by rw [hn]; exact he⟩
          | ret => exact ⟨n, by rw [hn]; exact he⟩
    exact key k _ _ he

/-- A call of a function that is compiled, by its code. -/
theorem callW_code {f : FuncId} {c : CFun} (hf : F f = some (.code c)) {args : List AV} {r : AV × List AO} (hl : args.length = c.np) (k : Nat) (he : leave h.length c (exec (callW F) k c.body (start c args) h) = some r) : callW F f args h = some r := by
  rw [callW_iff]
  cases hx : exec (callW F) k c.body (start c args) h with
  | none => rw [hx] at he; cases he
  | some q =>
    obtain ⟨n, hn⟩ := lim_exec _ _ _ _ hx
    refine ⟨max n k + 1, ?_⟩
    simp only [callN, hf, if_pos hl]
    rw [exec_mono (callN_mono F _ _ (Nat.le_max_left n k)) (Nat.le_max_right n k) _ _ _ _ hn]
    rw [hx] at he
    exact he
/-- A call of a function that is carried out on values alone. -/
theorem callW_p {f : FuncId} {c : CFun} (hf : F f = some (.pcode c)) {args as : List AV} {r : AV} (hs : args.mapM (AV.snap1 h) = some as) (hl : as.length = c.np) (k : Nat) (he : leave 0 c (exec (callW F) k c.body (start c as) []) = some (r, [])) : callW F f args h = some (r, h) := by
  rw [callW_iff]
  cases hx : exec (callW F) k c.body (start c as) [] with
  | none => rw [hx] at he; cases he
  | some q =>
    obtain ⟨n, hn⟩ := lim_exec _ _ _ _ hx
    refine ⟨max n k + 1, ?_⟩
    simp only [callN, hf, hs, if_pos hl]
    rw [exec_mono (callN_mono F _ _ (Nat.le_max_left n k)) (Nat.le_max_right n k) _ _ _ _ hn]
    rw [hx] at he
    rw [he]
/-- .. as it is called with nothing but values. -/
theorem callW_any {f : FuncId} {c : CFun} (hf : F f = some (.pcode c)) {args as : List AV} {r : AV} (hs : args.mapM (AV.snap1 h) = some as) (he : callW F f as [] = some (r, [])) : callW F f args h = some (r, h) := by
  obtain ⟨n, hn⟩ := callW_iff.1 he
  cases n with
  | zero => simp [callN] at hn
  | succ n =>
    have snap0i : ∀ (x y : AV), x.snap0 h = some y → y.snap0 [] = some y := by
      intro x y hxy
      cases x <;> simp only [AV.snap0] at hxy
      all_goals first
        | (split at hxy
           · split at hxy
             · cases hxy; rfl
             · cases hxy
           · cases hxy)
        | (split at hxy
           · rename_i hf; cases hxy; simp only [AV.snap0, hf, if_true]
           · cases hxy)
    have snapi : ∀ (x y : AV), x.snap1 h = some y → y.snap1 [] = some y := by
      intro x y hxy
      cases x <;> simp only [AV.snap1] at hxy
      case agg cs =>
        obtain ⟨ds, hd, rfl⟩ := Option.map_eq_some_iff.1 hxy
        have : ds.mapM (AV.snap0 []) = some ds := by
          have gen : ∀ (cs ds : List AV), cs.mapM (AV.snap0 h) = some ds → ds.mapM (AV.snap0 []) = some ds := by
            intro cs
            induction cs with
            | nil => intro ds hd; simp at hd; subst hd; rfl
            | cons c cs ih =>
              intro ds hd
              simp only [List.mapM_cons, Option.bind_eq_bind, Option.bind_eq_some_iff, Option.pure_def, Option.some.injEq] at hd
              obtain ⟨d, h1, ds', h2, rfl⟩ := hd
              simp [List.mapM_cons, snap0i _ _ h1, ih _ h2]
          exact gen _ _ hd
        simp [AV.snap1, this]
      all_goals
        have := snap0i _ _ hxy
        cases y <;> first | exact this | (simp [AV.snap0, AV.free0] at this)
    have hs' : as.mapM (AV.snap1 []) = some as := by
      have gen : ∀ (cs ds : List AV), cs.mapM (AV.snap1 h) = some ds → ds.mapM (AV.snap1 []) = some ds := by
        intro cs
        induction cs with
        | nil => intro ds hd; simp at hd; subst hd; rfl
        | cons c cs ih =>
          intro ds hd
          simp only [List.mapM_cons, Option.bind_eq_bind, Option.bind_eq_some_iff, Option.pure_def, Option.some.injEq] at hd
          obtain ⟨d, h1, ds', h2, rfl⟩ := hd
          simp [List.mapM_cons, snapi _ _ h1, ih _ h2]
      exact gen _ _ hs
    refine callW_iff.2 ⟨n + 1, ?_⟩
    simp only [callN, hf, hs', hs] at hn ⊢
    split at hn
    · rename_i hl
      rw [if_pos hl]
      split at hn
      · rename_i r' hle
        cases hn
        rfl
      · cases hn
    · cases hn
theorem callW_oracle {f : FuncId} {g : List AV → List AO → Option (AV × List AO)} (hf : F f = some (.oracle g)) {args : List AV} {r : AV × List AO} (he : g args h = some r) : callW F f args h = some r := by
  rw [callW_iff]
  exact ⟨1, by simp only [callN, hf]; exact he⟩
end
end Go.AE
end

/-! AE, part 31: runs, step by step (rows for simp: what is still to be done is data, so nothing is looked into ahead of its turn). -/
section
set_option linter.unusedVariables false
set_option linter.unusedSimpArgs false
namespace Go.AE
open Go Go.RowKit

structure St where
  vars : List AV
  env : List AV
  h : List AO

def put1 (wr : Option Nat) (vars env : List AV) : Option (AV × List AO) → Option St
  | some (v, h) => some ⟨setO vars wr v, v :: env, h⟩
  | none => none
def pass1 (wr : Option Nat) (vars env : List AV) (h : List AO) : Option St := some ⟨setO vars wr (.v undef), .v undef :: env, h⟩
def pick1 (g : AV) (want : Bool) (y n : Option St) : Option St := match g with
  | .v (.bool b) => if b = want then y else n
  | .v (.tuple _) => n
  | _ => none
def stp (call : CallF) (o : CO) : Option St → Option St
  | some ⟨vars, env, h⟩ => match o.guard with
    | none => put1 o.wr vars env (evOp call vars env h o.op)
    | some (g, want) => pick1 (getO vars env g) want (put1 o.wr vars env (evOp call vars env h o.op)) (pass1 o.wr vars env h)
  | none => none
def run (call : CallF) : List CO → Option St → Option St
  | [], s => s
  | o :: r, s => run call r (stp call o s)
def outS : Option St → Option (List AV × List AO)
  | some ⟨vars, _, h⟩ => some (vars, h)
  | none => none

theorem run_none {call : CallF} : ∀ (cs : List CO), run call cs none = none := by
  intro cs
  induction cs with
  | nil => rfl
  | cons c cs ih => simp only [run, stp, ih]
theorem ops_run {call : CallF} : ∀ (cs : List CO) (vars env : List AV) (h : List AO), evOps call cs vars env h = outS (run call cs (some ⟨vars, env, h⟩)) := by
  intro cs
  induction cs with
  | nil => intro vars env h; rfl
  | cons c cs ih =>
    intro vars env h
    simp only [run, evOps, stp]
    cases hg : c.guard with
    | none =>
      simp only
      cases he : evOp call vars env h c.op with
      | none => simp only [put1, run_none]; rfl
      | some q => obtain ⟨v, h'⟩ := q; simp only [put1]; exact ih _ _ _
    | some gw =>
      obtain ⟨g, want⟩ := gw
      simp only
      have go : (match evOp call vars env h c.op with
          | some (v, h') => evOps call cs (setO vars c.wr v) (v :: env) h'
          | none => none) = outS (run call cs (put1 c.wr vars env (evOp call vars env h c.op))) := by
        cases he : evOp call vars env h c.op with
        | none => simp only [put1, run_none]; rfl
        | some q => obtain ⟨v, h'⟩ := q; simp only [put1]; exact ih _ _ _
      have no : evOps call cs (setO vars c.wr (.v undef)) (.v undef :: env) h = outS (run call cs (pass1 c.wr vars env h)) := ih _ _ _
      cases hv : getO vars env g with
      | v x =>
        cases x with
        | bool b =>
          simp only [pick1]
          by_cases hb : b = want
          · rw [if_pos hb, if_pos hb]; exact go
          · rw [if_neg hb, if_neg hb]; exact no
        | tuple a => exact no
        | _ => simp only [pick1, run_none]; rfl
      | _ => simp only [pick1, run_none]; rfl

section
variable {call : CallF} {vars env : List AV} {h : List AO} {fuel : Nat}
theorem run_nil {s : Option St} : run call [] s = s := rfl
theorem run_cons {o : CO} {r : List CO} {s : Option St} : run call (o :: r) s = run call r (stp call o s) := rfl
theorem stp_plain {op : COp} {wr : Option Nat} : stp call ⟨op, wr, none⟩ (some ⟨vars, env, h⟩) = put1 wr vars env (evOp call vars env h op) := rfl
theorem stp_guard {op : COp} {wr : Option Nat} {g : Opd} {want : Bool} : stp call ⟨op, wr, some (g, want)⟩ (some ⟨vars, env, h⟩) = pick1 (getO vars env g) want (put1 wr vars env (evOp call vars env h op)) (pass1 wr vars env h) := rfl
theorem put_some {wr : Option Nat} {v : AV} : put1 wr vars env (some (v, h)) = some ⟨setO vars wr v, v :: env, h⟩ := rfl
theorem pass_eq {wr : Option Nat} : pass1 wr vars env h = some ⟨setO vars wr (.v undef), .v undef :: env, h⟩ := rfl
theorem pick_tt {y n : Option St} : pick1 (.v (.bool true)) true y n = y := rfl
theorem pick_ff {y n : Option St} : pick1 (.v (.bool false)) false y n = y := rfl
theorem pick_tf {y n : Option St} : pick1 (.v (.bool true)) false y n = n := rfl
theorem pick_ft {y n : Option St} : pick1 (.v (.bool false)) true y n = n := rfl
theorem pick_u {a : Array Value} {w : Bool} {y n : Option St} : pick1 (.v (.tuple a)) w y n = n := rfl
theorem out_some : outS (some ⟨vars, env, h⟩) = some (vars, h) := rfl

/-- behind a region -/
def reg (a : Option St) : CRun := match a with
  | some ⟨v, _, h⟩ => some (.normal, v, h)
  | none => none
theorem reg_some : reg (some ⟨vars, env, h⟩) = some (.normal, vars, h) := rfl
theorem x_region {ops : List CO} : exec call fuel (.region [] [] ops) vars h = reg (run call ops (some ⟨vars, [], h⟩)) := by
  simp only [exec, List.all_nil, if_true, List.foldl_nil, ops_run]
  cases run call ops (some ⟨vars, [], h⟩) <;> rfl
def marked (s : List AV × List AO) : Option St := some ⟨s.1, [], s.2⟩
theorem x_region_m {m : Mark} {ms : List Mark} {ops : List CO} : exec call fuel (.region (m :: ms) [] ops) vars h = reg (run call ops (marked ((m :: ms).foldl doMark (vars, h)))) := by
  simp only [exec, List.all_nil, if_true, ops_run, marked]
  cases run call ops (some ⟨((m :: ms).foldl doMark (vars, h)).1, [], ((m :: ms).foldl doMark (vars, h)).2⟩) <;> rfl
theorem marked_eq : marked (vars, h) = some ⟨vars, [], h⟩ := rfl

def thn (call : CallF) (fuel : Nat) (b : CC) (a : CRun) : CRun := match a with
  | some (.normal, v, h) => exec call fuel b v h
  | r => r
theorem x_seq {a b : CC} : exec call fuel (.seq a b) vars h = thn call fuel b (exec call fuel a vars h) := rfl
theorem thn_normal {b : CC} : thn call fuel b (some (.normal, vars, h)) = exec call fuel b vars h := rfl
theorem thn_exit {b : CC} {id : Nat} : thn call fuel b (some (.exit id, vars, h)) = some (.exit id, vars, h) := rfl
theorem thn_ret {b : CC} : thn call fuel b (some (.ret, vars, h)) = some (.ret, vars, h) := rfl
def cnd (call : CallF) (fuel : Nat) (x y : CC) (vars : List AV) (h : List AO) (g : AV) : CRun := match g with
  | .v (.bool b) => cond b (exec call fuel x vars h) (exec call fuel y vars h)
  | _ => none
theorem x_cond {c : Opd} {x y : CC} : exec call fuel (.cond c x y) vars h = cnd call fuel x y vars h (getO vars [] c) := rfl
theorem cnd_t {x y : CC} : cnd call fuel x y vars h (.v (.bool true)) = exec call fuel x vars h := rfl
theorem cnd_f {x y : CC} : cnd call fuel x y vars h (.v (.bool false)) = exec call fuel y vars h := rfl
def blk (id : Nat) (a : CRun) : CRun := match a with
  | some (.exit id', v, h) => some (if id' = id then .normal else .exit id', v, h)
  | r => r
theorem x_block {id : Nat} {b : CC} : exec call fuel (.block id b) vars h = blk id (exec call fuel b vars h) := rfl
theorem blk_normal {id : Nat} : blk id (some (.normal, vars, h)) = some (.normal, vars, h) := rfl
theorem blk_ret {id : Nat} : blk id (some (.ret, vars, h)) = some (.ret, vars, h) := rfl
theorem blk_exit {id : Nat} : blk id (some (.exit id, vars, h)) = some (.normal, vars, h) := by simp [blk]
theorem blk_other {id id' : Nat} (hn : id' ≠ id) : blk id (some (.exit id', vars, h)) = some (.exit id', vars, h) := by simp [blk, hn]
theorem x_loop {keep : List Bool} {b : CC} : exec call fuel (.loop keep [] b) vars h = loopN (exec call fuel b) keep fuel vars h := rfl
theorem x_exit {id : Nat} : exec call fuel (.exit id) vars h = some (.exit id, vars, h) := rfl
theorem x_ret : exec call fuel .ret vars h = some (.ret, vars, h) := rfl
theorem x_skip : exec call fuel .skip vars h = some (.normal, vars, h) := rfl
theorem loop_normal {keep : List Bool} {b : CC} {n : Nat} {v' : List AV} {h' : List AO} (hs : exec call fuel b (clr keep vars) h = some (.normal, v', h')) : loopN (exec call fuel b) keep (n + 1) vars h = loopN (exec call fuel b) keep n v' h' := by
  simp only [loopN, hs]
theorem loop_exit {keep : List Bool} {b : CC} {n id : Nat} {v' : List AV} {h' : List AO} (hs : exec call fuel b (clr keep vars) h = some (.exit id, v', h')) : loopN (exec call fuel b) keep (n + 1) vars h = some (.exit id, v', h') := by
  simp only [loopN, hs]
theorem loop_ret {keep : List Bool} {b : CC} {n : Nat} {v' : List AV} {h' : List AO} (hs : exec call fuel b (clr keep vars) h = some (.ret, v', h')) : loopN (exec call fuel b) keep (n + 1) vars h = some (.ret, v', h') := by
  simp only [loopN, hs]

/-! ### Values -/
theorem g_var0 {x : AV} {l : List AV} : getO (x :: l) env (.var 0) = x := rfl
theorem g_vars {x : AV} {l : List AV} {n : Nat} : getO (x :: l) env (.var (n + 1)) = getO l env (.var n) := rfl
theorem g_loc0 {x : AV} {e : List AV} : getO vars (x :: e) (.loc 0) = x := rfl
theorem g_locs {x : AV} {e : List AV} {n : Nat} : getO vars (x :: e) (.loc (n + 1)) = getO vars e (.loc n) := rfl
theorem g_int {k : IntKind} {n : Int} : getO vars env (.k (.int k n)) = .v (.int k n) := rfl
theorem g_bool {b : Bool} : getO vars env (.k (.bool b)) = .v (.bool b) := rfl
theorem g_str {s : ByteArray} : getO vars env (.k (.string s)) = .v (.string s) := rfl
theorem g_sl {a : Option Addr} {l c : Nat} : getO vars env (.k (.slice a l c)) = .v (.slice a l c) := rfl
theorem g_agg {a : Array Value} : getO vars env (.k (.agg a)) = ofVal (.agg a) := rfl
theorem s_none {v : AV} : setO vars none v = vars := rfl
theorem s_zero {x v : AV} {l : List AV} : setO (x :: l) (some 0) v = v :: l := rfl
theorem s_succ {x v : AV} {l : List AV} {n : Nat} : setO (x :: l) (some (n + 1)) v = x :: setO l (some n) v := rfl

/-! ### Calls of pure functions -/
def fin (h : List AO) : Option (AV × List AO) → Option (AV × List AO)
  | some (r, []) => some (r, h)
  | _ => none
theorem fin_some {r : AV} : fin h (some (r, [])) = some (r, h) := rfl
def pc0 (call : CallF) (f : FuncId) (h : List AO) : Option (AV × List AO) := fin h (call f [] [])
def pc1 (call : CallF) (f : FuncId) (h : List AO) (a : Option AV) : Option (AV × List AO) := match a with
  | some a => fin h (call f [a] [])
  | none => none
def pc2 (call : CallF) (f : FuncId) (h : List AO) (a b : Option AV) : Option (AV × List AO) := match a, b with
  | some a, some b => fin h (call f [a, b] [])
  | _, _ => none
def pc3 (call : CallF) (f : FuncId) (h : List AO) (a b c : Option AV) : Option (AV × List AO) := match a, b, c with
  | some a, some b, some c => fin h (call f [a, b, c] [])
  | _, _, _ => none
theorem e_call0 {f : FuncId} : evOp call vars env h (.call true f []) = pc0 call f h := by
  simp only [evOp, List.map_nil, List.mapM_nil, Option.pure_def, pc0, fin]
  rfl
theorem e_call1 {f : FuncId} {x : Opd} : evOp call vars env h (.call true f [x]) = pc1 call f h ((getO vars env x).snap1 h) := by
  simp only [evOp, List.map_cons, List.map_nil, List.mapM_cons, List.mapM_nil, Option.pure_def, Option.bind_eq_bind]
  cases (getO vars env x).snap1 h <;> rfl
theorem e_call2 {f : FuncId} {x y : Opd} : evOp call vars env h (.call true f [x, y]) = pc2 call f h ((getO vars env x).snap1 h) ((getO vars env y).snap1 h) := by
  simp only [evOp, List.map_cons, List.map_nil, List.mapM_cons, List.mapM_nil, Option.pure_def, Option.bind_eq_bind]
  cases (getO vars env x).snap1 h <;> cases (getO vars env y).snap1 h <;> rfl
theorem e_call3 {f : FuncId} {x y z : Opd} : evOp call vars env h (.call true f [x, y, z]) = pc3 call f h ((getO vars env x).snap1 h) ((getO vars env y).snap1 h) ((getO vars env z).snap1 h) := by
  simp only [evOp, List.map_cons, List.map_nil, List.mapM_cons, List.mapM_nil, Option.pure_def, Option.bind_eq_bind]
  cases (getO vars env x).snap1 h <;> cases (getO vars env y).snap1 h <;> cases (getO vars env z).snap1 h <;> rfl
theorem pc0_eq {f : FuncId} : pc0 call f h = fin h (call f [] []) := rfl
theorem pc1_some {f : FuncId} {a : AV} : pc1 call f h (some a) = fin h (call f [a] []) := rfl
theorem pc2_some {f : FuncId} {a b : AV} : pc2 call f h (some a) (some b) = fin h (call f [a, b] []) := rfl
theorem pc3_some {f : FuncId} {a b c : AV} : pc3 call f h (some a) (some b) (some c) = fin h (call f [a, b, c] []) := rfl

/-! ### Operations, one by one -/
theorem e_mov {x : Opd} : evOp call vars env h (.mov x) = some (getO vars env x, h) := rfl
def pk (h : List AO) (c a b : AV) : Option (AV × List AO) := match c with
  | .v (.bool t) => some (cond t a b, h)
  | _ => none
theorem e_pick {c a b : Opd} : evOp call vars env h (.pick c a b) = pk h (getO vars env c) (getO vars env a) (getO vars env b) := rfl
theorem pk_t {a b : AV} : pk h (.v (.bool true)) a b = some (a, h) := rfl
theorem pk_f {a b : AV} : pk h (.v (.bool false)) a b = some (b, h) := rfl
def withH (h : List AO) : Option AV → Option (AV × List AO)
  | some v => some (v, h)
  | none => none
theorem withH_some {v : AV} : withH h (some v) = some (v, h) := rfl
theorem map_withH {a : Option AV} : (a.map fun v => (v, h)) = withH h a := by cases a <;> rfl
def bx (h : List AO) : Option (List AV) → Option (AV × List AO)
  | some cs => some (.ptr h.length 0, h ++ [.box cs])
  | none => none
theorem e_box {x : Opd} : evOp call vars env h (.box x) = bx h (getO vars env x).cl := by
  simp only [evOp]; cases (getO vars env x).cl <;> rfl
theorem bx_some {cs : List AV} : bx h (some cs) = some (.ptr h.length 0, h ++ [.box cs]) := rfl
theorem e_load {a : Bool} {sz : Nat} {x : Opd} : evOp call vars env h (.load a sz x) = withH h (evLoad h a sz (getO vars env x)) := map_withH
def stH : Option (List AO) → Option (AV × List AO)
  | some h' => some (.v (.tuple #[]), h')
  | none => none
theorem stH_some {h' : List AO} : stH (some h') = some (.v (.tuple #[]), h') := rfl
theorem e_store {sz : Nat} {a x : Opd} : evOp call vars env h (.store sz a x) = stH (evStore h sz (getO vars env a) (getO vars env x)) := by
  simp only [evOp]; cases evStore h sz (getO vars env a) (getO vars env x) <;> rfl
theorem e_nil {x : Opd} : evOp call vars env h (.nilchk x) = withH h (evNil h (getO vars env x)) := map_withH
theorem e_bin {op : BinOp} {x y : Opd} : evOp call vars env h (.bin op x y) = withH h (evBin op (getO vars env x) (getO vars env y)) := map_withH
def eqH (h : List AO) (neg : Bool) : Option Bool → Option (AV × List AO)
  | some b => some (.v (.bool (if neg then !b else b)), h)
  | none => none
theorem e_eqv {k : EqK} {neg : Bool} {x y : Opd} : evOp call vars env h (.eqv k neg x y) = eqH h neg (eqNil h k (getO vars env x) (getO vars env y)) := by
  simp only [evOp]; cases eqNil h k (getO vars env x) (getO vars env y) <;> rfl
theorem eqH_f {b : Bool} : eqH h false (some b) = some (.v (.bool b), h) := rfl
theorem eqH_t {b : Bool} : eqH h true (some b) = some (.v (.bool !b), h) := rfl
theorem e_un {op : UnOp} {x : Opd} : evOp call vars env h (.un op x) = withH h (evUn op (getO vars env x)) := map_withH
theorem e_fa {o : Nat} {x : Opd} : evOp call vars env h (.fa o x) = withH h (evFa h o (getO vars env x)) := map_withH
theorem e_ia {sz : Nat} {x i : Opd} : evOp call vars env h (.ia sz x i) = withH h (evIa vars env h sz x i) := map_withH
def lnH (h : List AO) : Option Nat → Option (AV × List AO)
  | some n => some (.v (.int .i64 (n : Int)), h)
  | none => none
theorem lnH_some {n : Nat} : lnH h (some n) = some (.v (.int .i64 (n : Int)), h) := rfl
theorem e_len {k : LenK} {x : Opd} : evOp call vars env h (.len k x) = lnH h (evLen h k (getO vars env x)) := by
  simp only [evOp]; cases evLen h k (getO vars env x) <;> rfl
def exH (h : List AO) (i : Nat) : AV → Option (AV × List AO)
  | .tup vs => match vs[i]? with
    | some v => some (v, h)
    | none => none
  | _ => none
theorem e_extract {x : Opd} {i : Nat} : evOp call vars env h (.extract x i) = exH h i (getO vars env x) := rfl
theorem ex_0 {v : AV} {vs : List AV} : exH h 0 (.tup (v :: vs)) = some (v, h) := rfl
theorem ex_1 {u v : AV} {vs : List AV} : exH h 1 (.tup (u :: v :: vs)) = some (v, h) := rfl
/-- an element's pointer -/
def iaV (h : List AO) (sz : Nat) (x : AV) (i : Option Nat) : Option AV := match x, i with
  | .slc sz' _ _ l, some i => match l[i]? with
    | some el => if sz' = sz then some (.ip el.cells) else none
    | none => none
  | .own sz' id ver off n, some i => if sz' = sz ∧ i < n then (rowAt h sz id ver (off + n)).map fun _ => .ep sz id ver (off + i) 0 else none
  | _, _ => none
theorem ia_eq {sz : Nat} {x i : Opd} : evIa vars env h sz x i = iaV h sz (getO vars env x) (natO vars env i) := rfl
def natV : AV → Option Nat
  | .v (.int _ n) => if 0 ≤ n then some n.toNat else none
  | _ => none
/-- an element of an array that is a value -/
def ixaV (n : Nat) (agg : Bool) (sz : Nat) (x : AV) (i : Option Nat) : Option AV := match x, i with
  | .agg cs, some i => if i < n ∧ i * sz + sz ≤ cs.length then asEl agg ((cs.drop (i * sz)).take sz) else none
  | _, _ => none
theorem e_ixa {n : Nat} {agg : Bool} {sz : Nat} {x i : Opd} : evOp call vars env h (.ixa n agg sz x i) = withH h (ixaV n agg sz (getO vars env x) (natO vars env i)) := by
  simp only [evOp, ixaV]
  cases getO vars env x <;> cases natO vars env i <;> first | rfl | skip
  rename_i cs k
  simp only
  by_cases hc : k < n ∧ k * sz + sz ≤ cs.length
  · rw [if_pos hc, if_pos hc]; exact map_withH
  · rw [if_neg hc, if_neg hc]; rfl
theorem nat_eq {x : Opd} : natO vars env x = natV (getO vars env x) := rfl
theorem natV_nat {k : IntKind} {n : Nat} : natV (.v (.int k (n : Int))) = some n := by simp [natV]
theorem iaV_slc {sz : Nat} {ex nn : Bool} {l : List AV} {i : Nat} {el : AV} (he : l[i]? = some el) : iaV h sz (.slc sz ex nn l) (some i) = some (.ip el.cells) := by simp [iaV, he]

theorem len_nil : evLen h .slice (.v (.slice none 0 0)) = some 0 := rfl
theorem len_slc {sz : Nat} {ex nn : Bool} {l : List AV} : evLen h .slice (.slc sz ex nn l) = some l.length := rfl
theorem len_str {s : ByteArray} : evLen h .string (.v (.string s)) = some s.size := rfl

/-! ### A variable made here -/
theorem app_get {x : AO} : (h ++ [x])[h.length]? = some x := by simp
theorem app_set {x y : AO} : (h ++ [x]).set h.length y = h ++ [y] := by simp
theorem st_new {sz : Nat} {cs xs : List AV} {x : AV} (hx : x.cl = some xs) (h1 : xs.length = sz) (h2 : cs.length = sz) : evStore (h ++ [.box cs]) sz (.ptr h.length 0) x = some (h ++ [.box xs]) := by
  have hp : ∀ (xs a b : List AV), a.length + xs.length = b.length → putAt b a.length xs = b.take a.length ++ xs := by
    intro xs
    induction xs with
    | nil => intro a b hl; simp only [putAt, List.append_nil]; rw [List.take_of_length_le (by simp at hl; omega)]
    | cons x xs ih =>
      intro a b hl
      simp only [putAt]
      have := ih (b.take a.length ++ [x]) (b.set a.length x) (by simp at hl ⊢; omega)
      have e : (b.take a.length ++ [x]).length = a.length + 1 := by simp at hl ⊢; omega
      rw [e] at this
      rw [this]
      have hlt : a.length < b.length := by simp at hl; omega
      rw [List.take_add_one, List.getElem?_set_self hlt, List.take_set, List.set_eq_of_length_le (by simp; omega)]
      simp
  have := hp xs [] cs (by simp; omega)
  simp only [List.length_nil, List.take_zero, List.nil_append] at this
  simp only [evStore, app_get, hx, h1, Nat.zero_add, h2, Nat.le_refl, and_self, if_true, app_set, this]
theorem ld_new {a : Bool} {sz : Nat} {cs : List AV} {off : Nat} : evLoad (h ++ [.box cs]) a sz (.ptr h.length off) = if off + sz ≤ cs.length then asEl a ((cs.drop off).take sz) else none := by
  simp only [evLoad, app_get]

def bs1 (h : List AO) (sz : Nat) : Option AV → Option (AV × List AO)
  | some y => match y.cl with
    | some ys => if ys.length = sz then some (.slc sz true true [y], h) else none
    | none => none
  | none => none
theorem e_bslice1 {sz : Nat} {zero : List Value} {x : Opd} : evOp call vars env h (.bslice sz zero 1 [(0, x)]) = bs1 h sz ((getO vars env x).snap1 h) := by
  simp only [evOp, evElems]
  cases hs : (getO vars env x).snap1 h with
  | none => rfl
  | some y =>
    simp only [bs1, Option.bind_some]
    cases hc : y.cl with
    | none => rfl
    | some ys =>
      simp only [Option.map_some, List.length_replicate]
      by_cases hl : ys.length = sz
      · rw [if_pos ⟨hl, by omega⟩, if_pos hl]; rfl
      · rw [if_neg (fun h => hl h.1), if_neg hl]; rfl
theorem bs1_some {sz : Nat} {y : AV} {ys : List AV} (hc : y.cl = some ys) (hl : ys.length = sz) : bs1 h sz (some y) = some (.slc sz true true [y], h) := by
  simp only [bs1, hc, hl, if_true]
def bs2 (h : List AO) (sz : Nat) : Option AV → Option AV → Option (AV × List AO)
  | some a, some b => match a.cl, b.cl with
    | some xs, some ys => if xs.length = sz then if ys.length = sz then some (.slc sz true true [a, b], h) else none else none
    | _, _ => none
  | _, _ => none
theorem e_bslice2 {sz : Nat} {zero : List Value} {x y : Opd} : evOp call vars env h (.bslice sz zero 2 [(0, x), (1, y)]) = bs2 h sz ((getO vars env x).snap1 h) ((getO vars env y).snap1 h) := by
  simp only [evOp, evElems]
  cases hs : (getO vars env x).snap1 h with
  | none => rfl
  | some a =>
    cases hs' : (getO vars env y).snap1 h with
    | none =>
      simp only [bs2, Option.bind_some, Option.bind_none]
      cases hc : a.cl with
      | none => rfl
      | some xs =>
        simp only [Option.map_some]
        split <;> rfl
    | some b =>
      simp only [bs2, Option.bind_some]
      cases hc : a.cl with
      | none => rfl
      | some xs =>
        simp only [Option.map_some]
        cases hc' : b.cl with
        | none =>
          simp only [Option.map_none]
          split <;> rfl
        | some ys =>
          simp only [Option.map_some, List.length_replicate, List.length_set]
          by_cases h1 : xs.length = sz
          · by_cases h2 : ys.length = sz
            · simp [h1, h2]
            · simp [h1, h2]
          · simp [h1]
def bdH (h : List AO) : Option (List AV) → Option (AV × List AO)
  | some cs => some (.agg cs, h)
  | none => none
theorem e_build {zero : List Value} {ps : List (Nat × Nat × Opd)} : evOp call vars env h (.build zero ps) = bdH h (evBuild vars env (toL zero) ps) := by
  simp only [evOp]; cases evBuild vars env (toL zero) ps <;> rfl
theorem bdH_some {cs : List AV} : bdH h (some cs) = some (.agg cs, h) := rfl
def bd1 (vars env : List AV) (cs : List AV) (off sz : Nat) (r : List (Nat × Nat × Opd)) (xs : Option (List AV)) : Option (List AV) := match xs with
  | some xs => if xs.length = sz ∧ off + sz ≤ cs.length then evBuild vars env (putAt cs off xs) r else none
  | none => none
theorem bd_nil {cs : List AV} : evBuild vars env cs [] = some cs := rfl
theorem bd_cons {cs : List AV} {off sz : Nat} {x : Opd} {r : List (Nat × Nat × Opd)} : evBuild vars env cs ((off, sz, x) :: r) = bd1 vars env cs off sz r (getO vars env x).cl := rfl
theorem bd1_some {cs xs : List AV} {off sz : Nat} {r : List (Nat × Nat × Opd)} (h1 : xs.length = sz) (h2 : off + sz ≤ cs.length) : bd1 vars env cs off sz r (some xs) = evBuild vars env (putAt cs off xs) r := by
  simp only [bd1, h1, h2, and_self, if_true]
theorem e_append {sz bytes : Nat} {s x : Opd} : evOp call vars env h (.append sz bytes s x) = evAppend h sz bytes (getO vars env s) (getO vars env x) := rfl
theorem cl_agg {cs : List AV} : (AV.agg cs).cl = some cs := rfl
theorem cl_int {k : IntKind} {n : Int} : (AV.v (.int k n)).cl = some [.v (.int k n)] := rfl
theorem ap_nil {sz bytes : Nat} : evAppend h sz bytes (.v (.slice none 0 0)) (.v (.slice none 0 0)) = some (.v (.slice none 0 0), h) := rfl
theorem ap_empty {sz bytes : Nat} {ex nn : Bool} : evAppend h sz bytes (.v (.slice none 0 0)) (.slc sz ex nn []) = some (.v (.slice none 0 0), h) := by
  simp [evAppend, elemsOf]
theorem ap_new {sz bytes : Nat} {ex nn : Bool} {l : List AV} (hl : l ≠ []) (hf : fits l.length bytes = true) : evAppend h sz bytes (.v (.slice none 0 0)) (.slc sz ex nn l) = some (.own sz h.length 0 0 l.length, h ++ [.row sz 0 l 0]) := by
  simp [evAppend, elemsOf, hl, hf]

/-! ### Leaving -/
def lvf (h : List AO) (v : AV) : Option (AV × List AO) := match v.frz2 0 h with
  | some r => some (r, [])
  | none => none
def lvs (h : List AO) (rs : Option (List AV)) : Option (AV × List AO) := match rs with
  | some rs => lvf h (pack rs)
  | none => none
def lv (rs : List CRes) (r : CRun) : Option (AV × List AO) := match r with
  | some (.normal, vars, h) | some (.ret, vars, h) => lvs h (rs.mapM (resOf vars h))
  | _ => none
theorem leave_lv {c : CFun} {r : CRun} : leave 0 c r = lv c.res r := by
  have key : ∀ (vars : List AV) (h : List AO), (match (c.res.mapM (resOf vars h)).bind fun rs => (pack rs).frz2 0 h with
      | some r => if 0 ≤ h.length ∧ (h.take 0).all (AO.below 0) = true then some (r, h.take 0) else none
      | none => none) = lvs h (c.res.mapM (resOf vars h)) := by
    intro vars h
    cases c.res.mapM (resOf vars h) with
    | none => rfl
    | some rs =>
      simp only [Option.bind_some, lvs, lvf]
      cases (pack rs).frz2 0 h with
      | none => rfl
      | some r => simp
  cases r with
  | none => rfl
  | some q =>
    obtain ⟨x, vars, h⟩ := q
    cases x with
    | normal => exact key _ _
    | ret => exact key _ _
    | exit id => rfl
theorem lv_ret {vars : List AV} {rs : List CRes} : lv rs (some (.ret, vars, h)) = lvs h (rs.mapM (resOf vars h)) := rfl
theorem lv_normal {vars : List AV} {rs : List CRes} : lv rs (some (.normal, vars, h)) = lvs h (rs.mapM (resOf vars h)) := rfl
theorem res1 {vars : List AV} {i : Nat} : lvs h ([CRes.var i].mapM (resOf vars h)) = lvf h (getO vars [] (.var i)) := rfl
def lv2 (h : List AO) (a b : Option AV) : Option (AV × List AO) := match a, b with
  | some a, some b => lvf h (.tup [a, b])
  | _, _ => none
theorem res2 {vars : List AV} {a b : CRes} : lvs h ([a, b].mapM (resOf vars h)) = lv2 h (resOf vars h a) (resOf vars h b) := by
  simp only [List.mapM_cons, List.mapM_nil, Option.pure_def, Option.bind_eq_bind]
  cases resOf vars h a <;> cases resOf vars h b <;> rfl
theorem lv2_some {a b : AV} : lv2 h (some a) (some b) = lvf h (.tup [a, b]) := rfl
theorem res_var {vars : List AV} {i : Nat} : resOf vars h (.var i) = some (getO vars [] (.var i)) := rfl
theorem res_cell {vars : List AV} {i : Nat} {a : Bool} {sz : Nat} : resOf vars h (.cell i a sz) = evLoad h a sz (getO vars [] (.var i)) := rfl
theorem lvf_v {x : Value} : lvf h (.v x) = some (.v x, []) := rfl
theorem lvf_slc {sz : Nat} {ex nn : Bool} {l : List AV} : lvf h (.slc sz ex nn l) = some (.slc sz ex nn l, []) := rfl
/-- A call of a compiled function that is handed nothing to change. -/
theorem callW_pure {F : FuncId → Option FEntry} {f : FuncId} {c : CFun} (hf : F f = some (.code c)) {args : List AV} {r : AV × List AO} (hl : args.length = c.np) (k : Nat) (he : lv c.res (exec (callW F) k c.body (start c args) []) = some r) : callW F f args [] = some r :=
  callW_code hf hl k (by rw [← he]; exact leave_lv)
/-- .. that is always carried out on values alone, wherever it is called. -/
theorem callW_pp {F : FuncId → Option FEntry} {f : FuncId} {c : CFun} (hf : F f = some (.pcode c)) {args vs : List AV} {r : AV} (hs : args.mapM (AV.snap1 h) = some vs) (hl : vs.length = c.np) (k : Nat) (he : lv c.res (exec (callW F) k c.body (start c vs) []) = some (r, [])) : callW F f args h = some (r, h) :=
  callW_p hf hs hl k (by rw [← he]; exact leave_lv)
end
end Go.AE
end

/-! AE, part 32: loops as folds. -/
section
set_option linter.unusedVariables false
set_option linter.unusedSimpArgs false
namespace Go.AE
open Go Go.RowKit

/-- rounds i, i + 1, .. of a loop: each goes on with a new state, or leaves -/
def rounds {σ ρ : Type} (f : Nat → σ → σ ⊕ ρ) : Nat → Nat → σ → σ ⊕ ρ
  | 0, _, s => .inl s
  | d + 1, i, s => match f i s with
    | .inl s' => rounds f d (i + 1) s'
    | .inr r => .inr r

/-- A loop of n rounds, by what one round does. inv: what holds where a round begins (the variables as the loop goes on with them). -/
theorem loop_fold {call : CallF} {K : Nat} {b : CC} {keep : List Bool} {σ ρ : Type} (f : Nat → σ → σ ⊕ ρ) (inv : Nat → σ → List AV → List AO → Prop) (fin : ρ → AXit → List AV → List AO → Prop) (ends : σ → AXit → List AV → List AO → Prop) (n : Nat)
    (step : ∀ i s v h, i < n → inv i s v h → match f i s with
      | .inl s' => ∃ v' h', exec call K b v h = some (.normal, v', h') ∧ inv (i + 1) s' (clr keep v') h'
      | .inr r => ∃ x v' h', exec call K b v h = some (x, v', h') ∧ x ≠ .normal ∧ fin r x v' h')
    (last : ∀ s v h, inv n s v h → ∃ x v' h', exec call K b v h = some (x, v', h') ∧ x ≠ .normal ∧ ends s x v' h') :
    ∀ (d i : Nat) (s : σ) (v : List AV) (h : List AO), i + d = n → inv i s (clr keep v) h → ∃ x v' h', loopN (exec call K b) keep (d + 1) v h = some (x, v', h') ∧ (match rounds f d i s with
      | .inl s' => ends s' x v' h'
      | .inr r => fin r x v' h') := by
  have out : ∀ {m : Nat} {v : List AV} {h : List AO} {x : AXit} {v' : List AV} {h' : List AO}, exec call K b (clr keep v) h = some (x, v', h') → x ≠ .normal → loopN (exec call K b) keep (m + 1) v h = some (x, v', h') := by
    intro m v h x v' h' he hx
    cases x with
    | normal => exact absurd rfl hx
    | exit id => exact loop_exit he
    | ret => exact loop_ret he
  intro d
  induction d with
  | zero =>
    intro i s v h hi hv
    have : i = n := by omega
    subst this
    obtain ⟨x, v', h', h1, h2, h3⟩ := last s _ _ hv
    exact ⟨x, v', h', out h1 h2, h3⟩
  | succ d ih =>
    intro i s v h hi hv
    have hs := step i s _ _ (by omega) hv
    simp only [rounds]
    cases hf : f i s with
    | inl s' =>
      rw [hf] at hs
      obtain ⟨v', h', h1, h2⟩ := hs
      rw [loop_normal h1]
      exact ih (i + 1) s' v' h' (by omega) h2
    | inr r =>
      rw [hf] at hs
      obtain ⟨x, v', h', h1, h2, h3⟩ := hs
      exact ⟨x, v', h', out h1 h2, h3⟩

/-! ### Objects of a caller's, and those made since -/
theorem own_get {h l : List AO} {k : Nat} : (h ++ l)[h.length + k]? = l[k]? := by
  rw [List.getElem?_append_right (by omega)]
  simp
theorem own_get0 {h l : List AO} : (h ++ l)[h.length]? = l[0]? := own_get (k := 0)
theorem own_set {h l : List AO} {k : Nat} {x : AO} : (h ++ l).set (h.length + k) x = h ++ l.set k x := by
  rw [List.set_append_right _ _ (by omega)]
  simp
theorem own_set0 {h l : List AO} {x : AO} : (h ++ l).set h.length x = h ++ l.set 0 x := own_set (k := 0)
theorem his_get {h l : List AO} {id : Nat} {o : AO} (ho : h[id]? = some o) : (h ++ l)[id]? = some o := by
  rw [List.getElem?_append_left (List.getElem?_eq_some_iff.1 ho).1]; exact ho
theorem his_set {h l : List AO} {id : Nat} {x : AO} (hlt : id < h.length) : (h ++ l).set id x = h.set id x ++ l := List.set_append_left _ _ hlt
theorem set_get {h : List AO} {id : Nat} {x : AO} (hlt : id < h.length) : (h.set id x)[id]? = some x := List.getElem?_set_self hlt
end Go.AE
end

/-! AE, part 33: a function's own objects, behind those of its caller. -/
section
set_option linter.unusedVariables false
set_option linter.unusedSimpArgs false
namespace Go.AE
open Go Go.RowKit

def ldAt (l : List AO) (k : Nat) (a : Bool) (sz o : Nat) : Option AV := match l[k]? with
  | some (.box cs) => if o + sz ≤ cs.length then asEl a ((cs.drop o).take sz) else none
  | _ => none
def stAt (l : List AO) (sz k o : Nat) (x : AV) : Option (List AO) := match l[k]? with
  | some (.box cs) => match x.cl with
    | some xs => if xs.length = sz ∧ o + sz ≤ cs.length then some (l.set k (.box (putAt cs o xs))) else none
    | none => none
  | _ => none
def preH (H : List AO) : Option (List AO) → Option (List AO)
  | some l => some (H ++ l)
  | none => none
section
variable {H l : List AO} {B : Nat}
theorem preH_some : preH H (some l) = some (H ++ l) := rfl
theorem obj_get (hB : H.length = B) {k : Nat} : (H ++ l)[B + k]? = l[k]? := by subst hB; exact own_get
theorem obj_set (hB : H.length = B) {k : Nat} {x : AO} : (H ++ l).set (B + k) x = H ++ l.set k x := by subst hB; exact own_set
theorem own_ld (hB : H.length = B) {a : Bool} {sz k o : Nat} : evLoad (H ++ l) a sz (.ptr (B + k) o) = ldAt l k a sz o := by
  simp only [evLoad, obj_get hB, ldAt]
  cases l[k]? with
  | none => rfl
  | some b => cases b <;> rfl
theorem own_ld0 (hB : H.length = B) {a : Bool} {sz o : Nat} : evLoad (H ++ l) a sz (.ptr B o) = ldAt l 0 a sz o := own_ld hB (k := 0)
theorem own_st (hB : H.length = B) {sz k o : Nat} {x : AV} : evStore (H ++ l) sz (.ptr (B + k) o) x = preH H (stAt l sz k o x) := by
  simp only [evStore, obj_get hB, stAt]
  cases l[k]? with
  | none => rfl
  | some b =>
    cases b with
    | box cs =>
      simp only
      cases x.cl with
      | none => rfl
      | some xs => simp only [obj_set hB]; split <;> rfl
    | _ => rfl
theorem own_st0 (hB : H.length = B) {sz o : Nat} {x : AV} : evStore (H ++ l) sz (.ptr B o) x = preH H (stAt l sz 0 o x) := own_st hB (k := 0)
theorem own_bx (hB : H.length = B) {cs : List AV} : bx (H ++ l) (some cs) = some (.ptr (B + l.length) 0, H ++ (l ++ [.box cs])) := by
  simp only [bx, List.length_append, hB, List.append_assoc]
theorem ep_ld {h : List AO} {a : Bool} {sz n o : Nat} {cs : List AV} : evLoad h a sz (.ip cs) = if sz ≤ cs.length then asEl a (cs.take sz) else none := rfl

/-- leaving, behind the objects of a caller -/
def lvo (B : Nat) (H l : List AO) (rs : Option (List AV)) : Option (AV × List AO) := match rs with
  | some rs => match (pack rs).frz2 B (H ++ l) with
    | some r => some (r, H)
    | none => none
  | none => none
theorem leave_own {c : CFun} {vars : List AV} (hB : H.length = B) (hb : H.all (AO.below B) = true) : leave B c (some (.ret, vars, H ++ l)) = lvo B H l (c.res.mapM (resOf vars (H ++ l))) := by
  subst hB
  simp only [leave, lvo]
  cases c.res.mapM (resOf vars (H ++ l)) with
  | none => rfl
  | some rs =>
    simp only [Option.bind_some]
    cases (pack rs).frz2 H.length (H ++ l) with
    | none => rfl
    | some r =>
      have : (H ++ l).take H.length = H := by simp
      simp only [this]
      rw [if_pos ⟨by simp, hb⟩]
theorem own_res1 {vars : List AV} {a : CRes} {x : AV} (h : resOf vars (H ++ l) a = some x) : [a].mapM (resOf vars (H ++ l)) = some [x] := by
  simp [h]
theorem own_res2 {vars : List AV} {a b : CRes} {x y : AV} (h : resOf vars (H ++ l) a = some x) (h' : resOf vars (H ++ l) b = some y) : [a, b].mapM (resOf vars (H ++ l)) = some [x, y] := by
  simp [h, h']
theorem lvo_one {x r : AV} (h : x.frz2 B (H ++ l) = some r) : lvo B H l (some [x]) = some (r, H) := by simp [lvo, pack, h]
theorem lvo_two {x y r s : AV} (h : x.frz1 B (H ++ l) = some r) (h' : y.frz1 B (H ++ l) = some s) : lvo B H l (some [x, y]) = some (.tup [r, s], H) := by
  simp [lvo, pack, AV.frz2, h, h']

theorem callW_own {F : FuncId → Option FEntry} {f : FuncId} {c : CFun} (hf : F f = some (.code c)) {args : List AV} {r : AV × List AO} (hl : args.length = c.np) (k : Nat) (he : leave H.length c (exec (callW F) k c.body (start c args) (H ++ [])) = some r) : callW F f args H = some r :=
  callW_code hf hl k (by rw [List.append_nil] at he; exact he)
theorem cl_nil : (AV.v (.slice none 0 0)).cl = some [.v (.slice none 0 0)] := rfl
theorem cl_str {s : ByteArray} : (AV.v (.string s)).cl = some [.v (.string s)] := rfl
theorem cl_bool {b : Bool} : (AV.v (.bool b)).cl = some [.v (.bool b)] := rfl
theorem cl_slc {sz : Nat} {ex nn : Bool} {l : List AV} : (AV.slc sz ex nn l).cl = some [.slc sz ex nn l] := rfl
theorem cl_own {sz id ver off n : Nat} : (AV.own sz id ver off n).cl = some [.own sz id ver off n] := rfl
/-- max and min -/
def mmH (h : List AO) (mx : Bool) : AV → AV → Option (AV × List AO)
  | .v (.int k a), .v (.int _ b) => some (.v (.int k (if mx then (if a < b then b else a) else (if b < a then b else a))), h)
  | _, _ => none
theorem e_mm {call : CallF} {vars env : List AV} {h : List AO} {mx : Bool} {x y : Opd} : evOp call vars env h (.mm mx x y) = mmH h mx (getO vars env x) (getO vars env y) := by
  simp only [evOp, mmH]
  rfl
theorem mm_max {h : List AO} {k k' : IntKind} {a b : Int} : mmH h true (.v (.int k a)) (.v (.int k' b)) = some (.v (.int k (max a b)), h) := by
  have e : (if a < b then b else a) = max a b := by rw [Int.max_def]; split <;> split <;> omega
  simp only [mmH, if_true, e]
theorem mm_min {h : List AO} {k k' : IntKind} {a b : Int} : mmH h false (.v (.int k a)) (.v (.int k' b)) = some (.v (.int k (min a b)), h) := by
  have e : (if b < a then b else a) = min a b := by rw [Int.min_def]; split <;> split <;> omega
  simp only [mmH, Bool.false_eq_true, if_false, e]
def lvo1 (h : List AO) : Option AV → Option (AV × List AO)
  | some v => lvf h v
  | none => none
theorem res1c {h : List AO} {vars : List AV} {i sz : Nat} {a : Bool} : lvs h ([CRes.cell i a sz].mapM (resOf vars h)) = lvo1 h (evLoad h a sz (getO vars [] (.var i))) := by
  simp only [List.mapM_cons, List.mapM_nil, Option.pure_def, Option.bind_eq_bind, res_cell]
  cases evLoad h a sz (getO vars [] (.var i)) <;> rfl
theorem lvo1_some {h : List AO} {v : AV} : lvo1 h (some v) = lvf h v := rfl
theorem e_callh {call : CallF} {vars env : List AV} {h : List AO} {f : FuncId} {args : List Opd} : evOp call vars env h (.call false f args) = call f (args.map (getO vars env)) h := rfl

theorem below0_mono {n m : Nat} (hle : n ≤ m) : ∀ x : AV, x.below0 n = true → x.below0 m = true := by
  intro x hx
  cases x with
  | fn f a b => cases a <;> cases b <;> simp_all [AV.below0]
  | _ => simp_all [AV.below0] <;> omega
theorem below1_mono {n m : Nat} (hle : n ≤ m) : ∀ x : AV, x.below1 n = true → x.below1 m = true := by
  intro x hx
  cases x with
  | fn f a b =>
    simp only [AV.below1, Bool.and_eq_true, List.all_eq_true] at hx ⊢
    exact ⟨fun y hy => below0_mono hle y (hx.1 y hy), fun y hy => below0_mono hle y (hx.2 y hy)⟩
  | _ => simp only [AV.below1] at hx ⊢; exact below0_mono hle _ hx
theorem below_mono {n m : Nat} (hle : n ≤ m) (o : AO) (h : o.below n = true) : o.below m = true := by
  cases o with
  | box cs => simp only [AO.below, List.all_eq_true] at h ⊢; exact fun y hy => below1_mono hle y (h y hy)
  | _ => rfl
theorem all_below_mono {n m : Nat} (hle : n ≤ m) {H : List AO} (h : H.all (AO.below n) = true) : H.all (AO.below m) = true := by
  simp only [List.all_eq_true] at h ⊢; exact fun y hy => below_mono hle y (h y hy)
end
end Go.AE
end

/-! AE, part 34: slices that are read, slices that are made. -/
section
set_option linter.unusedVariables false
set_option linter.unusedSimpArgs false
namespace Go.AE
open Go Go.RowKit

/-- a slice that is read, with its elements -/
inductive Sl (sz : Nat) : AV → List AV → Prop
  | nil : Sl sz (.v (.slice none 0 0)) []
  | slc (ex nn : Bool) (es : List AV) : Sl sz (.slc sz ex nn es) es
section
variable {sz : Nat} {c : AV} {es : List AV} {h : List AO}
theorem Sl.len (s : Sl sz c es) (h : List AO) : evLen h .slice c = some es.length := by cases s <;> rfl
theorem Sl.ia (s : Sl sz c es) {i : Nat} {e : AV} (he : es[i]? = some e) (h : List AO) : iaV h sz c (some i) = some (.ip e.cells) := by
  cases s with
  | nil => simp at he
  | slc ex nn es => exact iaV_slc he
theorem Sl.snap (s : Sl sz c es) (h : List AO) : c.snap1 h = some c := by cases s <;> rfl
theorem Sl.snap0 (s : Sl sz c es) (h : List AO) : c.snap0 h = some c := by cases s <;> rfl
theorem Sl.elems (s : Sl sz c es) (h : List AO) : elemsOf h sz c = some es := by
  cases s with
  | nil => rfl
  | slc ex nn es => simp [elemsOf]
theorem Sl.frz (s : Sl sz c es) (B : Nat) (h : List AO) : c.frz0 B h = some c := by cases s <;> rfl
theorem Sl.bel (s : Sl sz c es) (B : Nat) : c.below0 B = true := by cases s <;> rfl
theorem Sl.cl (s : Sl sz c es) : c.cl = some [c] := by cases s <;> rfl
theorem Sl.lvf (s : Sl sz c es) (h : List AO) : lvf h c = some (c, []) := by cases s <;> rfl
end

/-- a slice that is being made by append -/
inductive Acc (sz : Nat) (h : List AO) : AV → List AV → Prop
  | nil : Acc sz h (.v (.slice none 0 0)) []
  | own (id ver k : Nat) (es : List AV) (hr : h[id]? = some (.row sz ver es k)) (hk : k ≤ es.length) (hne : es ≠ []) : Acc sz h (.own sz id ver 0 es.length) es
/-- the variables of h are in h', too -/
def Keeps (h h' : List AO) : Prop := h.length ≤ h'.length ∧ ∀ (j : Nat) (cs : List AV), h[j]? = some (.box cs) → h'[j]? = some (.box cs)
section
variable {sz : Nat} {h h' : List AO} {c : AV} {es : List AV}
theorem Keeps.refl (h : List AO) : Keeps h h := ⟨Nat.le_refl _, fun _ _ e => e⟩
theorem Keeps.trans {h'' : List AO} (a : Keeps h h') (b : Keeps h' h'') : Keeps h h'' := ⟨Nat.le_trans a.1 b.1, fun j cs e => b.2 j cs (a.2 j cs e)⟩
theorem Keeps.app (h : List AO) (x : AO) : Keeps h (h ++ [x]) := ⟨by simp, fun j cs e => his_get e⟩
theorem Acc.app (a : Acc sz h c es) (x : AO) : Acc sz (h ++ [x]) c es := by
  cases a with
  | nil => exact .nil
  | own id ver k es hr hk hne => exact .own id ver k es (his_get hr) hk hne
theorem Acc.len (a : Acc sz h c es) : evLen h .slice c = some es.length := by
  cases a with
  | nil => rfl
  | own id ver k es hr hk hne => simp [evLen, rowAt, hr]
theorem Acc.add (a : Acc sz h c es) {bytes : Nat} {x : AV} {ys : List AV} (hx : elemsOf h sz x = some ys) (hf : fits (es.length + ys.length) bytes = true) : ∃ c' h', evAppend h sz bytes c x = some (c', h') ∧ Acc sz h' c' (es ++ ys) ∧ Keeps h h' := by
  cases a with
  | nil =>
    by_cases hys : ys = []
    · subst hys
      exact ⟨_, _, by simp [evAppend, hx], .nil, .refl h⟩
    · refine ⟨.own sz h.length 0 0 ys.length, h ++ [.row sz 0 ys 0], by simp [evAppend, hx, hys, by simpa using hf], ?_, .app _ _⟩
      exact .own h.length 0 0 ys (by simp) (Nat.zero_le _) hys
  | own id ver k es hr hk hne =>
    by_cases hys : ys = []
    · subst hys
      refine ⟨.own sz id ver 0 es.length, h, by simp [evAppend, hx, rowAt, hr, hk], ?_, .refl h⟩
      rw [List.append_nil]
      exact .own id ver k es hr hk hne
    · have hlt : id < h.length := (List.getElem?_eq_some_iff.1 hr).1
      have := Acc.own (sz := sz) (h := h.set id (.row sz (ver + 1) (es ++ ys) k)) id (ver + 1) k (es ++ ys) (by simp [hlt]) (by simp; omega) (by simp [hys])
      rw [List.length_append] at this
      refine ⟨_, h.set id (.row sz (ver + 1) (es ++ ys) k), ?_, this, by simp, ?_⟩
      · simp [evAppend, hx, rowAt, hr, hys, hf, hk]
      · intro j cs e
        by_cases hj : j = id
        · subst hj; rw [hr] at e; cases e
        · rw [List.getElem?_set_ne (Ne.symm hj)]; exact e
theorem Acc.frz0 (a : Acc sz h c es) : ∃ c', c.frz0 0 h = some c' ∧ Sl sz c' es := by
  cases a with
  | nil => exact ⟨_, rfl, .nil⟩
  | own id ver k es hr hk hne => exact ⟨.slc sz false false es, by simp [AV.frz0, rowAt, hr], .slc _ _ _⟩
theorem Acc.lvf (a : Acc sz h c es) : ∃ c', lvf h c = some (c', []) ∧ Sl sz c' es := by
  obtain ⟨c', h1, h2⟩ := a.frz0
  refine ⟨c', ?_, h2⟩
  cases a with
  | nil => simp only [AV.frz0] at h1; cases h1; rfl
  | own id ver k es hr hk hne => simp only [Go.AE.lvf, AV.frz2, AV.frz1, h1]
theorem Acc.cl (a : Acc sz h c es) : c.cl = some [c] := by cases a <;> rfl
/-- what was made is fixed, to be handed on -/
theorem Acc.fix (a : Acc sz h c es) : Acc sz (raise1 h c) c es ∧ Keeps h (raise1 h c) ∧ ∃ c', c.snap1 (raise1 h c) = some c' ∧ Sl sz c' es := by
  cases a with
  | nil => exact ⟨.nil, .refl h, _, rfl, .nil⟩
  | own id ver k es hr hk hne =>
    have hlt : id < h.length := (List.getElem?_eq_some_iff.1 hr).1
    have e : raise1 h (.own sz id ver 0 es.length) = h.set id (.row sz ver es es.length) := by
      simp [raise1, raise0, raise, rowAt, hr, Nat.max_eq_right hk]
    rw [e]
    have hg : (h.set id (.row sz ver es es.length))[id]? = some (.row sz ver es es.length) := by simp [hlt]
    refine ⟨.own id ver es.length es hg (Nat.le_refl _) hne, ⟨by simp, ?_⟩, .slc sz false false es, by simp [AV.snap1, AV.snap0, rowAt, hg], .slc _ _ _⟩
    intro j cs ej
    by_cases hj : j = id
    · subst hj; rw [hr] at ej; cases ej
    · rw [List.getElem?_set_ne (Ne.symm hj)]; exact ej
theorem elems_one {ex nn : Bool} {x : AV} : elemsOf h sz (.slc sz ex nn [x]) = some [x] := by simp [elemsOf]

/-! ### Variables by what they hold -/
theorem bx_ld {id : Nat} {cs : List AV} (hb : h[id]? = some (.box cs)) {a : Bool} {n o : Nat} : evLoad h a n (.ptr id o) = if o + n ≤ cs.length then asEl a ((cs.drop o).take n) else none := by
  simp only [evLoad, hb]
theorem bx_st {id : Nat} {cs xs : List AV} {x : AV} (hb : h[id]? = some (.box cs)) (hx : x.cl = some xs) {n o : Nat} (h1 : xs.length = n) (h2 : o + n ≤ cs.length) : evStore h n (.ptr id o) x = some (h.set id (.box (putAt cs o xs))) := by
  simp only [evStore, hb, hx, h1, h2, and_self, if_true]

/-! ### Rows that are made whole -/
def mkS (h : List AO) (sz bytes : Nat) (zero : List Value) (a b : AV) : Option (AV × List AO) := match a, b with
  | .v (.int .i64 n), .v (.int .i64 m) =>
    if 0 ≤ n ∧ n ≤ m ∧ m ≤ 9223372036854775807 ∧ bytes * m ≤ 281474976710656 then
      some (.own sz h.length 0 0 n.toNat, h ++ [.row sz 0 (List.replicate n.toNat (zeroEl zero)) 0])
    else none
  | _, _ => none
theorem e_mkslice {call : CallF} {vars env : List AV} {bytes : Nat} {zero : List Value} {l c : Opd} : evOp call vars env h (.mkslice sz bytes zero l c) = mkS h sz bytes zero (getO vars env l) (getO vars env c) := by
  simp only [evOp, mkS]
  rfl
theorem mkS_own {H l : List AO} {B : Nat} (hB : H.length = B) {bytes : Nat} {zero : List Value} {n : Nat} (h1 : (n : Int) ≤ 9223372036854775807) (h2 : (bytes : Int) * (n : Int) ≤ 281474976710656) : mkS (H ++ l) sz bytes zero (.v (.int .i64 n)) (.v (.int .i64 n)) = some (.own sz (B + l.length) 0 0 n, H ++ (l ++ [.row sz 0 (List.replicate n (zeroEl zero)) 0])) := by
  subst hB
  simp [mkS, h1, h2]
section
variable {H l : List AO} {B : Nat}
theorem own_row (hB : H.length = B) {k ver m : Nat} {L : List AV} {f : Nat} (hr : l[k]? = some (.row sz ver L f)) (hm : m ≤ L.length) : rowAt (H ++ l) sz (B + k) ver m = some (L, f) := by
  simp only [rowAt, obj_get hB, hr, and_self, true_and, hm, if_true]
theorem own_ia (hB : H.length = B) {k ver n i : Nat} {L : List AV} {f : Nat} (hr : l[k]? = some (.row sz ver L f)) (hm : n ≤ L.length) (hi : i < n) : iaV (H ++ l) sz (.own sz (B + k) ver 0 n) (some i) = some (.ep sz (B + k) ver i 0) := by
  have := own_row (m := n) hB hr hm
  simp only [iaV, hi, and_self, if_true, this, Option.map_some, Nat.zero_add]
theorem own_est (hB : H.length = B) {k ver i : Nat} {L : List AV} {el : List AV} (hr : l[k]? = some (.row sz ver L 0)) (he : L[i]? = some (.agg el)) (hel : el.length = sz) {x : AV} {xs : List AV} (hs : x.snap1 (H ++ l) = some x) (hx : x.cl = some xs) (hn : xs.length = sz) (hc : xs.all AV.isCell = true) :
    evStore (H ++ l) sz (.ep sz (B + k) ver i 0) x = some (H ++ l.set k (.row sz ver (L.set i (.agg xs)) 0)) := by
  have hi : i < L.length := (List.getElem?_eq_some_iff.1 he).1
  have hp : ∀ (xs a b : List AV), a.length + xs.length = b.length → putAt b a.length xs = b.take a.length ++ xs := by
    intro xs
    induction xs with
    | nil => intro a b hl; simp only [putAt, List.append_nil]; rw [List.take_of_length_le (by simp at hl; omega)]
    | cons x xs ih =>
      intro a b hl
      simp only [putAt]
      have := ih (b.take a.length ++ [x]) (b.set a.length x) (by simp at hl ⊢; omega)
      have e : (b.take a.length ++ [x]).length = a.length + 1 := by simp at hl ⊢; omega
      rw [e] at this
      rw [this]
      have hlt : a.length < b.length := by simp at hl; omega
      rw [List.take_add_one, List.getElem?_set_self hlt, List.take_set, List.set_eq_of_length_le (by simp; omega)]
      simp
  have := hp xs [] el (by simp; omega)
  simp only [List.length_nil, List.take_zero, List.nil_append] at this
  simp only [evStore, own_row hB hr hi, he, hs, Option.bind_some, hx, hn, hc, AV.cells, hel, Nat.zero_le, Nat.zero_add, Nat.le_refl, and_self, if_true, putEl, this, obj_set hB]
end
end
end Go.AE
end

/-! Terms and bindings as values of the evaluator (the same in each program here). -/
section
set_option linter.unusedVariables false
set_option linter.unusedSimpArgs false
namespace Go.AE
open Go

inductive Tm where
  | mk (k : Int) (s : ByteArray) (n : Int) (l : List Tm)
mutual
inductive IsT : AV → Tm → Prop
  | mk (k : Int) (s : ByteArray) (n : Int) (c : AV) (l : List Tm) (h : IsL c l) : IsT (.agg [.v (.int .i64 k), .v (.string s), .v (.int .i64 n), c]) (.mk k s n l)
inductive IsL : AV → List Tm → Prop
  | nil : IsL (.v (.slice none 0 0)) []
  | slc (ex nn : Bool) (es : List AV) (l : List Tm) (h : All2 es l) (hb : es.length ≤ maxLen) : IsL (.slc 4 ex nn es) l
inductive All2 : List AV → List Tm → Prop
  | nil : All2 [] []
  | cons (a : AV) (t : Tm) (es : List AV) (ts : List Tm) (h : IsT a t) (hs : All2 es ts) : All2 (a :: es) (t :: ts)
end
theorem All2.length : ∀ {es : List AV} {l : List Tm}, All2 es l → es.length = l.length
  | _, _, .nil => rfl
  | _, _, .cons _ _ _ _ _ hs => by simp [hs.length]
theorem All2.get : ∀ {es : List AV} {l : List Tm}, All2 es l → ∀ {i : Nat} {e : AV}, es[i]? = some e → ∃ t, l[i]? = some t ∧ IsT e t
  | _, _, .nil, i, e, h => by simp at h
  | _, _, .cons a t es ts h hs, i, e, he => by
    cases i with
    | zero => simp at he; subst he; exact ⟨t, rfl, h⟩
    | succ i => exact hs.get (by simpa using he)
mutual
def same : Tm → Tm → Bool
  | .mk k s n l, .mk k' s' n' l' => k == k' && s.toList == s'.toList && n == n' && l.length == l'.length && sameL l l'
def sameL : List Tm → List Tm → Bool
  | [], _ => true
  | _, [] => true
  | a :: l, b :: l' => same a b && sameL l l'
end
theorem IsT.snap {h : List AO} {a : AV} {t : Tm} (ht : IsT a t) : a.snap1 h = some a := by
  cases ht with
  | mk k s n c l hc => cases hc <;> rfl
theorem IsT.load {h : List AO} {a : AV} {t : Tm} (ht : IsT a t) : evLoad h true 4 (.ip a.cells) = some a := by
  cases ht with
  | mk k s n c l hc => rfl
theorem wrap_ok {n : Int} (h0 : 0 ≤ n) (h1 : n ≤ 9223372036854775807) : IntKind.i64.wrap n = n := IntWalk.i64_in (by omega) (by omega)
mutual
theorem sameL_iff : ∀ (l l' : List Tm), sameL l l' = true ↔ ∀ (i : Nat) (t t' : Tm), l[i]? = some t → l'[i]? = some t' → same t t' = true
  | [], l' => by simp [sameL]
  | a :: l, [] => by simp [sameL]
  | a :: l, b :: l' => by
    rw [sameL, Bool.and_eq_true, sameL_iff l l']
    constructor
    · rintro ⟨h1, h2⟩ i t t' e e'
      cases i with
      | zero => simp at e e'; subst e; subst e'; exact h1
      | succ i => exact h2 i t t' (by simpa using e) (by simpa using e')
    · intro h
      exact ⟨h 0 a b rfl rfl, fun i t t' e e' => h (i + 1) t t' (by simpa using e) (by simpa using e')⟩
end
mutual
def fewT : Tm → Int → Int
  | .mk _ _ _ l, m => fewL l (IntKind.i64.wrap (m - 1))
def fewL : List Tm → Int → Int
  | [], m => m
  | a :: l, m => if m < 0 then m else fewL l (fewT a m)
end
theorem IsT.cl {a : AV} {t : Tm} (ht : IsT a t) : a.cl = some a.cells ∧ a.cells.length = 4 := by
  cases ht with
  | mk k s n c l hc => exact ⟨rfl, rfl⟩
theorem IsT.asEl {a : AV} {t : Tm} (ht : IsT a t) : asEl true (a.cells.take 4) = some a := by
  cases ht with
  | mk k s n c l hc => rfl
/-- a loop's rounds look at nothing but what it goes on with -/
theorem loop_cong {call : CallF} {K : Nat} {b : CC} {keep : List Bool} {m : Nat} {v1 v2 : List AV} {h : List AO} (e : clr keep v1 = clr keep v2) : loopN (exec call K b) keep (m + 1) v1 h = loopN (exec call K b) keep (m + 1) v2 h := by
  simp only [loopN, e]
theorem wrap_succ {i len : Nat} (h : i < len) (hm : len ≤ maxLen) : IntKind.i64.wrap ((i : Int) + 1) = ((i + 1 : Nat) : Int) := by
  rw [wrap_ok (by omega) (by have : maxLen = 9223372036854775807 := rfl; omega)]; simp
/-- A binding: the Var, the term. -/
inductive IsBd : AV → Int → Tm → Prop
  | mk (v : Int) (cs : List AV) (t : Tm) (h : IsT (.agg cs) t) : IsBd (.agg (.v (.int .i64 v) :: cs)) v t
theorem IsBd.load {h : List AO} {a : AV} {v : Int} {t : Tm} (hb : IsBd a v t) : evLoad h true 5 (.ip a.cells) = some a := by
  cases hb with
  | mk v cs t h => cases h with | mk k s n c l hc => rfl
theorem IsBd.cl {a : AV} {v : Int} {t : Tm} (hb : IsBd a v t) : a.cl = some a.cells ∧ a.cells.length = 5 := by
  cases hb with
  | mk v cs t h => cases h with | mk k s n c l hc => exact ⟨rfl, rfl⟩
inductive AllB : List AV → List (Int × Tm) → Prop
  | nil : AllB [] []
  | cons (a : AV) (v : Int) (t : Tm) (es : List AV) (bs : List (Int × Tm)) (h : IsBd a v t) (hs : AllB es bs) : AllB (a :: es) ((v, t) :: bs)
theorem AllB.length : ∀ {es : List AV} {l : List (Int × Tm)}, AllB es l → es.length = l.length
  | _, _, .nil => rfl
  | _, _, .cons _ _ _ _ _ _ hs => by simp [hs.length]
/-- A slice of bindings. -/
inductive IsB : AV → List (Int × Tm) → Prop
  | nil : IsB (.v (.slice none 0 0)) []
  | slc (ex nn : Bool) (es : List AV) (l : List (Int × Tm)) (h : AllB es l) (hb : es.length ≤ maxLen) : IsB (.slc 5 ex nn es) l
theorem loop_more {step : List AV → List AO → CRun} {keep : List Bool} {n m : Nat} {v : List AV} {h : List AO} {r : AXit × List AV × List AO} (he : loopN step keep n v h = some r) (hle : n ≤ m) : loopN step keep m v h = some r :=
  loopN_mono (fun _ _ _ h => h) n m hle v h r he
mutual
theorem same_refl : ∀ t : Tm, same t t = true
  | .mk k s n l => by simp [same, sameL_refl l]
theorem sameL_refl : ∀ l : List Tm, sameL l l = true
  | [] => by simp [sameL]
  | t :: l => by simp [sameL, same_refl t, sameL_refl l]
end
def zeroT : Tm := .mk 0 ⟨#[]⟩ 0 []
theorem AllB.append : ∀ {es es' : List AV} {l l' : List (Int × Tm)}, AllB es l → AllB es' l' → AllB (es ++ es') (l ++ l')
  | _, _, _, _, .nil, h => h
  | _, _, _, _, .cons a v t es bs h hs, h' => .cons a v t _ _ h (hs.append h')
theorem AllB.reverse : ∀ {es : List AV} {l : List (Int × Tm)}, AllB es l → AllB es.reverse l.reverse
  | _, _, .nil => .nil
  | _, _, .cons a v t es bs h hs => by
    rw [List.reverse_cons, List.reverse_cons]
    exact hs.reverse.append (.cons a v t [] [] h .nil)
def zeroC : List AV := [.v (.int .i64 0), .v (.string ⟨#[]⟩), .v (.int .i64 0), .v (.slice none 0 0)]
theorem AllB.get : ∀ {es : List AV} {l : List (Int × Tm)}, AllB es l → ∀ {i : Nat} {e : AV}, es[i]? = some e → ∃ v t, l[i]? = some (v, t) ∧ IsBd e v t
  | _, _, .nil, i, e, h => by simp at h
  | _, _, .cons a v t es ts h hs, i, e, he => by
    cases i with
    | zero => simp at he; subst he; exact ⟨v, t, rfl, h⟩
    | succ i => exact hs.get (by simpa using he)
theorem q9z : (ofVal (.agg #[(.int .i64 0), (.string ⟨#[]⟩), (.int .i64 0), (.slice none 0 0)])).cl = some [.v (.int .i64 0), .v (.string ⟨#[]⟩), .v (.int .i64 0), .v (.slice none 0 0)] := by simp [ofVal, AV.cl, Value.oneCell']
def lookT : List (Int × Tm) → Int → Option Tm
  | [], _ => none
  | (v, t) :: r, n => if v = n then some t else lookT r n
/-- what a term is bound to -/
def bound (rs : List (Int × Tm)) : Tm → Option Tm
  | .mk k _ n _ => if k = 1 then lookT rs n else none
/-- a term's bindings followed: where it ends, the error, the steps that are fewT -/
def walkT (rs : List (Int × Tm)) : Nat → Tm → Tm × Int × Nat
  | 0, t => match bound rs t with
    | some _ => (zeroT, 140, 0)
    | none => (t, 0, 0)
  | fewT + 1, t => match bound rs t with
    | some t' => walkT rs fewT t'
    | none => (t, 0, fewT + 1)
theorem isT_zero : IsT (.agg zeroC) zeroT := .mk 0 _ 0 _ [] .nil
theorem IsT.bel {a : AV} {t : Tm} (ht : IsT a t) : AO.below 0 (.box a.cells) = true := by
  cases ht with
  | mk k s n c l hc => cases hc <;> rfl
theorem IsT.frz {a : AV} {t : Tm} (ht : IsT a t) (B : Nat) (h : List AO) : a.frz1 B h = some a := by
  cases ht with
  | mk k s n c l hc => cases hc <;> rfl
theorem lvt {a : AV} {t : Tm} (ht : IsT a t) (h : List AO) (x : Value) : lvf h (.tup [a, .v x]) = some (.tup [a, .v x], []) := by
  cases ht with
  | mk k s n c l hc => cases hc <;> rfl
theorem lv1 {a : AV} {t : Tm} (ht : IsT a t) (h : List AO) : lvf h a = some (a, []) := by
  cases ht with
  | mk k s n c l hc => cases hc <;> rfl
mutual
def shiftT (by' : Int) : Tm → Tm
  | .mk k s n l => .mk k s (if k = 1 then IntKind.i64.wrap (n + by') else n) (shiftL by' l)
def shiftL (by' : Int) : List Tm → List Tm
  | [] => []
  | t :: l => shiftT by' t :: shiftL by' l
end
mutual
def size : Tm → Nat
  | .mk _ _ _ l => 1 + sizeL l
def sizeL : List Tm → Nat
  | [] => 0
  | t :: l => size t + sizeL l
end
theorem size_pos (t : Tm) : 1 ≤ size t := by cases t; simp only [size]; omega
theorem sizeL_len : ∀ l : List Tm, l.length ≤ sizeL l
  | [] => Nat.le_refl _
  | t :: l => by
    have := sizeL_len l
    have := size_pos t
    simp only [sizeL, List.length_cons]; omega
theorem size_mem : ∀ {l : List Tm} {t : Tm}, t ∈ l → size t ≤ sizeL l
  | u :: l, t, h => by
    simp only [sizeL]
    rcases List.mem_cons.1 h with rfl | h
    · omega
    · have := size_mem h; omega
theorem shiftL_len (by' : Int) : ∀ l : List Tm, (shiftL by' l).length = l.length
  | [] => rfl
  | t :: l => by simp [shiftL, shiftL_len by' l]
theorem IsL.sl {c : AV} {l : List Tm} (h : IsL c l) : ∃ es, Sl 4 c es ∧ All2 es l ∧ es.length ≤ maxLen := by
  cases h with
  | nil => exact ⟨[], .nil, .nil, by simp⟩
  | slc ex nn es l h hb => exact ⟨es, .slc ex nn es, h, hb⟩
theorem Sl.isL {c : AV} {es : List AV} {l : List Tm} (h : Sl 4 c es) (ha : All2 es l) (hb : es.length ≤ maxLen) : IsL c l := by
  cases h with
  | nil => cases ha; exact .nil
  | slc ex nn es => exact .slc ex nn es l ha hb
theorem All2.app : ∀ {es es' : List AV} {l l' : List Tm}, All2 es l → All2 es' l' → All2 (es ++ es') (l ++ l')
  | _, _, _, _, .nil, h => h
  | _, _, _, _, .cons a t es ts h hs, h' => .cons a t _ _ h (hs.app h')
theorem All2.one {a : AV} {t : Tm} (h : IsT a t) : All2 [a] [t] := .cons a t [] [] h .nil
theorem small_max {n : Nat} (h : n ≤ 100000) : n ≤ maxLen := by have : maxLen = 9223372036854775807 := rfl; omega
/-- a round's copy of an element: made, filled, read -/
theorem IsT.st {e : AV} {t : Tm} (ht : IsT e t) (h : List AO) (cs : List AV) (hl : cs.length = 4) : evStore (h ++ [.box cs]) 4 (.ptr h.length 0) e = some (h ++ [.box e.cells]) := st_new ht.cl.1 ht.cl.2 hl
theorem IsT.ld {e : AV} {t : Tm} (ht : IsT e t) (h : List AO) : evLoad (h ++ [.box e.cells]) true 4 (.ptr h.length 0) = some e := by
  rw [ld_new, if_pos (by rw [ht.cl.2]; omega), List.drop_zero]; exact ht.asEl
end Go.AE
end

/-! slices.IndexFunc and slices.DeleteFunc of any kind of elements, walked. -/
section
set_option linter.unusedVariables false
set_option linter.unusedSimpArgs false
namespace Go.AE
open Go Go.RowKit

theorem putAt_take : ∀ (xs a b : List AV), a.length + xs.length = b.length → putAt b a.length xs = b.take a.length ++ xs := by
  intro xs
  induction xs with
  | nil => intro a b hl; simp only [putAt, List.append_nil]; rw [List.take_of_length_le (by simp at hl; omega)]
  | cons x xs ih =>
    intro a b hl
    simp only [putAt]
    have := ih (b.take a.length ++ [x]) (b.set a.length x) (by simp at hl ⊢; omega)
    have e : (b.take a.length ++ [x]).length = a.length + 1 := by simp at hl ⊢; omega
    rw [e] at this
    rw [this]
    have hlt : a.length < b.length := by simp at hl; omega
    rw [List.take_add_one, List.getElem?_set_self hlt, List.take_set, List.set_eq_of_length_le (by simp; omega)]
    simp
theorem putAt_all {cs xs : List AV} (h : xs.length = cs.length) : putAt cs 0 xs = xs := by
  have := putAt_take xs [] cs (by simpa using h)
  simpa using this
/-- an element of a row, that leads to nothing that can change -/
structure El (agg : Bool) (sz : Nat) (e : AV) : Prop where
  el : asEl agg e.cells = some e
  len : e.cells.length = sz
  snap : ∀ h : List AO, e.snap1 h = some e
  cl : e.cl = some e.cells
  cell : e.cells.all AV.isCell = true
  bel : AO.below 0 (.box e.cells) = true
theorem El.put {agg : Bool} {sz : Nat} {e x : AV} (he : El agg sz e) (hx : El agg sz x) : putEl e 0 x.cells = x := by
  have h1 := he.el
  have h2 := hx.el
  cases agg with
  | true =>
    rw [← (by simpa [asEl] using h1 : AV.agg e.cells = e)]
    simp only [putEl]
    rw [putAt_all (by rw [hx.len, he.len])]
    simpa [asEl] using h2
  | false =>
    unfold asEl at h1 h2
    simp only [Bool.false_eq_true, if_false] at h1 h2
    split at h1
    · rename_i c hc
      cases h1
      split at h2
      · rename_i d hd
        cases h2
        rw [hd]
        cases e <;> first | rfl | (have := he.cell; rw [hc] at this; simp [AV.isCell] at this)
      · cases h2
    · cases h1

section
variable {H : List AO} {sz id ver k n off : Nat} {l : List AV}
theorem row_at (hr : H[id]? = some (.row sz ver l k)) (hm : n ≤ l.length) : rowAt H sz id ver n = some (l, k) := by
  simp only [rowAt, hr, and_self, true_and, hm, if_true]
theorem row_len (hr : H[id]? = some (.row sz ver l k)) (hm : n ≤ l.length) : evLen H .slice (.own sz id ver 0 n) = some n := by
  simp only [evLen, Nat.zero_add, row_at hr hm, Option.map_some]
theorem row_ia (hr : H[id]? = some (.row sz ver l k)) (hm : n ≤ l.length) {i : Nat} (hi : i < n) : iaV H sz (.own sz id ver 0 n) (some i) = some (.ep sz id ver i 0) := by
  simp only [iaV, hi, and_self, if_true, Nat.zero_add, row_at hr hm, Option.map_some]
theorem row_ld {agg : Bool} (hr : H[id]? = some (.row sz ver l k)) {i : Nat} {e : AV} (he : l[i]? = some e) (h : El agg sz e) : evLoad H agg sz (.ep sz id ver i 0) = some e := by
  have hi := (List.getElem?_eq_some_iff.1 he).1
  simp only [evLoad, row_at hr (show i + 1 ≤ l.length from hi), he, h.len, Nat.zero_add, Nat.le_refl, if_true, List.drop_zero]
  rw [List.take_of_length_le (by rw [h.len]; exact Nat.le_refl _)]
  exact h.el
theorem row_st {agg : Bool} (hr : H[id]? = some (.row sz ver l 0)) {i : Nat} {e x : AV} (he : l[i]? = some e) (h : El agg sz e) (hx : El agg sz x) : evStore H sz (.ep sz id ver i 0) x = some (H.set id (.row sz ver (l.set i x) 0)) := by
  have hi := (List.getElem?_eq_some_iff.1 he).1
  simp only [evStore, row_at hr (show i + 1 ≤ l.length from hi), he, hx.snap, Option.bind_some, hx.cl, hx.len, h.len, hx.cell, Nat.zero_le, Nat.zero_add, Nat.le_refl, and_self, if_true, h.put hx]
theorem set_below (hH : H.all (AO.below H.length) = true) : (H.set id (.row sz ver l k)).all (AO.below (H.set id (.row sz ver l k)).length) = true := by
  simp only [List.length_set]
  simp only [List.all_eq_true] at hH ⊢
  intro o ho
  rcases List.mem_or_eq_of_mem_set ho with h | rfl
  · exact hH o h
  · rfl
end

def indexC (agg : Bool) (sz : Nat) : CFun :=
  ⟨2, 8, (.seq (.region [] [] [⟨(.mov (.k (.int .i64 0))), (some 2), none⟩]) (.seq (.seq (.region [] [] [⟨(.mov (.var 0)), none, none⟩,
  ⟨(.len .slice (.loc 0)), (some 4), none⟩,
  ⟨(.mov (.k (.int .i64 0))), (some 5), none⟩]) (.block 0 (.loop [true, true, false, false, true, true, false, false] [] (.seq (.region [] [] [⟨(.bin .lss (.var 5) (.var 4)), (some 6), none⟩]) (.seq (.cond (.var 6) .skip (.exit 0)) (.seq (.block 1 (.seq (.region [] [] [⟨(.mov (.var 5)), none, none⟩,
  ⟨(.mov (.loc 0)), (some 3), none⟩]) (.seq (.region [] [] [⟨(.mov (.var 1)), none, none⟩,
  ⟨(.mov (.var 0)), none, none⟩,
  ⟨(.mov (.var 3)), none, none⟩,
  ⟨(.ia sz (.loc 1) (.loc 0)), none, none⟩,
  ⟨(.load agg sz (.loc 0)), none, none⟩,
  ⟨(.callv (.loc 4) [(.loc 0)]), (some 7), none⟩]) (.cond (.var 7) (.seq (.region [] [] [⟨(.mov (.var 3)), none, none⟩,
  ⟨(.mov (.loc 0)), (some 2), none⟩]) .ret) .skip)))) (.region [] [] [⟨(.bin .add (.var 5) (.k (.int .i64 1))), none, none⟩,
  ⟨(.mov (.loc 0)), (some 5), none⟩]))))))) (.seq (.region [] [] [⟨(.mov (.k (.int .i64 (-1)))), (some 2), none⟩]) .ret))), [.var 2]⟩
def indexB (agg : Bool) (sz : Nat) : CC := (.seq (.region [] [] [⟨(.bin .lss (.var 5) (.var 4)), (some 6), none⟩]) (.seq (.cond (.var 6) .skip (.exit 0)) (.seq (.block 1 (.seq (.region [] [] [⟨(.mov (.var 5)), none, none⟩,
  ⟨(.mov (.loc 0)), (some 3), none⟩]) (.seq (.region [] [] [⟨(.mov (.var 1)), none, none⟩,
  ⟨(.mov (.var 0)), none, none⟩,
  ⟨(.mov (.var 3)), none, none⟩,
  ⟨(.ia sz (.loc 1) (.loc 0)), none, none⟩,
  ⟨(.load agg sz (.loc 0)), none, none⟩,
  ⟨(.callv (.loc 4) [(.loc 0)]), (some 7), none⟩]) (.cond (.var 7) (.seq (.region [] [] [⟨(.mov (.var 3)), none, none⟩,
  ⟨(.mov (.loc 0)), (some 2), none⟩]) .ret) .skip)))) (.region [] [] [⟨(.bin .add (.var 5) (.k (.int .i64 1))), none, none⟩,
  ⟨(.mov (.loc 0)), (some 5), none⟩]))))
/-- where the first is of which p tells yes -/
def firstAt (p : AV → Bool) : List AV → Nat → Int
  | [], _ => -1
  | x :: l, i => if p x then (i : Int) else firstAt p l (i + 1)

/-- What a slice is read of: its length, its elements. -/
structure Rd (H : List AO) (agg : Bool) (sz : Nat) (s : AV) (l : List AV) : Prop where
  len : evLen H .slice s = some l.length
  get : ∀ (i : Nat) (e : AV), l[i]? = some e → ∃ p, iaV H sz s (some i) = some p ∧ evLoad H agg sz p = some e
theorem Rd.own {H : List AO} {agg : Bool} {sz id ver k : Nat} {l : List AV} (hr : H[id]? = some (.row sz ver l k)) (hel : ∀ e ∈ l, El agg sz e) : Rd H agg sz (.own sz id ver 0 l.length) l :=
  ⟨row_len hr (Nat.le_refl _), fun i e he => ⟨_, row_ia hr (Nat.le_refl _) (List.getElem?_eq_some_iff.1 he).1, row_ld hr he (hel e (List.mem_of_getElem? he))⟩⟩
theorem Rd.sl {H : List AO} {agg : Bool} {sz : Nat} {s : AV} {l : List AV} (hs : Sl sz s l) (hel : ∀ e ∈ l, El agg sz e) : Rd H agg sz s l :=
  ⟨hs.len H, fun i e he => ⟨_, hs.ia he H, by
    have h := hel e (List.mem_of_getElem? he)
    simp only [evLoad, h.len, Nat.le_refl, if_true]
    rw [List.take_of_length_le (by rw [h.len]; exact Nat.le_refl _)]
    exact h.el⟩⟩

section
variable {F : FuncId → Option FEntry} {fi g : FuncId} {agg : Bool} {sz : Nat} {first cap : List AV} {p : AV → Bool} {H : List AO} {s : AV} {l : List AV}
theorem callv_fn {call : CallF} {vars env : List AV} {h : List AO} {x : Opd} {args : List Opd} (hx : getO vars env x = .fn (.func g) first cap) : evOp call vars env h (.callv x args) = call g (first ++ args.map (getO vars env) ++ cap) h := by
  simp only [evOp, hx]
/-- a function value called with one -/
def cv1 (call : CallF) (h : List AO) (f x : AV) : Option (AV × List AO) := match f with
  | .fn (.func g) first cap => call g (first ++ [x] ++ cap) h
  | _ => none
theorem e_callv1 {call : CallF} {vars env : List AV} {h : List AO} {x y : Opd} : evOp call vars env h (.callv x [y]) = cv1 call h (getO vars env x) (getO vars env y) := by
  rfl
theorem cv1_fn {call : CallF} {h : List AO} {x : AV} : cv1 call h (.fn (.func g) first cap) x = call g (first ++ [x] ++ cap) h := rfl

theorem index_run (hF : F fi = some (.code (indexC agg sz))) (hH : H.all (AO.below H.length) = true) (hR : Rd H agg sz s l) (hm : l.length ≤ maxLen) (hp : ∀ x ∈ l, callW F g (first ++ [x] ++ cap) H = some (.v (.bool (p x)), H)) :
    callW F fi [s, .fn (.func g) first cap] H = some (.v (.int .i64 (firstAt p l 0)), H) := by
  have hlen := hR.len
  have loop : ∀ (d i m : Nat) (v : List AV), i + d = l.length → d < m → clr [true, true, false, false, true, true, false, false] v = [s, .fn (.func g) first cap, .junk, .junk, .v (.int .i64 l.length), .v (.int .i64 i), .junk, .junk] →
      ∃ v', loopN (exec (callW F) (l.length + 2) (indexB agg sz)) [true, true, false, false, true, true, false, false] m v H = some (if firstAt p (l.drop i) i = -1 then .exit 0 else .ret, v', H) ∧ (firstAt p (l.drop i) i ≠ -1 → getO v' [] (.var 2) = .v (.int .i64 (firstAt p (l.drop i) i))) ∧ v'.length = 8 := by
    intro d
    induction d with
    | zero =>
      intro i m v hi hdm hv
      obtain ⟨m, rfl⟩ : ∃ k, m = k + 1 := ⟨m - 1, by omega⟩
      have hi' : i = l.length := by omega
      subst hi'
      have hlt : decide ((l.length : Int) < (l.length : Int)) = false := by simp
      have hd : l.drop l.length = [] := List.drop_length
      rw [hd]
      refine ⟨[s, .fn (.func g) first cap, .junk, .junk, .v (.int .i64 l.length), .v (.int .i64 l.length), .v (.bool false), .junk], ?_, fun h => absurd rfl h, rfl⟩
      refine (loop_exit ?_)
      rw [hv]
      simp only [indexB, hlt, firstAt, run_nil, run_cons, stp_plain, stp_guard, put_some, pass_eq, pick_tt, pick_ff, pick_tf, pick_ft, pick_u, reg_some, thn_normal, thn_exit, thn_ret, cnd_t, cnd_f, blk_normal, blk_ret, blk_exit, x_seq, x_region, x_cond, x_block, x_loop, x_ret, x_exit, x_skip, e_mov, e_pick, pk_t, pk_f, withH_some, e_box, bx_some, e_load, e_store, stH_some, e_nil, e_bin, e_eqv, eqH_f, eqH_t, e_un, e_fa, e_ia, ia_eq, nat_eq, natV_nat, e_len, lnH_some, e_extract, ex_0, ex_1, e_call0, e_call1, e_call2, e_call3, pc0_eq, pc1_some, pc2_some, pc3_some, fin_some, g_var0, g_vars, g_loc0, g_locs, g_int, g_bool, g_str, g_sl, s_none, s_zero, s_succ, cl_nil, cl_str, cl_bool, cl_slc, cl_own, evFa, evNil, asEl, evBin, intBin, strBin, evUn, len_nil, len_slc, len_str, clr, List.length_nil, List.length_cons, List.getElem?_cons_zero, List.getElem?_cons_succ, Nat.reduceAdd, Nat.zero_add, Nat.add_zero, Nat.reduceLeDiff, Nat.reduceSub, ↓reduceIte, List.drop_succ_cons, List.drop_zero, List.take_succ_cons, List.take_zero, Bool.false_eq_true, List.nil_append, List.cons_append, Bool.not_true, Bool.not_false, cond_true, cond_false, bne, lv_ret, lv_normal, res1, res2, lv2_some, res_var, res_cell, lvf_v, lvf_slc, res1c, lvo1_some, e_mm, mm_max, mm_min]
    | succ d ih =>
      intro i m v hi hdm hv
      obtain ⟨m, rfl⟩ : ∃ k, m = k + 1 := ⟨m - 1, by omega⟩
      have hil : i < l.length := by omega
      have he : l[i]? = some l[i] := List.getElem?_eq_getElem hil
      obtain ⟨q, q1, q2⟩ := hR.get i _ he
      have hlt : decide ((i : Int) < (l.length : Int)) = true := by simp; omega
      have hc := hp l[i] (List.getElem_mem hil)
      have hd : l.drop i = l[i] :: l.drop (i + 1) := List.drop_eq_getElem_cons hil
      rw [hd]
      cases hpx : p l[i] with
      | true =>
        rw [hpx] at hc
        have hne : ¬ ((i : Int) = -1) := by omega
        simp only [firstAt, hpx, if_true, hne, if_false]
        refine ⟨[s, .fn (.func g) first cap, .v (.int .i64 i), .v (.int .i64 i), .v (.int .i64 l.length), .v (.int .i64 i), .v (.bool true), .v (.bool true)], ?_, fun _ => rfl, rfl⟩
        refine (loop_ret ?_)
        rw [hv]
        simp only [indexB, hlt, q1, q2, e_callv1, cv1_fn, hc, run_nil, run_cons, stp_plain, stp_guard, put_some, pass_eq, pick_tt, pick_ff, pick_tf, pick_ft, pick_u, reg_some, thn_normal, thn_exit, thn_ret, cnd_t, cnd_f, blk_normal, blk_ret, blk_exit, x_seq, x_region, x_cond, x_block, x_loop, x_ret, x_exit, x_skip, e_mov, e_pick, pk_t, pk_f, withH_some, e_box, bx_some, e_load, e_store, stH_some, e_nil, e_bin, e_eqv, eqH_f, eqH_t, e_un, e_fa, e_ia, ia_eq, nat_eq, natV_nat, e_len, lnH_some, e_extract, ex_0, ex_1, e_call0, e_call1, e_call2, e_call3, pc0_eq, pc1_some, pc2_some, pc3_some, fin_some, g_var0, g_vars, g_loc0, g_locs, g_int, g_bool, g_str, g_sl, s_none, s_zero, s_succ, cl_nil, cl_str, cl_bool, cl_slc, cl_own, evFa, evNil, asEl, evBin, intBin, strBin, evUn, len_nil, len_slc, len_str, clr, List.length_nil, List.length_cons, List.getElem?_cons_zero, List.getElem?_cons_succ, Nat.reduceAdd, Nat.zero_add, Nat.add_zero, Nat.reduceLeDiff, Nat.reduceSub, ↓reduceIte, List.drop_succ_cons, List.drop_zero, List.take_succ_cons, List.take_zero, Bool.false_eq_true, List.nil_append, List.cons_append, Bool.not_true, Bool.not_false, cond_true, cond_false, bne, lv_ret, lv_normal, res1, res2, lv2_some, res_var, res_cell, lvf_v, lvf_slc, res1c, lvo1_some, e_mm, mm_max, mm_min]
      | false =>
        rw [hpx] at hc
        simp only [firstAt, hpx, Bool.false_eq_true, if_false]
        have hw : IntKind.i64.wrap ((i : Int) + 1) = ((i + 1 : Nat) : Int) := wrap_succ hil hm
        have st : exec (callW F) (l.length + 2) (indexB agg sz) [s, .fn (.func g) first cap, .junk, .junk, .v (.int .i64 l.length), .v (.int .i64 i), .junk, .junk] H = some (.normal, [s, .fn (.func g) first cap, .junk, .v (.int .i64 i), .v (.int .i64 l.length), .v (.int .i64 ((i + 1 : Nat) : Int)), .v (.bool true), .v (.bool false)], H) := by
          simp only [indexB, hlt, q1, q2, e_callv1, cv1_fn, hc, hw, run_nil, run_cons, stp_plain, stp_guard, put_some, pass_eq, pick_tt, pick_ff, pick_tf, pick_ft, pick_u, reg_some, thn_normal, thn_exit, thn_ret, cnd_t, cnd_f, blk_normal, blk_ret, blk_exit, x_seq, x_region, x_cond, x_block, x_loop, x_ret, x_exit, x_skip, e_mov, e_pick, pk_t, pk_f, withH_some, e_box, bx_some, e_load, e_store, stH_some, e_nil, e_bin, e_eqv, eqH_f, eqH_t, e_un, e_fa, e_ia, ia_eq, nat_eq, natV_nat, e_len, lnH_some, e_extract, ex_0, ex_1, e_call0, e_call1, e_call2, e_call3, pc0_eq, pc1_some, pc2_some, pc3_some, fin_some, g_var0, g_vars, g_loc0, g_locs, g_int, g_bool, g_str, g_sl, s_none, s_zero, s_succ, cl_nil, cl_str, cl_bool, cl_slc, cl_own, evFa, evNil, asEl, evBin, intBin, strBin, evUn, len_nil, len_slc, len_str, clr, List.length_nil, List.length_cons, List.getElem?_cons_zero, List.getElem?_cons_succ, Nat.reduceAdd, Nat.zero_add, Nat.add_zero, Nat.reduceLeDiff, Nat.reduceSub, ↓reduceIte, List.drop_succ_cons, List.drop_zero, List.take_succ_cons, List.take_zero, Bool.false_eq_true, List.nil_append, List.cons_append, Bool.not_true, Bool.not_false, cond_true, cond_false, bne, lv_ret, lv_normal, res1, res2, lv2_some, res_var, res_cell, lvf_v, lvf_slc, res1c, lvo1_some, e_mm, mm_max, mm_min]
        rw [loop_normal (by rw [hv]; exact st)]
        exact ih (i + 1) m _ (by omega) (by omega) rfl
  obtain ⟨v', h1, h2, h3⟩ := loop l.length 0 (l.length + 2) [s, .fn (.func g) first cap, .v (.int .i64 0), .v undef, .v (.int .i64 l.length), .v (.int .i64 0), .v undef, .v undef] (by omega) (by omega) rfl
  rw [List.drop_zero] at h1 h2
  refine callW_code (c := indexC agg sz) hF rfl (l.length + 2) ?_
  have body : exec (callW F) (l.length + 2) (indexC agg sz).body (start (indexC agg sz) [s, .fn (.func g) first cap]) H = thn (callW F) (l.length + 2) (.seq (.region [] [] [⟨(.mov (.k (.int .i64 (-1)))), (some 2), none⟩]) .ret) (blk 0 (loopN (exec (callW F) (l.length + 2) (indexB agg sz)) [true, true, false, false, true, true, false, false] (l.length + 2) [s, .fn (.func g) first cap, .v (.int .i64 0), .v undef, .v (.int .i64 l.length), .v (.int .i64 0), .v undef, .v undef] H)) := by
    rw [show (indexC agg sz).body = .seq (.region [] [] [⟨(.mov (.k (.int .i64 0))), (some 2), none⟩]) (.seq (.seq (.region [] [] [⟨(.mov (.var 0)), none, none⟩, ⟨(.len .slice (.loc 0)), (some 4), none⟩, ⟨(.mov (.k (.int .i64 0))), (some 5), none⟩]) (.block 0 (.loop [true, true, false, false, true, true, false, false] [] (indexB agg sz)))) (.seq (.region [] [] [⟨(.mov (.k (.int .i64 (-1)))), (some 2), none⟩]) .ret)) from rfl]
    rw [show start (indexC agg sz) [s, .fn (.func g) first cap] = [s, .fn (.func g) first cap, .v undef, .v undef, .v undef, .v undef, .v undef, .v undef] from rfl]
    generalize indexB agg sz = bb
    simp only [hlen, run_nil, run_cons, stp_plain, stp_guard, put_some, pass_eq, pick_tt, pick_ff, pick_tf, pick_ft, pick_u, reg_some, thn_normal, thn_exit, thn_ret, cnd_t, cnd_f, blk_normal, blk_ret, blk_exit, x_seq, x_region, x_cond, x_block, x_loop, x_ret, x_exit, x_skip, e_mov, e_pick, pk_t, pk_f, withH_some, e_box, bx_some, e_load, e_store, stH_some, e_nil, e_bin, e_eqv, eqH_f, eqH_t, e_un, e_fa, e_ia, ia_eq, nat_eq, natV_nat, e_len, lnH_some, e_extract, ex_0, ex_1, e_call0, e_call1, e_call2, e_call3, pc0_eq, pc1_some, pc2_some, pc3_some, fin_some, g_var0, g_vars, g_loc0, g_locs, g_int, g_bool, g_str, g_sl, s_none, s_zero, s_succ, cl_nil, cl_str, cl_bool, cl_slc, cl_own, evFa, evNil, asEl, evBin, intBin, strBin, evUn, len_nil, len_slc, len_str, clr, List.length_nil, List.length_cons, List.getElem?_cons_zero, List.getElem?_cons_succ, Nat.reduceAdd, Nat.zero_add, Nat.add_zero, Nat.reduceLeDiff, Nat.reduceSub, ↓reduceIte, List.drop_succ_cons, List.drop_zero, List.take_succ_cons, List.take_zero, Bool.false_eq_true, List.nil_append, List.cons_append, Bool.not_true, Bool.not_false, cond_true, cond_false, bne, lv_ret, lv_normal, res1, res2, lv2_some, res_var, res_cell, lvf_v, lvf_slc, res1c, lvo1_some, e_mm, mm_max, mm_min]
  rw [body, h1]
  have lvv : ∀ (n : Int), leave H.length (indexC agg sz) (some (.ret, [v'.getD 0 .junk, v'.getD 1 .junk, .v (.int .i64 n), v'.getD 3 .junk, v'.getD 4 .junk, v'.getD 5 .junk, v'.getD 6 .junk, v'.getD 7 .junk], H)) = some (.v (.int .i64 n), H) := by
    intro n
    simp [leave, indexC, resOf, pack, AV.frz2, AV.frz1, AV.frz0]
    simpa using hH
  match v', h3, h2 with
  | [x0, x1, x2, x3, x4, x5, x6, x7], _, h2 =>
    by_cases hn : firstAt p l 0 = -1
    · rw [if_pos hn]
      simp only [blk_exit, thn_normal, run_nil, run_cons, stp_plain, stp_guard, put_some, pass_eq, pick_tt, pick_ff, pick_tf, pick_ft, pick_u, reg_some, thn_normal, thn_exit, thn_ret, cnd_t, cnd_f, blk_normal, blk_ret, blk_exit, x_seq, x_region, x_cond, x_block, x_loop, x_ret, x_exit, x_skip, e_mov, e_pick, pk_t, pk_f, withH_some, e_box, bx_some, e_load, e_store, stH_some, e_nil, e_bin, e_eqv, eqH_f, eqH_t, e_un, e_fa, e_ia, ia_eq, nat_eq, natV_nat, e_len, lnH_some, e_extract, ex_0, ex_1, e_call0, e_call1, e_call2, e_call3, pc0_eq, pc1_some, pc2_some, pc3_some, fin_some, g_var0, g_vars, g_loc0, g_locs, g_int, g_bool, g_str, g_sl, s_none, s_zero, s_succ, cl_nil, cl_str, cl_bool, cl_slc, cl_own, evFa, evNil, asEl, evBin, intBin, strBin, evUn, len_nil, len_slc, len_str, clr, List.length_nil, List.length_cons, List.getElem?_cons_zero, List.getElem?_cons_succ, Nat.reduceAdd, Nat.zero_add, Nat.add_zero, Nat.reduceLeDiff, Nat.reduceSub, ↓reduceIte, List.drop_succ_cons, List.drop_zero, List.take_succ_cons, List.take_zero, Bool.false_eq_true, List.nil_append, List.cons_append, Bool.not_true, Bool.not_false, cond_true, cond_false, bne, lv_ret, lv_normal, res1, res2, lv2_some, res_var, res_cell, lvf_v, lvf_slc, res1c, lvo1_some, e_mm, mm_max, mm_min]
      rw [hn]
      exact lvv (-1)
    · rw [if_neg hn]
      simp only [blk_ret, thn_ret]
      have := h2 hn
      simp only [g_vars, g_var0] at this
      subst this
      exact lvv _

/-! ### Slices of slices -/
def slo (d : Nat) : Option (Option Nat) → Option Nat
  | none => some d
  | some r => r
def slV (h : List AO) (sz : Nat) (lo hi : Option (Option Nat)) : AV → Option AV
  | .v (.slice none 0 0) => match slo 0 hi, slo 0 lo with
    | some h, some l => if l ≤ h ∧ h ≤ 0 then some (.v (.slice none 0 0)) else none
    | _, _ => none
  | .slc sz' ex nn xs => if sz' = sz then match slo xs.length hi, slo 0 lo with
      | some h, some l => if l ≤ h ∧ h ≤ xs.length then some (.slc sz (ex && h == xs.length) nn ((xs.drop l).take (h - l))) else none
      | _, _ => none
    else none
  | .own sz' id ver off n => if sz' = sz then match rowAt h sz id ver (off + n), slo n hi, slo 0 lo with
      | some _, some h', some l => if l ≤ h' ∧ h' ≤ n then some (.own sz id ver (off + l) (h' - l)) else none
      | _, _, _ => none
    else none
  | _ => none
theorem slo_opt {vars env : List AV} {d : Nat} {x : Option Opd} : optN vars env d x = slo d (x.map (natO vars env)) := by cases x <;> rfl
theorem e_slice2 {call : CallF} {vars env : List AV} {h : List AO} {sz : Nat} {x : Opd} {lo hi : Option Opd} : evOp call vars env h (.slice sz x lo hi none) = withH h (slV h sz (lo.map (natO vars env)) (hi.map (natO vars env)) (getO vars env x)) := by
  simp only [evOp, map_withH]
  congr 1
  generalize getO vars env x = y
  cases y with
  | v x =>
    cases x with
    | slice a n c =>
      cases a with
      | some a => rfl
      | none =>
        cases n with
        | succ n => rfl
        | zero =>
          cases c with
          | succ c => rfl
          | zero =>
            simp only [evSlice, slV, bounds, slo_opt]
            cases slo 0 (hi.map (natO vars env)) <;> cases slo 0 (lo.map (natO vars env)) <;> simp
            split <;> simp
    | _ => rfl
  | slc sz' ex nn xs =>
    simp only [evSlice, slV, bounds, slo_opt]
    by_cases hs : sz' = sz
    · rw [if_pos hs, if_pos hs]
      cases slo xs.length (hi.map (natO vars env)) <;> cases slo 0 (lo.map (natO vars env)) <;> simp
      split <;> simp
    · rw [if_neg hs, if_neg hs]
  | own sz' id ver off n =>
    simp only [evSlice, slV, bounds, slo_opt]
    by_cases hs : sz' = sz
    · rw [if_pos hs, if_pos hs]
      cases hra : rowAt h sz id ver (off + n) with
      | none => simp
      | some r =>
        cases slo n (hi.map (natO vars env)) <;> cases slo 0 (lo.map (natO vars env)) <;> simp
        split <;> simp
    · rw [if_neg hs, if_neg hs]
  | _ => rfl
theorem e_clrrow {call : CallF} {vars env : List AV} {h : List AO} {sz : Nat} {zero : List Value} {x : Opd} : evOp call vars env h (.clrrow sz zero x) = stH (evClr h sz zero (getO vars env x)) := by
  simp only [evOp]; cases evClr h sz zero (getO vars env x) <;> rfl

/-! ### DeleteFunc -/
def delV (agg : Bool) (sz : Nat) (zero : List Value) : List CO := match agg with
  | false => [⟨(.mov (.var 0)), none, none⟩, ⟨(.mov (.var 4)), none, none⟩, ⟨(.ia sz (.loc 1) (.loc 0)), none, none⟩, ⟨(.load false sz (.loc 0)), none, none⟩, ⟨(.mov (.loc 0)), (some 5), none⟩]
  | true => [⟨(.mov (.var 0)), none, none⟩, ⟨(.mov (.var 4)), none, none⟩, ⟨(.ia sz (.loc 1) (.loc 0)), none, none⟩, ⟨(.load true sz (.loc 0)), none, none⟩, ⟨(.box (.k (.agg zero.toArray))), (some 5), none⟩, ⟨(.store sz (.var 5) (.loc 1)), none, none⟩]
def delT (agg : Bool) (sz : Nat) : List CO := match agg with
  | false => [⟨(.mov (.var 1)), none, none⟩, ⟨(.mov (.var 5)), none, none⟩, ⟨(.callv (.loc 1) [(.loc 0)]), none, none⟩, ⟨(.un .not (.loc 0)), (some 8), none⟩]
  | true => [⟨(.mov (.var 1)), none, none⟩, ⟨(.load true sz (.var 5)), none, none⟩, ⟨(.callv (.loc 1) [(.loc 0)]), none, none⟩, ⟨(.un .not (.loc 0)), (some 8), none⟩]
def delP (agg : Bool) (sz : Nat) : List CO := match agg with
  | false => [⟨(.mov (.var 0)), none, none⟩, ⟨(.mov (.var 3)), none, none⟩, ⟨(.mov (.var 5)), none, none⟩, ⟨(.ia sz (.loc 2) (.loc 1)), none, none⟩, ⟨(.store sz (.loc 0) (.loc 1)), none, none⟩]
  | true => [⟨(.mov (.var 0)), none, none⟩, ⟨(.mov (.var 3)), none, none⟩, ⟨(.load true sz (.var 5)), none, none⟩, ⟨(.ia sz (.loc 2) (.loc 1)), none, none⟩, ⟨(.store sz (.loc 0) (.loc 1)), none, none⟩]
def delB (agg : Bool) (sz : Nat) (zero : List Value) : CC := (.seq (.seq (.region [] [] [⟨(.mov (.var 4)), none, none⟩,
  ⟨(.mov (.var 0)), none, none⟩,
  ⟨(.len .slice (.loc 0)), none, none⟩,
  ⟨(.bin .lss (.loc 2) (.loc 0)), (some 7), none⟩]) (.cond (.var 7) .skip (.exit 0))) (.seq (.block 1 (.seq (.region [] [] (delV agg sz zero)) (.seq (.region [] [] (delT agg sz)) (.cond (.var 8) (.seq (.region [] [] (delP agg sz)) (.region [] [] [⟨(.mov (.var 3)), none, none⟩,
  ⟨(.bin .add (.loc 0) (.k (.int .i64 1))), none, none⟩,
  ⟨(.mov (.loc 0)), (some 3), none⟩])) .skip)))) (.region [] [] [⟨(.mov (.var 4)), none, none⟩,
  ⟨(.bin .add (.loc 0) (.k (.int .i64 1))), none, none⟩,
  ⟨(.mov (.loc 0)), (some 4), none⟩])))
def delE (sz : Nat) (zero : List Value) : CC := (.seq (.region [] [] [⟨(.mov (.var 0)), none, none⟩,
  ⟨(.mov (.var 3)), none, none⟩,
  ⟨(.slice sz (.loc 1) (some (.loc 0)) none none), none, none⟩,
  ⟨(.clrrow sz zero (.loc 0)), none, none⟩]) (.seq (.region [] [] [⟨(.mov (.var 0)), none, none⟩,
  ⟨(.mov (.var 3)), none, none⟩,
  ⟨(.slice sz (.loc 1) none (some (.loc 0)) none), none, none⟩,
  ⟨(.mov (.loc 0)), (some 2), none⟩]) .ret))
def delK : List Bool := [true, true, false, true, true, false, false, false, false]
def deleteC (agg : Bool) (sz : Nat) (zero : List Value) (fi : FuncId) : CFun :=
  ⟨2, 9, (.seq (.region [] [] [⟨(.mov (.k (.slice none 0 0))), (some 2), none⟩]) (.seq (.region [] [] [⟨(.mov (.var 0)), none, none⟩,
  ⟨(.mov (.var 1)), none, none⟩,
  ⟨(.call false fi [(.loc 1), (.loc 0)]), none, none⟩,
  ⟨(.mov (.loc 0)), (some 3), none⟩]) (.seq (.seq (.region [] [] [⟨(.mov (.var 3)), none, none⟩,
  ⟨(.bin .eql (.loc 0) (.k (.int .i64 (-1)))), (some 6), none⟩]) (.cond (.var 6) (.seq (.region [] [] [⟨(.mov (.var 0)), none, none⟩,
  ⟨(.mov (.loc 0)), (some 2), none⟩]) .ret) .skip)) (.seq (.seq (.region [] [] [⟨(.mov (.var 3)), none, none⟩,
  ⟨(.bin .add (.loc 0) (.k (.int .i64 1))), none, none⟩,
  ⟨(.mov (.loc 0)), (some 4), none⟩]) (.block 0 (.loop [true, true, false, true, true, false, false, false, false] [] (delB agg sz zero)))) (delE sz zero))))), [.var 2]⟩

def rowH (H : List AO) (id sz ver : Nat) (L : List AV) : List AO := H.set id (.row sz ver L 0)
section
variable {f : FuncId} {id ver : Nat} {L : List AV} {zero : List Value} {G : List AO}
theorem rowH_len : (rowH H id sz ver L).length = H.length := by simp [rowH]
theorem rowH_get (hid : id < H.length) : (rowH H id sz ver L ++ G)[id]? = some (.row sz ver L 0) := his_get (by simp [rowH, hid])
theorem rowH_set (hid : id < H.length) {L' : List AV} : (rowH H id sz ver L ++ G).set id (.row sz ver L' 0) = rowH H id sz ver L' ++ G := by
  rw [List.set_append_left _ _ (by rw [rowH_len]; exact hid)]; simp [rowH]
theorem rowH_below (hH : H.all (AO.below H.length) = true) (hG : G.all (AO.below 0) = true) : (rowH H id sz ver L ++ G).all (AO.below (rowH H id sz ver L ++ G).length) = true := by
  rw [List.all_append, Bool.and_eq_true]
  constructor
  · refine all_below_mono (n := H.length) (by simp [rowH_len]) ?_
    have := set_below (id := id) (sz := sz) (ver := ver) (l := L) (k := 0) hH
    rw [List.length_set] at this
    exact this
  · exact all_below_mono (Nat.zero_le _) hG

theorem del_step (hid : id < H.length) (hH : H.all (AO.below H.length) = true) {K : Nat} {i j n : Nat} {e : AV} {w : Bool} (he : L[j]? = some e) (hn : L.length = n) (hij : i < j) (hm : n ≤ maxLen) (hE : ∀ x ∈ L, El agg sz x) (hz : (ofVal (.agg zero.toArray)).cl = some (toL zero) ∧ zero.length = sz) (hG : G.all (AO.below 0) = true)
    (hp : ∀ h : List AO, h.all (AO.below h.length) = true → callW F g (first ++ [e] ++ cap) h = some (.v (.bool w), h)) :
    ∃ v' G', exec (callW F) K (delB agg sz zero) [.own sz id ver 0 n, .fn (.func g) first cap, .junk, .v (.int .i64 i), .v (.int .i64 j), .junk, .junk, .junk, .junk] (rowH H id sz ver L ++ G) = some (.normal, v', rowH H id sz ver (if w then L else L.set i e) ++ G') ∧ G'.all (AO.below 0) = true ∧
      clr delK v' = [.own sz id ver 0 n, .fn (.func g) first cap, .junk, .v (.int .i64 (if w then i else i + 1 : Nat)), .v (.int .i64 ((j + 1 : Nat) : Int)), .junk, .junk, .junk, .junk] := by
  have hjn : j < n := by have := (List.getElem?_eq_some_iff.1 he).1; omega
  have hr : ∀ G : List AO, (rowH H id sz ver L ++ G)[id]? = some (.row sz ver L 0) := fun G => rowH_get hid
  have hlt : decide ((j : Int) < (n : Int)) = true := by simp; omega
  have q0 : ∀ G, evLen (rowH H id sz ver L ++ G) .slice (.own sz id ver 0 n) = some n := fun G => row_len (hr G) (by omega)
  have q1 : ∀ G, iaV (rowH H id sz ver L ++ G) sz (.own sz id ver 0 n) (some j) = some (.ep sz id ver j 0) := fun G => row_ia (hr G) (by omega) hjn
  have q2 : ∀ G, iaV (rowH H id sz ver L ++ G) sz (.own sz id ver 0 n) (some i) = some (.ep sz id ver i 0) := fun G => row_ia (hr G) (by omega) (by omega)
  have hEe := hE e (List.mem_of_getElem? he)
  have q3 : ∀ G, evLoad (rowH H id sz ver L ++ G) agg sz (.ep sz id ver j 0) = some e := fun G => row_ld (hr G) he hEe
  have hi : L[i]? = some L[i] := List.getElem?_eq_getElem (by omega)
  have q4 : ∀ G, evStore (rowH H id sz ver L ++ G) sz (.ep sz id ver i 0) e = some (rowH H id sz ver (L.set i e) ++ G) := fun G => by
    rw [row_st (hr G) hi (hE _ (List.getElem_mem _)) hEe, rowH_set hid]
  have hwi : IntKind.i64.wrap ((i : Int) + 1) = ((i + 1 : Nat) : Int) := wrap_succ (show i < n by omega) hm
  have hwj : IntKind.i64.wrap ((j : Int) + 1) = ((j + 1 : Nat) : Int) := wrap_succ hjn hm
  have hp' : ∀ G : List AO, G.all (AO.below 0) = true → callW F g (first ++ [e] ++ cap) (rowH H id sz ver L ++ G) = some (.v (.bool w), rowH H id sz ver L ++ G) := fun G hG => hp _ (rowH_below hH hG)
  cases agg with
  | false =>
    have hc := hp' G hG
    cases w with
    | true =>
      refine ⟨[.own sz id ver 0 n, .fn (.func g) first cap, .junk, .v (.int .i64 i), .v (.int .i64 ((j + 1 : Nat) : Int)), e, .junk, .v (.bool true), .v (.bool false)], G, ?_, hG, rfl⟩
      simp only [delB, delV, delT, delP, hlt, q0, q1, q2, q3, q4, e_callv1, cv1_fn, hc, hwj, e_bslice1, e_bslice2, bs1, bs2, e_build, bdH_some, bd_nil, bd_cons, bd1, cl_agg, cl_int, toL, List.map_cons, List.map_nil, putAt, List.set_cons_zero, List.set_cons_succ, and_self, Nat.le_refl, app_get, app_set, g_agg, run_nil, run_cons, stp_plain, stp_guard, put_some, pass_eq, pick_tt, pick_ff, pick_tf, pick_ft, pick_u, reg_some, thn_normal, thn_exit, thn_ret, cnd_t, cnd_f, blk_normal, blk_ret, blk_exit, x_seq, x_region, x_cond, x_block, x_loop, x_ret, x_exit, x_skip, e_mov, e_pick, pk_t, pk_f, withH_some, e_box, bx_some, e_load, e_store, stH_some, e_nil, e_bin, e_eqv, eqH_f, eqH_t, e_un, e_fa, e_ia, ia_eq, nat_eq, natV_nat, e_len, lnH_some, e_extract, ex_0, ex_1, e_call0, e_call1, e_call2, e_call3, pc0_eq, pc1_some, pc2_some, pc3_some, fin_some, g_var0, g_vars, g_loc0, g_locs, g_int, g_bool, g_str, g_sl, s_none, s_zero, s_succ, cl_nil, cl_str, cl_bool, cl_slc, cl_own, evFa, evNil, asEl, evBin, intBin, strBin, evUn, len_nil, len_slc, len_str, clr, List.length_nil, List.length_cons, List.getElem?_cons_zero, List.getElem?_cons_succ, Nat.reduceAdd, Nat.zero_add, Nat.add_zero, Nat.reduceLeDiff, Nat.reduceSub, ↓reduceIte, List.drop_succ_cons, List.drop_zero, List.take_succ_cons, List.take_zero, Bool.false_eq_true, List.nil_append, List.cons_append, Bool.not_true, Bool.not_false, cond_true, cond_false, bne, lv_ret, lv_normal, res1, res2, lv2_some, res_var, res_cell, lvf_v, lvf_slc, res1c, lvo1_some, e_mm, mm_max, mm_min]
    | false =>
      refine ⟨[.own sz id ver 0 n, .fn (.func g) first cap, .junk, .v (.int .i64 ((i + 1 : Nat) : Int)), .v (.int .i64 ((j + 1 : Nat) : Int)), e, .junk, .v (.bool true), .v (.bool true)], G, ?_, hG, rfl⟩
      simp only [delB, delV, delT, delP, hlt, q0, q1, q2, q3, q4, e_callv1, cv1_fn, hc, hwi, hwj, e_bslice1, e_bslice2, bs1, bs2, e_build, bdH_some, bd_nil, bd_cons, bd1, cl_agg, cl_int, toL, List.map_cons, List.map_nil, putAt, List.set_cons_zero, List.set_cons_succ, and_self, Nat.le_refl, app_get, app_set, g_agg, run_nil, run_cons, stp_plain, stp_guard, put_some, pass_eq, pick_tt, pick_ff, pick_tf, pick_ft, pick_u, reg_some, thn_normal, thn_exit, thn_ret, cnd_t, cnd_f, blk_normal, blk_ret, blk_exit, x_seq, x_region, x_cond, x_block, x_loop, x_ret, x_exit, x_skip, e_mov, e_pick, pk_t, pk_f, withH_some, e_box, bx_some, e_load, e_store, stH_some, e_nil, e_bin, e_eqv, eqH_f, eqH_t, e_un, e_fa, e_ia, ia_eq, nat_eq, natV_nat, e_len, lnH_some, e_extract, ex_0, ex_1, e_call0, e_call1, e_call2, e_call3, pc0_eq, pc1_some, pc2_some, pc3_some, fin_some, g_var0, g_vars, g_loc0, g_locs, g_int, g_bool, g_str, g_sl, s_none, s_zero, s_succ, cl_nil, cl_str, cl_bool, cl_slc, cl_own, evFa, evNil, asEl, evBin, intBin, strBin, evUn, len_nil, len_slc, len_str, clr, List.length_nil, List.length_cons, List.getElem?_cons_zero, List.getElem?_cons_succ, Nat.reduceAdd, Nat.zero_add, Nat.add_zero, Nat.reduceLeDiff, Nat.reduceSub, ↓reduceIte, List.drop_succ_cons, List.drop_zero, List.take_succ_cons, List.take_zero, Bool.false_eq_true, List.nil_append, List.cons_append, Bool.not_true, Bool.not_false, cond_true, cond_false, bne, lv_ret, lv_normal, res1, res2, lv2_some, res_var, res_cell, lvf_v, lvf_slc, res1c, lvo1_some, e_mm, mm_max, mm_min]
  | true =>
    have hG' : (G ++ [AO.box e.cells]).all (AO.below 0) = true := by
      rw [List.all_append, hG]; simpa using hEe.bel
    have hc := hp' _ hG'
    rw [← List.append_assoc] at hc
    have b1 : ∀ (h : List AO), bx h (some (toL zero)) = some (.ptr h.length 0, h ++ [.box (toL zero)]) := fun _ => rfl
    have s1 : ∀ h : List AO, evStore (h ++ [.box (toL zero)]) sz (.ptr h.length 0) e = some (h ++ [.box e.cells]) := fun h => st_new hEe.cl hEe.len (by simpa [toL] using hz.2)
    have l1 : ∀ h : List AO, evLoad (h ++ [.box e.cells]) true sz (.ptr h.length 0) = some e := fun h => by
      rw [ld_new, if_pos (by rw [hEe.len]; omega), List.drop_zero, List.take_of_length_le (by rw [hEe.len]; exact Nat.le_refl _)]
      exact hEe.el
    have q2' := q2 (G ++ [.box e.cells])
    have q4' : evStore (rowH H id sz ver L ++ G ++ [.box e.cells]) sz (.ep sz id ver i 0) e = some (rowH H id sz ver (L.set i e) ++ G ++ [.box e.cells]) := by
      rw [List.append_assoc, List.append_assoc]; exact q4 _
    rw [← List.append_assoc] at q2'
    have hz1 := hz.1
    cases w with
    | true =>
      refine ⟨[.own sz id ver 0 n, .fn (.func g) first cap, .junk, .v (.int .i64 i), .v (.int .i64 ((j + 1 : Nat) : Int)), .ptr (rowH H id sz ver L ++ G).length 0, .junk, .v (.bool true), .v (.bool false)], G ++ [.box e.cells], ?_, hG', rfl⟩
      rw [← List.append_assoc]
      simp only [delB, delV, delT, delP, hlt, q0, q1, q2', q3, q4', e_callv1, cv1_fn, hc, hwj, hz1, b1, s1, l1, g_agg, run_nil, run_cons, stp_plain, stp_guard, put_some, pass_eq, pick_tt, pick_ff, pick_tf, pick_ft, pick_u, reg_some, thn_normal, thn_exit, thn_ret, cnd_t, cnd_f, blk_normal, blk_ret, blk_exit, x_seq, x_region, x_cond, x_block, x_loop, x_ret, x_exit, x_skip, e_mov, e_pick, pk_t, pk_f, withH_some, e_box, e_load, e_store, stH_some, e_nil, e_bin, e_eqv, eqH_f, eqH_t, e_un, e_fa, e_ia, ia_eq, nat_eq, natV_nat, e_len, lnH_some, e_extract, ex_0, ex_1, e_call0, e_call1, e_call2, e_call3, pc0_eq, pc1_some, pc2_some, pc3_some, fin_some, g_var0, g_vars, g_loc0, g_locs, g_int, g_bool, g_str, g_sl, s_none, s_zero, s_succ, cl_nil, cl_str, cl_bool, cl_slc, cl_own, evFa, evNil, asEl, evBin, intBin, strBin, evUn, len_nil, len_slc, len_str, clr, List.length_nil, List.length_cons, List.getElem?_cons_zero, List.getElem?_cons_succ, Nat.reduceAdd, Nat.zero_add, Nat.add_zero, Nat.reduceLeDiff, Nat.reduceSub, ↓reduceIte, List.drop_succ_cons, List.drop_zero, List.take_succ_cons, List.take_zero, Bool.false_eq_true, List.nil_append, List.cons_append, Bool.not_true, Bool.not_false, cond_true, cond_false, bne, lv_ret, lv_normal, res1, res2, lv2_some, res_var, res_cell, lvf_v, lvf_slc, res1c, lvo1_some, e_mm, mm_max, mm_min]
    | false =>
      refine ⟨[.own sz id ver 0 n, .fn (.func g) first cap, .junk, .v (.int .i64 ((i + 1 : Nat) : Int)), .v (.int .i64 ((j + 1 : Nat) : Int)), .ptr (rowH H id sz ver L ++ G).length 0, .junk, .v (.bool true), .v (.bool true)], G ++ [.box e.cells], ?_, hG', rfl⟩
      rw [← List.append_assoc]
      simp only [delB, delV, delT, delP, hlt, q0, q1, q2', q3, q4', e_callv1, cv1_fn, hc, hwi, hwj, hz1, b1, s1, l1, g_agg, run_nil, run_cons, stp_plain, stp_guard, put_some, pass_eq, pick_tt, pick_ff, pick_tf, pick_ft, pick_u, reg_some, thn_normal, thn_exit, thn_ret, cnd_t, cnd_f, blk_normal, blk_ret, blk_exit, x_seq, x_region, x_cond, x_block, x_loop, x_ret, x_exit, x_skip, e_mov, e_pick, pk_t, pk_f, withH_some, e_box, e_load, e_store, stH_some, e_nil, e_bin, e_eqv, eqH_f, eqH_t, e_un, e_fa, e_ia, ia_eq, nat_eq, natV_nat, e_len, lnH_some, e_extract, ex_0, ex_1, e_call0, e_call1, e_call2, e_call3, pc0_eq, pc1_some, pc2_some, pc3_some, fin_some, g_var0, g_vars, g_loc0, g_locs, g_int, g_bool, g_str, g_sl, s_none, s_zero, s_succ, cl_nil, cl_str, cl_bool, cl_slc, cl_own, evFa, evNil, asEl, evBin, intBin, strBin, evUn, len_nil, len_slc, len_str, clr, List.length_nil, List.length_cons, List.getElem?_cons_zero, List.getElem?_cons_succ, Nat.reduceAdd, Nat.zero_add, Nat.add_zero, Nat.reduceLeDiff, Nat.reduceSub, ↓reduceIte, List.drop_succ_cons, List.drop_zero, List.take_succ_cons, List.take_zero, Bool.false_eq_true, List.nil_append, List.cons_append, Bool.not_true, Bool.not_false, cond_true, cond_false, bne, lv_ret, lv_normal, res1, res2, lv2_some, res_var, res_cell, lvf_v, lvf_slc, res1c, lvo1_some, e_mm, mm_max, mm_min]

/-- what is kept of the first j -/
def kept (p : AV → Bool) (l : List AV) (j : Nat) : List AV := (l.take j).filter (fun x => !p x)
theorem kept_succ {p : AV → Bool} {l : List AV} {j : Nat} {e : AV} (he : l[j]? = some e) : kept p l (j + 1) = if p e then kept p l j else kept p l j ++ [e] := by
  have : l.take (j + 1) = l.take j ++ [e] := by rw [List.take_add_one, he]; rfl
  simp only [kept, this, List.filter_append, List.filter_cons, List.filter_nil]
  cases p e <;> simp
theorem del_loop (hid : id < H.length) (hH : H.all (AO.below H.length) = true) {K n : Nat} {l : List AV} (hn : l.length = n) (hm : n ≤ maxLen) (hE : ∀ x ∈ l, El agg sz x) (hz : (ofVal (.agg zero.toArray)).cl = some (toL zero) ∧ zero.length = sz)
    (hp : ∀ e ∈ l, ∀ h : List AO, h.all (AO.below h.length) = true → callW F g (first ++ [e] ++ cap) h = some (.v (.bool (p e)), h)) :
    ∀ (d j m : Nat) (L : List AV) (G : List AO) (v : List AV), j + d = n → d < m → (kept p l j).length < j → L.length = n → L.take (kept p l j).length = kept p l j → L.drop j = l.drop j → G.all (AO.below 0) = true → (∀ x ∈ L, El agg sz x) →
      clr delK v = [.own sz id ver 0 n, .fn (.func g) first cap, .junk, .v (.int .i64 (kept p l j).length), .v (.int .i64 j), .junk, .junk, .junk, .junk] →
      ∃ v' L' G', loopN (exec (callW F) K (delB agg sz zero)) delK m v (rowH H id sz ver L ++ G) = some (.exit 0, v', rowH H id sz ver L' ++ G') ∧ L'.length = n ∧ L'.take (kept p l n).length = kept p l n ∧ G'.all (AO.below 0) = true ∧ (∀ x ∈ L', El agg sz x) ∧
        clr delK v' = [.own sz id ver 0 n, .fn (.func g) first cap, .junk, .v (.int .i64 (kept p l n).length), .v (.int .i64 n), .junk, .junk, .junk, .junk] ∧ v'.length = 9 := by
  intro d
  induction d with
  | zero =>
    intro j m L G v hj hdm hkl hL ht hdr hG hEL hv
    obtain ⟨m, rfl⟩ : ∃ k, m = k + 1 := ⟨m - 1, by omega⟩
    have hj' : j = n := by omega
    subst hj'
    have hlt : decide ((j : Int) < (j : Int)) = false := by simp
    have q0 : ∀ G, evLen (rowH H id sz ver L ++ G) .slice (.own sz id ver 0 j) = some j := fun G => row_len (rowH_get hid) (by omega)
    refine ⟨[.own sz id ver 0 j, .fn (.func g) first cap, .junk, .v (.int .i64 (kept p l j).length), .v (.int .i64 j), .junk, .junk, .v (.bool false), .junk], L, G, loop_exit ?_, hL, ht, hG, hEL, rfl, rfl⟩
    rw [hv]
    generalize delV agg sz zero = a1
    generalize delT agg sz = a2
    generalize delP agg sz = a3
    simp only [delB, hlt, q0, run_nil, run_cons, stp_plain, stp_guard, put_some, pass_eq, pick_tt, pick_ff, pick_tf, pick_ft, pick_u, reg_some, thn_normal, thn_exit, thn_ret, cnd_t, cnd_f, blk_normal, blk_ret, blk_exit, x_seq, x_region, x_cond, x_block, x_loop, x_ret, x_exit, x_skip, e_mov, e_pick, pk_t, pk_f, withH_some, e_box, bx_some, e_load, e_store, stH_some, e_nil, e_bin, e_eqv, eqH_f, eqH_t, e_un, e_fa, e_ia, ia_eq, nat_eq, natV_nat, e_len, lnH_some, e_extract, ex_0, ex_1, e_call0, e_call1, e_call2, e_call3, pc0_eq, pc1_some, pc2_some, pc3_some, fin_some, g_var0, g_vars, g_loc0, g_locs, g_int, g_bool, g_str, g_sl, s_none, s_zero, s_succ, cl_nil, cl_str, cl_bool, cl_slc, cl_own, evFa, evNil, asEl, evBin, intBin, strBin, evUn, len_nil, len_slc, len_str, clr, List.length_nil, List.length_cons, List.getElem?_cons_zero, List.getElem?_cons_succ, Nat.reduceAdd, Nat.zero_add, Nat.add_zero, Nat.reduceLeDiff, Nat.reduceSub, ↓reduceIte, List.drop_succ_cons, List.drop_zero, List.take_succ_cons, List.take_zero, Bool.false_eq_true, List.nil_append, List.cons_append, Bool.not_true, Bool.not_false, cond_true, cond_false, bne, lv_ret, lv_normal, res1, res2, lv2_some, res_var, res_cell, lvf_v, lvf_slc, res1c, lvo1_some, e_mm, mm_max, mm_min]
  | succ d ih =>
    intro j m L G v hj hdm hkl hL ht hdr hG hEL hv
    obtain ⟨m, rfl⟩ : ∃ k, m = k + 1 := ⟨m - 1, by omega⟩
    have hjl : j < l.length := by omega
    have hel : l[j]? = some l[j] := List.getElem?_eq_getElem hjl
    have heL : L[j]? = some l[j] := by
      have h1 : (L.drop j)[0]? = (l.drop j)[0]? := by rw [hdr]
      simpa [hjl] using h1
    have hmem : l[j] ∈ l := List.getElem_mem hjl
    obtain ⟨v', G', st, hG', hv'⟩ := del_step (F := F) (g := g) (first := first) (cap := cap) (agg := agg) (sz := sz) (ver := ver) (zero := zero) (K := K) (w := p l[j]) hid hH heL hL hkl hm hEL hz hG (hp _ hmem)
    rw [loop_normal (by rw [hv]; exact st)]
    have hks := kept_succ (p := p) hel
    cases hpe : p l[j] with
    | true =>
      rw [hpe] at hks hv'
      simp only [if_true] at hks hv' ⊢
      rw [← hks] at hv' ht
      rw [← hks] at hkl
      exact ih (j + 1) m L G' v' (by omega) (by omega) (by omega) hL ht (by rw [← List.drop_drop, hdr, List.drop_drop]) hG' hEL hv'
    | false =>
      rw [hpe] at hks hv'
      simp only [Bool.false_eq_true, if_false] at hks hv' ⊢
      have hkl1 : (kept p l (j + 1)).length = (kept p l j).length + 1 := by rw [hks]; simp
      rw [← hkl1] at hv'
      refine ih (j + 1) m _ G' v' (by omega) (by omega) (by omega) (by simpa using hL) ?_ ?_ hG' ?_ hv'
      · rw [hkl1, List.take_add_one, List.take_set, List.set_eq_of_length_le (by simp; omega), ht, List.getElem?_set_self (by omega), hks]; rfl
      · rw [List.drop_set_of_lt (by omega), ← List.drop_drop, hdr, List.drop_drop]
      · intro x hx
        rcases List.mem_or_eq_of_mem_set hx with h | rfl
        · exact hEL x h
        · exact hE _ hmem

theorem firstAt_cases (p : AV → Bool) : ∀ (l : List AV) (k : Nat), (firstAt p l k = -1 ∧ ∀ x ∈ l, p x = false) ∨ ∃ i x, firstAt p l k = ((k + i : Nat) : Int) ∧ l[i]? = some x ∧ p x = true ∧ ∀ y ∈ l.take i, p y = false
  | [], k => .inl ⟨rfl, fun x h => by simp at h⟩
  | x :: l, k => by
    cases hx : p x with
    | true => exact .inr ⟨0, x, by simp [firstAt, hx], rfl, hx, fun y h => by simp at h⟩
    | false =>
      rcases firstAt_cases p l (k + 1) with ⟨h1, h2⟩ | ⟨i, y, h1, h2, h3, h4⟩
      · refine .inl ⟨by simp [firstAt, hx, h1], fun y hy => ?_⟩
        rcases List.mem_cons.1 hy with rfl | hy
        · exact hx
        · exact h2 y hy
      · refine .inr ⟨i + 1, y, by simp [firstAt, hx, h1]; omega, by simpa using h2, h3, fun z hz => ?_⟩
        rcases List.mem_cons.1 (by simpa using hz) with rfl | hz
        · exact hx
        · exact h4 z hz
theorem e_callf2 {call : CallF} {vars env : List AV} {h : List AO} {f : FuncId} {x y : Opd} : evOp call vars env h (.call false f [x, y]) = call f [getO vars env x, getO vars env y] h := rfl
theorem delete_none (hF : F f = some (.code (deleteC agg sz zero fi))) (hFi : F fi = some (.code (indexC agg sz))) (hH : H.all (AO.below H.length) = true) {s : AV} {l : List AV} (hR : Rd H agg sz s l) (hm : l.length ≤ maxLen) (hfz : s.frz2 H.length H = some s)
    (hp : ∀ x ∈ l, callW F g (first ++ [x] ++ cap) H = some (.v (.bool (p x)), H)) (hno : ∀ x ∈ l, p x = false) : callW F f [s, .fn (.func g) first cap] H = some (s, H) := by
  have hi := index_run (first := first) (cap := cap) (p := p) hFi hH hR hm hp
  have h1 : firstAt p l 0 = -1 := by
    rcases firstAt_cases p l 0 with ⟨h1, _⟩ | ⟨i, e, h1, h2, h3, _⟩
    · exact h1
    · rw [hno e (List.mem_of_getElem? h2)] at h3; cases h3
  rw [h1] at hi
  have e1 : ((-1 : Int) == -1) = true := rfl
  refine callW_code (c := deleteC agg sz zero fi) hF rfl 1 ?_
  have start9 : start (deleteC agg sz zero fi) [s, .fn (.func g) first cap] = [s, .fn (.func g) first cap, .v undef, .v undef, .v undef, .v undef, .v undef, .v undef, .v undef] := rfl
  rw [start9]
  have hres : (deleteC agg sz zero fi).res = [.var 2] := rfl
  have hx : exec (callW F) 1 (deleteC agg sz zero fi).body [s, .fn (.func g) first cap, .v undef, .v undef, .v undef, .v undef, .v undef, .v undef, .v undef] H = some (.ret, [s, .fn (.func g) first cap, s, .v (.int .i64 (-1)), .v undef, .v undef, .v (.bool true), .v undef, .v undef], H) := by
    unfold deleteC
    generalize delB agg sz zero = bb
    generalize delE sz zero = ee
    simp only [hi, e1, e_callf2, run_nil, run_cons, stp_plain, stp_guard, put_some, pass_eq, pick_tt, pick_ff, pick_tf, pick_ft, pick_u, reg_some, thn_normal, thn_exit, thn_ret, cnd_t, cnd_f, blk_normal, blk_ret, blk_exit, x_seq, x_region, x_cond, x_block, x_loop, x_ret, x_exit, x_skip, e_mov, e_pick, pk_t, pk_f, withH_some, e_box, bx_some, e_load, e_store, stH_some, e_nil, e_bin, e_eqv, eqH_f, eqH_t, e_un, e_fa, e_ia, ia_eq, nat_eq, natV_nat, e_len, lnH_some, e_extract, ex_0, ex_1, e_call0, e_call1, e_call2, e_call3, pc0_eq, pc1_some, pc2_some, pc3_some, fin_some, g_var0, g_vars, g_loc0, g_locs, g_int, g_bool, g_str, g_sl, s_none, s_zero, s_succ, cl_nil, cl_str, cl_bool, cl_slc, cl_own, evFa, evNil, asEl, evBin, intBin, strBin, evUn, len_nil, len_slc, len_str, clr, List.length_nil, List.length_cons, List.getElem?_cons_zero, List.getElem?_cons_succ, Nat.reduceAdd, Nat.zero_add, Nat.add_zero, Nat.reduceLeDiff, Nat.reduceSub, ↓reduceIte, List.drop_succ_cons, List.drop_zero, List.take_succ_cons, List.take_zero, Bool.false_eq_true, List.nil_append, List.cons_append, Bool.not_true, Bool.not_false, cond_true, cond_false, bne, lv_ret, lv_normal, res1, res2, lv2_some, res_var, res_cell, lvf_v, lvf_slc, res1c, lvo1_some, e_mm, mm_max, mm_min]
  rw [hx]
  simp only [leave, hres, List.mapM_cons, List.mapM_nil, Option.pure_def, Option.bind_eq_bind, resOf, Option.bind_some, pack, List.getD_cons_succ, List.getD_cons_zero, hfz, List.take_length]
  rw [if_pos ⟨Nat.le_refl _, hH⟩]
theorem delete_run (hF : F f = some (.code (deleteC agg sz zero fi))) (hFi : F fi = some (.code (indexC agg sz))) (hH : H.all (AO.below H.length) = true) {l : List AV} (hr : H[id]? = some (.row sz ver l 0)) (hm : l.length ≤ maxLen) (hE : ∀ x ∈ l, El agg sz x) (hzE : El agg sz (zeroEl zero)) (hz : (ofVal (.agg zero.toArray)).cl = some (toL zero) ∧ zero.length = sz)
    (hp : ∀ e ∈ l, ∀ h : List AO, h.all (AO.below h.length) = true → callW F g (first ++ [e] ++ cap) h = some (.v (.bool (p e)), h)) :
    ∃ L', callW F f [.own sz id ver 0 l.length, .fn (.func g) first cap] H = some (.own sz id ver 0 (l.filter (fun x => !p x)).length, rowH H id sz ver L') ∧ L'.length = l.length ∧ L'.take (l.filter (fun x => !p x)).length = l.filter (fun x => !p x) ∧ ∀ x ∈ L', El agg sz x := by
  have hid := (List.getElem?_eq_some_iff.1 hr).1
  have hHr : rowH H id sz ver l = H := by
    have := (List.getElem?_eq_some_iff.1 hr).2
    unfold rowH; rw [← this]; exact List.set_getElem_self hid
  have hi := index_run (first := first) (cap := cap) (p := p) hFi hH (Rd.own hr hE) hm (fun x hx => hp x hx H hH)
  have start9 : start (deleteC agg sz zero fi) [.own sz id ver 0 l.length, .fn (.func g) first cap] = [.own sz id ver 0 l.length, .fn (.func g) first cap, .v undef, .v undef, .v undef, .v undef, .v undef, .v undef, .v undef] := rfl
  have bodyEq : (deleteC agg sz zero fi).body = (.seq (.region [] [] [⟨(.mov (.k (.slice none 0 0))), (some 2), none⟩]) (.seq (.region [] [] [⟨(.mov (.var 0)), none, none⟩,
    ⟨(.mov (.var 1)), none, none⟩,
    ⟨(.call false fi [(.loc 1), (.loc 0)]), none, none⟩,
    ⟨(.mov (.loc 0)), (some 3), none⟩]) (.seq (.seq (.region [] [] [⟨(.mov (.var 3)), none, none⟩,
    ⟨(.bin .eql (.loc 0) (.k (.int .i64 (-1)))), (some 6), none⟩]) (.cond (.var 6) (.seq (.region [] [] [⟨(.mov (.var 0)), none, none⟩,
    ⟨(.mov (.loc 0)), (some 2), none⟩]) .ret) .skip)) (.seq (.seq (.region [] [] [⟨(.mov (.var 3)), none, none⟩,
    ⟨(.bin .add (.loc 0) (.k (.int .i64 1))), none, none⟩,
    ⟨(.mov (.loc 0)), (some 4), none⟩]) (.block 0 (.loop delK [] (delB agg sz zero)))) (delE sz zero))))) := rfl
  rcases firstAt_cases p l 0 with ⟨h1, h2⟩ | ⟨i, e, h1, h2, h3, h4⟩
  · have hfl : l.filter (fun x => !p x) = l := List.filter_eq_self.2 (fun x hx => by simp [h2 x hx])
    refine ⟨l, ?_, rfl, by rw [hfl, List.take_length], hE⟩
    rw [hfl, hHr]
    rw [h1] at hi
    have e1 : ((-1 : Int) == -1) = true := rfl
    refine callW_code (c := deleteC agg sz zero fi) hF rfl 1 ?_
    rw [bodyEq, start9]
    generalize delB agg sz zero = bb
    generalize delE sz zero = ee
    simp only [hi, e1, e_callf2, run_nil, run_cons, stp_plain, stp_guard, put_some, pass_eq, pick_tt, pick_ff, pick_tf, pick_ft, pick_u, reg_some, thn_normal, thn_exit, thn_ret, cnd_t, cnd_f, blk_normal, blk_ret, blk_exit, x_seq, x_region, x_cond, x_block, x_loop, x_ret, x_exit, x_skip, e_mov, e_pick, pk_t, pk_f, withH_some, e_box, bx_some, e_load, e_store, stH_some, e_nil, e_bin, e_eqv, eqH_f, eqH_t, e_un, e_fa, e_ia, ia_eq, nat_eq, natV_nat, e_len, lnH_some, e_extract, ex_0, ex_1, e_call0, e_call1, e_call2, e_call3, pc0_eq, pc1_some, pc2_some, pc3_some, fin_some, g_var0, g_vars, g_loc0, g_locs, g_int, g_bool, g_str, g_sl, s_none, s_zero, s_succ, cl_nil, cl_str, cl_bool, cl_slc, cl_own, evFa, evNil, asEl, evBin, intBin, strBin, evUn, len_nil, len_slc, len_str, clr, List.length_nil, List.length_cons, List.getElem?_cons_zero, List.getElem?_cons_succ, Nat.reduceAdd, Nat.zero_add, Nat.add_zero, Nat.reduceLeDiff, Nat.reduceSub, ↓reduceIte, List.drop_succ_cons, List.drop_zero, List.take_succ_cons, List.take_zero, Bool.false_eq_true, List.nil_append, List.cons_append, Bool.not_true, Bool.not_false, cond_true, cond_false, bne, lv_ret, lv_normal, res1, res2, lv2_some, res_var, res_cell, lvf_v, lvf_slc, res1c, lvo1_some, e_mm, mm_max, mm_min]
    have hB : (H.take H.length).all (AO.below H.length) = true := by rw [List.take_length]; exact hH
    simp [leave, deleteC, resOf, pack, AV.frz2, AV.frz1, AV.frz0, hid]
    simpa using hH
  · have hil := (List.getElem?_eq_some_iff.1 h2).1
    have hki : kept p l (i + 1) = l.take i := by
      rw [kept_succ h2, h3]
      exact List.filter_eq_self.2 (fun x hx => by simp [h4 x hx])
    have hkl : (kept p l (i + 1)).length = i := by rw [hki]; simp; omega
    rw [h1, Nat.zero_add] at hi
    have e1 : ((i : Int) == -1) = false := by simp
    have hw : IntKind.i64.wrap ((i : Int) + 1) = ((i + 1 : Nat) : Int) := wrap_succ hil hm
    obtain ⟨v', L', G', g1, g2, g3, g4, g5, g6, g7⟩ := del_loop (F := F) (g := g) (first := first) (cap := cap) (ver := ver) (K := l.length + 1) (p := p) hid hH rfl hm hE hz hp (l.length - (i + 1)) (i + 1) (l.length + 1) l [] [.own sz id ver 0 l.length, .fn (.func g) first cap, .v (.slice none 0 0), .v (.int .i64 i), .v (.int .i64 ((i + 1 : Nat) : Int)), .v undef, .v (.bool false), .v undef, .v undef] (by omega) (by omega) (by rw [hkl]; omega) rfl (by rw [hkl, hki]) rfl rfl hE (by rw [hkl]; rfl)
    rw [List.append_nil, hHr] at g1
    have hkn : kept p l l.length = l.filter (fun x => !p x) := by simp [kept]
    rw [hkn] at g3 g6
    generalize hq : l.filter (fun x => !p x) = q at g3 g6 ⊢
    have hql : q.length ≤ l.length := by rw [← hq]; exact List.length_filter_le _ _
    refine ⟨L'.take q.length ++ List.replicate (l.length - q.length) (zeroEl zero) ++ L'.drop (q.length + (l.length - q.length)), ?_, by simp; omega, ?_, ?_⟩
    · refine callW_code (c := deleteC agg sz zero fi) hF rfl (l.length + 1) ?_
      match v', g6, g7 with
      | [x0, x1, x2, x3, x4, x5, x6, x7, x8], g6, _ =>
        simp only [delK, clr, cond_true, cond_false, List.cons.injEq, and_true, true_and] at g6
        obtain ⟨rfl, rfl, rfl, rfl⟩ := g6
        rw [bodyEq, start9]
        have body : exec (callW F) (l.length + 1) (.seq (.region [] [] [⟨(.mov (.k (.slice none 0 0))), (some 2), none⟩]) (.seq (.region [] [] [⟨(.mov (.var 0)), none, none⟩,
          ⟨(.mov (.var 1)), none, none⟩,
          ⟨(.call false fi [(.loc 1), (.loc 0)]), none, none⟩,
          ⟨(.mov (.loc 0)), (some 3), none⟩]) (.seq (.seq (.region [] [] [⟨(.mov (.var 3)), none, none⟩,
          ⟨(.bin .eql (.loc 0) (.k (.int .i64 (-1)))), (some 6), none⟩]) (.cond (.var 6) (.seq (.region [] [] [⟨(.mov (.var 0)), none, none⟩,
          ⟨(.mov (.loc 0)), (some 2), none⟩]) .ret) .skip)) (.seq (.seq (.region [] [] [⟨(.mov (.var 3)), none, none⟩,
          ⟨(.bin .add (.loc 0) (.k (.int .i64 1))), none, none⟩,
          ⟨(.mov (.loc 0)), (some 4), none⟩]) (.block 0 (.loop delK [] (delB agg sz zero)))) (delE sz zero))))) [.own sz id ver 0 l.length, .fn (.func g) first cap, .v undef, .v undef, .v undef, .v undef, .v undef, .v undef, .v undef] H
            = thn (callW F) (l.length + 1) (delE sz zero) (blk 0 (loopN (exec (callW F) (l.length + 1) (delB agg sz zero)) delK (l.length + 1) [.own sz id ver 0 l.length, .fn (.func g) first cap, .v (.slice none 0 0), .v (.int .i64 i), .v (.int .i64 ((i + 1 : Nat) : Int)), .v undef, .v (.bool false), .v undef, .v undef] H)) := by
          generalize delB agg sz zero = bb
          generalize delE sz zero = ee
          simp only [hi, e1, hw, e_callf2, run_nil, run_cons, stp_plain, stp_guard, put_some, pass_eq, pick_tt, pick_ff, pick_tf, pick_ft, pick_u, reg_some, thn_normal, thn_exit, thn_ret, cnd_t, cnd_f, blk_normal, blk_ret, blk_exit, x_seq, x_region, x_cond, x_block, x_loop, x_ret, x_exit, x_skip, e_mov, e_pick, pk_t, pk_f, withH_some, e_box, bx_some, e_load, e_store, stH_some, e_nil, e_bin, e_eqv, eqH_f, eqH_t, e_un, e_fa, e_ia, ia_eq, nat_eq, natV_nat, e_len, lnH_some, e_extract, ex_0, ex_1, e_call0, e_call1, e_call2, e_call3, pc0_eq, pc1_some, pc2_some, pc3_some, fin_some, g_var0, g_vars, g_loc0, g_locs, g_int, g_bool, g_str, g_sl, s_none, s_zero, s_succ, cl_nil, cl_str, cl_bool, cl_slc, cl_own, evFa, evNil, asEl, evBin, intBin, strBin, evUn, len_nil, len_slc, len_str, clr, List.length_nil, List.length_cons, List.getElem?_cons_zero, List.getElem?_cons_succ, Nat.reduceAdd, Nat.zero_add, Nat.add_zero, Nat.reduceLeDiff, Nat.reduceSub, ↓reduceIte, List.drop_succ_cons, List.drop_zero, List.take_succ_cons, List.take_zero, Bool.false_eq_true, List.nil_append, List.cons_append, Bool.not_true, Bool.not_false, cond_true, cond_false, bne, lv_ret, lv_normal, res1, res2, lv2_some, res_var, res_cell, lvf_v, lvf_slc, res1c, lvo1_some, e_mm, mm_max, mm_min]
        rw [body, g1, blk_exit, thn_normal]
        have hr' : ∀ (L : List AV) (G : List AO), (rowH H id sz ver L ++ G)[id]? = some (.row sz ver L 0) := fun L G => rowH_get hid
        have s1 : ∀ (L : List AV) (G : List AO), L.length = l.length → slV (rowH H id sz ver L ++ G) sz (some (some q.length)) none (.own sz id ver 0 l.length) = some (.own sz id ver q.length (l.length - q.length)) := by
          intro L G hL
          simp only [slV, if_true, Nat.zero_add, row_at (hr' L G) (show l.length ≤ L.length by omega), slo, hql, Nat.le_refl, and_self]
        have s2 : ∀ (L : List AV) (G : List AO), L.length = l.length → slV (rowH H id sz ver L ++ G) sz none (some (some q.length)) (.own sz id ver 0 l.length) = some (.own sz id ver 0 q.length) := by
          intro L G hL
          simp only [slV, if_true, Nat.zero_add, row_at (hr' L G) (show l.length ≤ L.length by omega), slo, hql, Nat.zero_le, and_self, Nat.add_zero, Nat.sub_zero]
        have s3 : evClr (rowH H id sz ver L' ++ G') sz zero (.own sz id ver q.length (l.length - q.length)) = some (rowH H id sz ver (L'.take q.length ++ List.replicate (l.length - q.length) (zeroEl zero) ++ L'.drop (q.length + (l.length - q.length))) ++ G') := by
          simp only [evClr, if_true, row_at (hr' L' G') (show q.length + (l.length - q.length) ≤ L'.length by omega), Nat.zero_le]
          by_cases h0 : l.length - q.length = 0
          · rw [if_pos h0, h0]
            simp
          · rw [if_neg h0, rowH_set hid]
        have s1' := s1 L' G' g2
        have s2' := s2 (L'.take q.length ++ List.replicate (l.length - q.length) (zeroEl zero) ++ L'.drop (q.length + (l.length - q.length))) G' (by simp; omega)
        simp only [delE, e_slice2, e_clrrow, Option.map_some, Option.map_none, s1', s2', s3, run_nil, run_cons, stp_plain, stp_guard, put_some, pass_eq, pick_tt, pick_ff, pick_tf, pick_ft, pick_u, reg_some, thn_normal, thn_exit, thn_ret, cnd_t, cnd_f, blk_normal, blk_ret, blk_exit, x_seq, x_region, x_cond, x_block, x_loop, x_ret, x_exit, x_skip, e_mov, e_pick, pk_t, pk_f, withH_some, e_box, bx_some, e_load, e_store, stH_some, e_nil, e_bin, e_eqv, eqH_f, eqH_t, e_un, e_fa, e_ia, ia_eq, nat_eq, natV_nat, e_len, lnH_some, e_extract, ex_0, ex_1, e_call0, e_call1, e_call2, e_call3, pc0_eq, pc1_some, pc2_some, pc3_some, fin_some, g_var0, g_vars, g_loc0, g_locs, g_int, g_bool, g_str, g_sl, s_none, s_zero, s_succ, cl_nil, cl_str, cl_bool, cl_slc, cl_own, evFa, evNil, asEl, evBin, intBin, strBin, evUn, len_nil, len_slc, len_str, clr, List.length_nil, List.length_cons, List.getElem?_cons_zero, List.getElem?_cons_succ, Nat.reduceAdd, Nat.zero_add, Nat.add_zero, Nat.reduceLeDiff, Nat.reduceSub, ↓reduceIte, List.drop_succ_cons, List.drop_zero, List.take_succ_cons, List.take_zero, Bool.false_eq_true, List.nil_append, List.cons_append, Bool.not_true, Bool.not_false, cond_true, cond_false, bne, lv_ret, lv_normal, res1, res2, lv2_some, res_var, res_cell, lvf_v, lvf_slc, res1c, lvo1_some, e_mm, mm_max, mm_min]
        have hlen := rowH_len (H := H) (id := id) (sz := sz) (ver := ver) (L := L'.take q.length ++ List.replicate (l.length - q.length) (zeroEl zero) ++ L'.drop (q.length + (l.length - q.length)))
        have hbel := set_below (id := id) (sz := sz) (ver := ver) (l := L'.take q.length ++ List.replicate (l.length - q.length) (zeroEl zero) ++ L'.drop (q.length + (l.length - q.length))) (k := 0) hH
        rw [List.length_set] at hbel
        have htk : (rowH H id sz ver (L'.take q.length ++ List.replicate (l.length - q.length) (zeroEl zero) ++ L'.drop (q.length + (l.length - q.length))) ++ G').take H.length = rowH H id sz ver (L'.take q.length ++ List.replicate (l.length - q.length) (zeroEl zero) ++ L'.drop (q.length + (l.length - q.length))) := by
          rw [List.take_append_of_le_length (by rw [hlen]; exact Nat.le_refl _), List.take_of_length_le (by rw [hlen]; exact Nat.le_refl _)]
        have hres : (deleteC agg sz zero fi).res = [.var 2] := rfl
        simp only [leave, hres, List.mapM_cons, List.mapM_nil, Option.pure_def, Option.bind_eq_bind, resOf, Option.bind_some, pack, List.getD_cons_succ, List.getD_cons_zero, AV.frz2, AV.frz1, AV.frz0, hid, if_true, htk, List.length_append, hlen]
        rw [if_pos ⟨by omega, hbel⟩]
    · rw [List.append_assoc, List.take_append_of_le_length (by simp; omega), List.take_take, Nat.min_self]
      exact g3
    · intro x hx
      rcases List.mem_append.1 hx with hx | hx
      · rcases List.mem_append.1 hx with hx | hx
        · exact g5 x (List.mem_of_mem_take hx)
        · rw [List.mem_replicate] at hx; rw [hx.2]; exact hzE
      · exact g5 x (List.mem_of_mem_drop hx)
end
end
end Go.AE
end

/-! Loops by what stays. -/
section
set_option linter.unusedVariables false
set_option linter.unusedSimpArgs false
namespace Go.AE
open Go

def Aft (n i : Nat) (keep : List Bool) (I : Nat → List AV → List AO → Prop) (Post : AXit → List AV → List AO → Prop) : AXit → List AV → List AO → Prop
  | .normal, v, h => i < n ∧ I (i + 1) (clr keep v) h
  | x, v, h => Post x v h
/-- I i: what holds ahead of round i (of the variables that are looked at there); Post: what holds where the loop is left. -/
theorem loop_rule {call : CallF} {K : Nat} {b : CC} {keep : List Bool} (I : Nat → List AV → List AO → Prop) (Post : AXit → List AV → List AO → Prop) (n : Nat)
    (hs : ∀ (i : Nat) (v : List AV) (h : List AO), i ≤ n → I i v h → ∃ x v' h', exec call K b v h = some (x, v', h') ∧ Aft n i keep I Post x v' h') :
    ∀ (d i m : Nat) (v : List AV) (h : List AO), i + d = n → d < m → I i (clr keep v) h → ∃ x v' h', loopN (exec call K b) keep m v h = some (x, v', h') ∧ x ≠ .normal ∧ Post x v' h' := by
  intro d
  induction d with
  | zero =>
    intro i m v h hi hm hI
    obtain ⟨m, rfl⟩ : ∃ k, m = k + 1 := ⟨m - 1, by omega⟩
    obtain ⟨x, v', h', h1, h2⟩ := hs i _ h (by omega) hI
    cases x with
    | normal => exact absurd h2.1 (by omega)
    | exit id => exact ⟨_, _, _, loop_exit h1, by simp, h2⟩
    | ret => exact ⟨_, _, _, loop_ret h1, by simp, h2⟩
  | succ d ih =>
    intro i m v h hi hm hI
    obtain ⟨m, rfl⟩ : ∃ k, m = k + 1 := ⟨m - 1, by omega⟩
    obtain ⟨x, v', h', h1, h2⟩ := hs i _ h (by omega) hI
    cases x with
    | normal =>
      obtain ⟨x, v2, h2', h3, h4, h5⟩ := ih (i + 1) m v' h' (by omega) (by omega) h2.2
      exact ⟨x, v2, h2', by rw [loop_normal h1]; exact h3, h4, h5⟩
    | exit id => exact ⟨_, _, _, loop_exit h1, by simp, h2⟩
    | ret => exact ⟨_, _, _, loop_ret h1, by simp, h2⟩
/-- the same from the first round on -/
theorem loop_rule0 {call : CallF} {K : Nat} {b : CC} {keep : List Bool} (I : Nat → List AV → List AO → Prop) (Post : AXit → List AV → List AO → Prop) (n : Nat) {m : Nat} {v : List AV} {h : List AO}
    (hm : n < m) (h0 : I 0 (clr keep v) h) (hs : ∀ (i : Nat) (v : List AV) (h : List AO), i ≤ n → I i v h → ∃ x v' h', exec call K b v h = some (x, v', h') ∧ Aft n i keep I Post x v' h') :
    ∃ x v' h', loopN (exec call K b) keep m v h = some (x, v', h') ∧ x ≠ .normal ∧ Post x v' h' := loop_rule I Post n hs n 0 m v h (by omega) hm h0
theorem cells_agg {cs : List AV} : (AV.agg cs).cells = cs := rfl
theorem e_mkfn {call : CallF} {vars env : List AV} {h : List AO} {f : Fn} {first cap : List Opd} : evOp call vars env h (.mkfn f first cap) = some (.fn f (first.map (getO vars env)) (cap.map (getO vars env)), h) := rfl
theorem pick_und {w : Bool} {y n : Option St} : pick1 (.v undef) w y n = n := rfl
theorem getO_of {v env : List AV} {i : Nat} {x : AV} (h : v[i]? = some x) : getO v env (.var i) = x := by simp [getO, h]
/-- a call ahead of which what is handed on is frozen -/
def cf (call : CallF) (f : FuncId) (h : List AO) (xs : List AV) : Option (AV × List AO) := match xs.mapM (AV.snap1 (xs.foldl raise1 h)) with
  | some vs => match call f vs [] with
    | some (r, []) => some (r, xs.foldl raise1 h)
    | _ => none
  | none => none
theorem e_callf {call : CallF} {vars env : List AV} {h : List AO} {f : FuncId} {args : List Opd} : evOp call vars env h (.callf f args) = cf call f h (args.map (getO vars env)) := rfl
theorem cf_of {call : CallF} {f : FuncId} {h h' : List AO} {xs vs : List AV} {r : AV} (hr : xs.foldl raise1 h = h') (hs : xs.mapM (AV.snap1 h') = some vs) (hc : call f vs [] = some (r, [])) : cf call f h xs = some (r, h') := by
  simp only [cf, hr, hs, hc]
theorem lt_t {i n : Nat} (h : i < n) : decide ((i : Int) < (n : Int)) = true := by simp; omega
theorem lt_f {n : Nat} : decide ((n : Int) < (n : Int)) = false := by simp
/-! ### Two that are being made beside one another -/
/-- what is no row of this size stays -/
def Oth (sz : Nat) (h h' : List AO) : Prop := h.length ≤ h'.length ∧ ∀ (j : Nat) (x : AO), h[j]? = some x → (∀ v L k, x ≠ .row sz v L k) → h'[j]? = some x
section
variable {sz sz' : Nat} {h h' : List AO} {c : AV} {es : List AV}
theorem Oth.refl (h : List AO) : Oth sz h h := ⟨Nat.le_refl _, fun _ _ e _ => e⟩
theorem Oth.trans {h'' : List AO} (a : Oth sz h h') (b : Oth sz h' h'') : Oth sz h h'' := ⟨Nat.le_trans a.1 b.1, fun j x e n => b.2 j x (a.2 j x e n) n⟩
theorem Oth.app (h : List AO) (x : AO) : Oth sz h (h ++ [x]) := ⟨by simp, fun j cs e _ => his_get e⟩
theorem Oth.set {id v k : Nat} {L : List AV} {y : AO} (hr : h[id]? = some (.row sz v L k)) : Oth sz h (h.set id y) := by
  refine ⟨by simp, fun j x e n => ?_⟩
  by_cases hj : j = id
  · subst hj; rw [hr] at e; cases e; exact absurd rfl (n _ _ _)
  · rw [List.getElem?_set_ne (Ne.symm hj)]; exact e
theorem Oth.box (a : Oth sz h h') {j : Nat} {cs : List AV} (e : h[j]? = some (.box cs)) : h'[j]? = some (.box cs) := a.2 j _ e (by simp)
theorem Acc.oth (a : Acc sz' h c es) (o : Oth sz h h') (hne : sz' ≠ sz) : Acc sz' h' c es := by
  cases a with
  | nil => exact .nil
  | own id ver k es hr hk he => exact .own id ver k es (o.2 _ _ hr (by simp [hne])) hk he
theorem Acc.add' (a : Acc sz h c es) {bytes : Nat} {x : AV} {ys : List AV} (hx : elemsOf h sz x = some ys) (hf : fits (es.length + ys.length) bytes = true) : ∃ c' h', evAppend h sz bytes c x = some (c', h') ∧ Acc sz h' c' (es ++ ys) ∧ Oth sz h h' := by
  cases a with
  | nil =>
    by_cases hys : ys = []
    · subst hys
      exact ⟨_, _, by simp [evAppend, hx], .nil, .refl h⟩
    · refine ⟨.own sz h.length 0 0 ys.length, h ++ [.row sz 0 ys 0], by simp [evAppend, hx, hys, by simpa using hf], ?_, .app _ _⟩
      exact .own h.length 0 0 ys (by simp) (Nat.zero_le _) hys
  | own id ver k es hr hk hne =>
    by_cases hys : ys = []
    · subst hys
      refine ⟨.own sz id ver 0 es.length, h, by simp [evAppend, hx, rowAt, hr, hk], ?_, .refl h⟩
      rw [List.append_nil]
      exact .own id ver k es hr hk hne
    · have hlt : id < h.length := (List.getElem?_eq_some_iff.1 hr).1
      have := Acc.own (sz := sz) (h := h.set id (.row sz (ver + 1) (es ++ ys) k)) id (ver + 1) k (es ++ ys) (by simp [hlt]) (by simp; omega) (by simp [hys])
      rw [List.length_append] at this
      exact ⟨_, h.set id (.row sz (ver + 1) (es ++ ys) k), by simp [evAppend, hx, rowAt, hr, hys, hf, hk], this, .set hr⟩
/-- made, and fixed -/
inductive Fxd (sz : Nat) (h : List AO) : AV → List AV → Prop
  | nil : Fxd sz h (.v (.slice none 0 0)) []
  | own (id ver : Nat) (es : List AV) (hr : h[id]? = some (.row sz ver es es.length)) (hne : es ≠ []) : Fxd sz h (.own sz id ver 0 es.length) es
theorem Fxd.acc (a : Fxd sz h c es) : Acc sz h c es := by
  cases a with
  | nil => exact .nil
  | own id ver es hr hne => exact .own id ver _ es hr (Nat.le_refl _) hne
theorem Fxd.oth (a : Fxd sz' h c es) (o : Oth sz h h') (hne : sz' ≠ sz) : Fxd sz' h' c es := by
  cases a with
  | nil => exact .nil
  | own id ver es hr he => exact .own id ver es (o.2 _ _ hr (by simp [hne])) he
theorem Fxd.snap (a : Fxd sz h c es) : ∃ c', c.snap1 h = some c' ∧ Sl sz c' es := by
  cases a with
  | nil => exact ⟨_, rfl, .nil⟩
  | own id ver es hr hne => exact ⟨.slc sz false false es, by simp [AV.snap1, AV.snap0, rowAt, hr], .slc _ _ _⟩
theorem Acc.fxd (a : Acc sz h c es) : Fxd sz (raise1 h c) c es ∧ Oth sz h (raise1 h c) := by
  cases a with
  | nil => exact ⟨.nil, .refl h⟩
  | own id ver k es hr hk hne =>
    have hlt : id < h.length := (List.getElem?_eq_some_iff.1 hr).1
    have e : raise1 h (.own sz id ver 0 es.length) = h.set id (.row sz ver es es.length) := by
      simp [raise1, raise0, raise, rowAt, hr, Nat.max_eq_right hk]
    rw [e]
    exact ⟨.own id ver es (by simp [hlt]) hne, .set hr⟩
end
def apR (b : Bool) (r : CRun) : CRun := if b = true then r else none
theorem apR_t {r : CRun} : apR true r = r := rfl
theorem x_region_ap {call : CallF} {fuel : Nat} {p : Option Nat × Nat} {ops : List CO} {vars : List AV} {h : List AO} : exec call fuel (.region [] [p] ops) vars h = apR (apB vars p) (reg (run call ops (some ⟨vars, [], h⟩))) := by
  simp only [exec, List.all_cons, List.all_nil, Bool.and_true, apR, List.foldl_nil, ops_run]
  cases run call ops (some ⟨vars, [], h⟩) <;> rfl
end Go.AE
end

/-! Maps by what they answer. -/
section
set_option linter.unusedVariables false
set_option linter.unusedSimpArgs false
namespace Go.AE
open Go

section
variable {call : CallF} {vars env : List AV} {h : List AO}
theorem e_mkmap {kk : KK} : evOp call vars env h (.mkmap kk) = some (.mp h.length, h ++ [.map kk []]) := rfl
theorem e_lookup {kk : KK} {z : Value} {ok : Bool} {m k : Opd} : evOp call vars env h (.lookup kk z ok m k) = withH h (evLook h kk z ok (getO vars env m) (getO vars env k)) := map_withH
theorem e_mapupd {kk : KK} {m k x : Opd} : evOp call vars env h (.mapupd kk m k x) = stH (evUpd h kk (getO vars env m) (getO vars env k) (getO vars env x)) := by
  simp only [evOp]; cases evUpd h kk (getO vars env m) (getO vars env k) (getO vars env x) <;> rfl
end
theorem ex_2 {h : List AO} {u v w : AV} {vs : List AV} : exH h 2 (.tup (u :: v :: w :: vs)) = some (w, h) := rfl
def intK (kk : IntKind) (n : Int) : Value := .int kk n
theorem keyEq_int {k : IntKind} {a b : Int} : keyEq (.int k a) (.int k b) = (a == b) := by simp [keyEq]
theorem keyEq_of {k : IntKind} {a : Int} {v : Value} (h : keyEq (.int k a) v = true) : v = .int k a := by
  cases v <;> simp [keyEq] at h
  obtain ⟨rfl, rfl⟩ := h; rfl
theorem look_upd {k : IntKind} {a b : Int} {x : AV} : ∀ es : List (Value × AV), look (.int k b) (upd (.int k a) x es) = if a = b then some x else look (.int k b) es
  | [] => by
    by_cases h : a = b
    · subst h; simp [upd, look, keyEq]
    · have : ¬ b = a := fun e => h e.symm
      simp [upd, look, keyEq, h, this]
  | e :: es => by
    simp only [upd]
    by_cases h1 : keyEq (.int k a) e.1 = true
    · rw [if_pos h1]
      have he := keyEq_of h1
      simp only [look, he, keyEq_int]
      by_cases h : a = b
      · subst h; simp
      · have : ¬ b = a := fun e => h e.symm
        simp [h, this]
    · rw [if_neg h1]
      simp only [look]
      rw [look_upd es]
      by_cases h2 : keyEq (.int k b) e.1 = true
      · rw [if_pos h2, if_pos h2]
        by_cases h : a = b
        · subst h; exact absurd h2 h1
        · rw [if_neg h]
      · rw [if_neg h2, if_neg h2]
/-- a map as a set of numbers: what is in it is true -/
def Seen (k : IntKind) (es : List (Value × AV)) (S : List Int) : Prop := ∀ n, look (.int k n) es = if n ∈ S then some (.v (.bool true)) else none
theorem Seen.nil (k : IntKind) : Seen k [] [] := fun n => by simp [look]
theorem Seen.add {k : IntKind} {es : List (Value × AV)} {S : List Int} (h : Seen k es S) (a : Int) : Seen k (upd (.int k a) (.v (.bool true)) es) (a :: S) := by
  intro n
  rw [look_upd, h n]
  by_cases e : a = n
  · subst e; simp
  · have : ¬ n = a := fun x => e x.symm
    simp [e, this]
theorem Seen.of {k : IntKind} {es : List (Value × AV)} {S S' : List Int} (h : Seen k es S) (hS : ∀ n, n ∈ S ↔ n ∈ S') : Seen k es S' := fun n => by
  rw [h n]; simp only [hS n]
theorem Seen.look {k : IntKind} {es : List (Value × AV)} {S : List Int} (h : Seen k es S) {H : List AO} {id : Nat} (hm : H[id]? = some (.map (.int k) es)) (n : Int) : evLook H (.int k) (.bool false) false (.mp id) (.v (.int k n)) = some (.v (.bool (S.contains n))) := by
  simp only [evLook, hm, KK.ok, decide_true, and_self, if_true, h n]
  by_cases e : n ∈ S <;> simp [e]
theorem upd_map {k : IntKind} {es : List (Value × AV)} {H : List AO} {id : Nat} (hm : H[id]? = some (.map (.int k) es)) (n : Int) {x y : AV} (hx : x.snap1 H = some y) : evUpd H (.int k) (.mp id) (.v (.int k n)) x = some (H.set id (.map (.int k) (upd (.int k n) y es))) := by
  simp only [evUpd, hm, hx, KK.ok, decide_true, and_self, if_true]
end Go.AE
end

/-! What comes in, by its type (the same in each program here). -/
section
set_option linter.unusedVariables false
set_option linter.unusedSimpArgs false
namespace Go.AE
open Go
section
variable {T : Tb} {t : TypeId} {i : TI} {cs : List AV}
theorem wt_int_of {k : IntKind} (h : T.ty t = some i) (hd : i.desc = .int k) (w : WT T t cs) : ∃ n : Int, cs = [.v (.int k n)] ∧ (Lit.int k n).wf = true := by
  cases w with
  | bool _ i' b h' hd' => rw [h] at h'; cases h'; rw [hd] at hd'; cases hd'
  | int _ i' k' n h' hd' hw => rw [h] at h'; cases h'; rw [hd] at hd'; cases hd'; exact ⟨n, rfl, hw⟩
  | str _ i' s h' hd' hs => rw [h] at h'; cases h'; rw [hd] at hd'; cases hd'
  | nil _ i' e h' hd' => rw [h] at h'; cases h'; rw [hd] at hd'; cases hd'
  | slc _ i' e j l h' hd' he hl hel has => rw [h] at h'; cases h'; rw [hd] at hd'; cases hd'
  | struct _ i' fs pts h' hd' hlen hf => rw [h] at h'; cases h'; rw [hd] at hd'; cases hd'
theorem wt_str_of (h : T.ty t = some i) (hd : i.desc = .string) (w : WT T t cs) : ∃ s : ByteArray, cs = [.v (.string s)] ∧ s.size ≤ maxLen := by
  cases w with
  | bool _ i' b h' hd' => rw [h] at h'; cases h'; rw [hd] at hd'; cases hd'
  | int _ i' k' n h' hd' hw => rw [h] at h'; cases h'; rw [hd] at hd'; cases hd'
  | str _ i' s h' hd' hs => exact ⟨s, rfl, hs⟩
  | nil _ i' e h' hd' => rw [h] at h'; cases h'; rw [hd] at hd'; cases hd'
  | slc _ i' e j l h' hd' he hl hel has => rw [h] at h'; cases h'; rw [hd] at hd'; cases hd'
  | struct _ i' fs pts h' hd' hlen hf => rw [h] at h'; cases h'; rw [hd] at hd'; cases hd'
theorem wt_bool_of (h : T.ty t = some i) (hd : i.desc = .bool) (w : WT T t cs) : ∃ b : Bool, cs = [.v (.bool b)] := by
  cases w with
  | bool _ i' b h' hd' => exact ⟨b, rfl⟩
  | int _ i' k' n h' hd' hw => rw [h] at h'; cases h'; rw [hd] at hd'; cases hd'
  | str _ i' s h' hd' hs => rw [h] at h'; cases h'; rw [hd] at hd'; cases hd'
  | nil _ i' e h' hd' => rw [h] at h'; cases h'; rw [hd] at hd'; cases hd'
  | slc _ i' e j l h' hd' he hl hel has => rw [h] at h'; cases h'; rw [hd] at hd'; cases hd'
  | struct _ i' fs pts h' hd' hlen hf => rw [h] at h'; cases h'; rw [hd] at hd'; cases hd'
theorem wt_slice_of {e : TypeId} {j : TI} (h : T.ty t = some i) (hd : i.desc = .slice e) (hj : T.ty e = some j) (w : WT T t cs) :
    cs = [.v (.slice none 0 0)] ∨ ∃ l : List AV, cs = [.slc j.size false true l] ∧ l.length ≤ maxLen ∧ (∀ el ∈ l, WT T e el.cells) ∧ ∀ el ∈ l, asEl j.agg el.cells = some el := by
  cases w with
  | bool _ i' b h' hd' => rw [h] at h'; cases h'; rw [hd] at hd'; cases hd'
  | int _ i' k' n h' hd' hw => rw [h] at h'; cases h'; rw [hd] at hd'; cases hd'
  | str _ i' s h' hd' hs => rw [h] at h'; cases h'; rw [hd] at hd'; cases hd'
  | nil _ i' e h' hd' => exact .inl rfl
  | slc _ i' e j' l h' hd' he hl hel has =>
    rw [h] at h'; cases h'; rw [hd] at hd'; cases hd'
    rw [hj] at he; cases he
    exact .inr ⟨l, rfl, hl, hel, has⟩
  | struct _ i' fs pts h' hd' hlen hf => rw [h] at h'; cases h'; rw [hd] at hd'; cases hd'
theorem wt_struct_of {fs : Array Field} (h : T.ty t = some i) (hd : i.desc = .struct fs) (w : WT T t cs) :
    ∃ pts : List (List AV), cs = pts.flatten ∧ pts.length = fs.size ∧ ∀ (k : Nat) (f : Field) (a : List AV), fs[k]? = some f → pts[k]? = some a → WT T f.type a := by
  generalize hcs : cs = cs' at w
  cases w with
  | bool _ i' b h' hd' => rw [h] at h'; cases h'; rw [hd] at hd'; cases hd'
  | int _ i' k' n h' hd' hw => rw [h] at h'; cases h'; rw [hd] at hd'; cases hd'
  | str _ i' s h' hd' hs => rw [h] at h'; cases h'; rw [hd] at hd'; cases hd'
  | nil _ i' e h' hd' => rw [h] at h'; cases h'; rw [hd] at hd'; cases hd'
  | slc _ i' e j l h' hd' he hl hel has => rw [h] at h'; cases h'; rw [hd] at hd'; cases hd'
  | struct _ i' fs' pts h' hd' hlen hf => rw [h] at h'; cases h'; rw [hd] at hd'; cases hd'; exact ⟨pts, rfl, hlen, hf⟩
theorem wt_struct2 {f0 f1 : Field} (h : T.ty t = some i) (hd : i.desc = .struct #[f0, f1]) (w : WT T t cs) : ∃ a b, cs = a ++ b ∧ WT T f0.type a ∧ WT T f1.type b := by
  obtain ⟨pts, rfl, hl, hf⟩ := wt_struct_of h hd w
  match pts, hl, hf with
  | [a, b], _, hf => exact ⟨a, b, by simp, hf 0 _ a rfl rfl, hf 1 _ b rfl rfl⟩
theorem wt_struct3 {f0 f1 f2 : Field} (h : T.ty t = some i) (hd : i.desc = .struct #[f0, f1, f2]) (w : WT T t cs) : ∃ a b c, cs = a ++ b ++ c ∧ WT T f0.type a ∧ WT T f1.type b ∧ WT T f2.type c := by
  obtain ⟨pts, rfl, hl, hf⟩ := wt_struct_of h hd w
  match pts, hl, hf with
  | [a, b, c], _, hf => exact ⟨a, b, c, by simp, hf 0 _ a rfl rfl, hf 1 _ b rfl rfl, hf 2 _ c rfl rfl⟩
theorem wt_struct4 {f0 f1 f2 f3 : Field} (h : T.ty t = some i) (hd : i.desc = .struct #[f0, f1, f2, f3]) (w : WT T t cs) : ∃ a b c d, cs = a ++ b ++ c ++ d ∧ WT T f0.type a ∧ WT T f1.type b ∧ WT T f2.type c ∧ WT T f3.type d := by
  obtain ⟨pts, rfl, hl, hf⟩ := wt_struct_of h hd w
  match pts, hl, hf with
  | [a, b, c, d], _, hf => exact ⟨a, b, c, d, by simp, hf 0 _ a rfl rfl, hf 1 _ b rfl rfl, hf 2 _ c rfl rfl, hf 3 _ d rfl rfl⟩
theorem wt_struct5 {f0 f1 f2 f3 f4 : Field} (h : T.ty t = some i) (hd : i.desc = .struct #[f0, f1, f2, f3, f4]) (w : WT T t cs) : ∃ a b c d e, cs = a ++ b ++ c ++ d ++ e ∧ WT T f0.type a ∧ WT T f1.type b ∧ WT T f2.type c ∧ WT T f3.type d ∧ WT T f4.type e := by
  obtain ⟨pts, rfl, hl, hf⟩ := wt_struct_of h hd w
  match pts, hl, hf with
  | [a, b, c, d, e], _, hf => exact ⟨a, b, c, d, e, by simp, hf 0 _ a rfl rfl, hf 1 _ b rfl rfl, hf 2 _ c rfl rfl, hf 3 _ d rfl rfl, hf 4 _ e rfl rfl⟩
theorem one_cell {a c : AV} (h : asEl false a.cells = some a) (hc : a.cells = [c]) : a = c := by
  rw [hc] at h
  simpa [asEl] using h.symm
theorem agg_cells {a : AV} (h : asEl true a.cells = some a) : a = .agg a.cells := by
  simp only [asEl, if_true, Option.some.injEq] at h
  exact h.symm
end

/-- which types a program has for numbers, names and terms -/
structure TmTy (T : Tb) (tI tS tN tT tL : TypeId) : Prop where
  i : ∃ x, T.ty tI = some x ∧ x.desc = .int .i64
  s : ∃ x, T.ty tS = some x ∧ x.desc = .string
  n : ∃ x, T.ty tN = some x ∧ x.desc = .int .i64
  t : ∃ x f0 f1 f2 f3, T.ty tT = some x ∧ x.desc = .struct #[f0, f1, f2, f3] ∧ f0.type = tI ∧ f1.type = tS ∧ f2.type = tN ∧ f3.type = tL ∧ x.size = 4 ∧ x.agg = true
  l : ∃ x, T.ty tL = some x ∧ x.desc = .slice tT
section
variable {T : Tb} {tI tS tN tT tL : TypeId}
theorem all2_of : ∀ {l : List AV}, (∀ el ∈ l, ∃ t, IsT el t) → ∃ ts, All2 l ts
  | [], _ => ⟨[], .nil⟩
  | a :: l, h => by
    obtain ⟨t, ht⟩ := h a (by simp)
    obtain ⟨ts, hts⟩ := all2_of (l := l) (fun el hm => h el (by simp [hm]))
    exact ⟨t :: ts, .cons a t l ts ht hts⟩
theorem TmTy.good (h : TmTy T tI tS tN tT tL) : ∀ {t : TypeId} {cs : List AV}, WT T t cs → (t = tT → ∃ x, IsT (.agg cs) x) ∧ (t = tL → ∃ c l, cs = [c] ∧ IsL c l) := by
  obtain ⟨xt, f0, f1, f2, f3, ht1, ht2, e0, e1, e2, e3, hsz, hag⟩ := h.t
  obtain ⟨xl, hl1, hl2⟩ := h.l
  obtain ⟨xi, hi1, hi2⟩ := h.i
  obtain ⟨xs, hs1, hs2⟩ := h.s
  obtain ⟨xn, hn1, hn2⟩ := h.n
  intro t cs w
  induction w with
  | bool t i b ht hd => exact ⟨(by rintro rfl; rw [ht1] at ht; cases ht; rw [ht2] at hd; cases hd), (by rintro rfl; rw [hl1] at ht; cases ht; rw [hl2] at hd; cases hd)⟩
  | int t i k n ht hd hw => exact ⟨(by rintro rfl; rw [ht1] at ht; cases ht; rw [ht2] at hd; cases hd), (by rintro rfl; rw [hl1] at ht; cases ht; rw [hl2] at hd; cases hd)⟩
  | str t i s ht hd hs => exact ⟨(by rintro rfl; rw [ht1] at ht; cases ht; rw [ht2] at hd; cases hd), (by rintro rfl; rw [hl1] at ht; cases ht; rw [hl2] at hd; cases hd)⟩
  | nil t i e ht hd => exact ⟨(by rintro rfl; rw [ht1] at ht; cases ht; rw [ht2] at hd; cases hd), fun _ => ⟨_, [], rfl, .nil⟩⟩
  | slc t i e j l ht hd he hl hel has ih =>
    refine ⟨(by rintro rfl; rw [ht1] at ht; cases ht; rw [ht2] at hd; cases hd), ?_⟩
    rintro rfl
    rw [hl1] at ht; cases ht; rw [hl2] at hd; cases hd
    rw [ht1] at he; cases he
    obtain ⟨ts, hts⟩ := all2_of (l := l) (fun el hm => by
      obtain ⟨x, hx⟩ := (ih el hm).1 rfl
      have := has el hm
      rw [hag] at this
      rw [← agg_cells this] at hx
      exact ⟨x, hx⟩)
    rw [hsz]
    exact ⟨_, ts, rfl, .slc _ _ _ _ hts hl⟩
  | struct t i fs pts ht hd hlen hf ih =>
    refine ⟨?_, (by rintro rfl; rw [hl1] at ht; cases ht; rw [hl2] at hd; cases hd)⟩
    rintro rfl
    rw [ht1] at ht; cases ht; rw [ht2] at hd; cases hd
    match pts, hlen, hf, ih with
    | [a, b, c, d], _, hf, ih =>
      have w0 := hf 0 f0 a rfl rfl
      have w1 := hf 1 f1 b rfl rfl
      have w2 := hf 2 f2 c rfl rfl
      have w3 := (ih 3 f3 d rfl rfl).2 e3
      rw [e0] at w0; rw [e1] at w1; rw [e2] at w2
      obtain ⟨k, rfl, _⟩ := wt_int_of hi1 hi2 w0
      obtain ⟨s, rfl, _⟩ := wt_str_of hs1 hs2 w1
      obtain ⟨n, rfl, _⟩ := wt_int_of hn1 hn2 w2
      obtain ⟨x, l, rfl, hx⟩ := w3
      exact ⟨_, .mk k s n x l hx⟩
theorem TmTy.term (h : TmTy T tI tS tN tT tL) {cs : List AV} (w : WT T tT cs) : ∃ x, IsT (.agg cs) x := (h.good w).1 rfl
theorem TmTy.terms (h : TmTy T tI tS tN tT tL) {cs : List AV} (w : WT T tL cs) : ∃ c l, cs = [c] ∧ IsL c l := (h.good w).2 rfl
end
end Go.AE
end

/-! slices.Clone of any kind of elements, as an entry of the evaluator's table (whether a slice without elements is nil is not asked). -/
section
set_option linter.unusedVariables false
set_option linter.unusedSimpArgs false
namespace Go.AE
open Go Go.RowKit

def cloneC (sz bytes : Nat) (zero : List Value) : CFun :=
  ⟨1, 3, (.seq (.region [] [] [⟨(.mov (.k (.slice none 0 0))), (some 1), none⟩]) (.seq (.seq (.region [] [] [⟨(.mov (.var 0)), none, none⟩,
  ⟨(.eqv .slice false (.loc 0) (.k (.slice none 0 0))), (some 2), none⟩]) (.cond (.var 2) (.seq (.region [] [] [⟨(.mov (.k (.slice none 0 0))), (some 1), none⟩]) .ret) .skip)) (.seq (.region [] [] [⟨(.bslice sz zero 0 []), none, none⟩,
  ⟨(.mov (.var 0)), none, none⟩,
  ⟨(.append sz bytes (.loc 1) (.loc 0)), none, none⟩,
  ⟨(.mov (.loc 0)), (some 1), none⟩]) .ret))), [.var 1]⟩

def cloneG (sz bytes : Nat) (args : List AV) (h : List AO) : Option (AV × List AO) := match args with
  | [x] => match elemsOf h sz x with
    | some [] => some (.slc sz true false [], h)
    | some (e :: l) => if fits (l.length + 1) bytes then some (.own sz h.length 0 0 (l.length + 1), h ++ [.row sz 0 (e :: l) 0]) else none
    | none => none
  | _ => none

section
variable {P : Program} {B : Nat} {w0 : World} {T : Tb} {f : FuncId} {sz bytes : Nat} {zero : List Value}
/-- a table of this one function -/
def oneF (f : FuncId) (e : FEntry) : FuncId → Option FEntry := fun g => if g = f then some e else none
theorem one_calls (hm : P.follows .mixedOrders = true) (hT : TbOk P T) {e : FEntry} (he : ∀ B w0, EntryOk P T B w0 f e) (B : Nat) (w0 : World) : ∀ n, CallOk P B w0 (callN (oneF f e) n) := by
  intro n
  refine callN_ok (K := fun _ _ => True) hm hT holds_true (fun B w0 _ g e' hg => ?_) n B w0 trivial
  unfold oneF at hg
  split at hg
  · rename_i h; subst h; cases hg; exact he B w0
  · cases hg

theorem rep_empty {I : Cells} {w : World} {σ : List Loc} {v : Value} {x : AV} (hx : x = .v (.slice none 0 0) ∨ ∃ ex nn, x = .slc sz ex nn []) (h : Rep I w σ x v) (hc : ∀ a cap, v = .slice a 0 cap → cap = 0) : Rep I w σ (.slc sz true false []) v := by
  have fin : ∀ a cap, v = .slice a 0 cap → Rep I w σ (.slc sz true false []) v := by
    rintro a cap e
    have := hc a cap e
    subst this; subst e
    exact .slc σ sz true false [] a 0 0 0 (fun _ _ => undef) (fun e => absurd rfl e) (fun e => by cases e) (fun _ => rfl) (Nat.le_refl _) (fun _ => rfl) (fun j el e => by simp at e) (fun j el i c e => by simp at e) (fun j el i c e => by simp at e) (fun j el i c e => by simp at e) (fun j el i c e => by simp at e)
  rcases hx with rfl | ⟨ex, nn, rfl⟩
  · cases h; exact fin _ _ rfl
  · cases h with
    | slc _ _ _ _ _ a cap b o g ha hn hnil hcap hex hsz hcc hi h1 hr => exact fin a cap rfl

theorem clone_entry (hm : P.follows .mixedOrders = true) (hT : TbOk P T) (hc : CodeOk P T f (cloneC sz bytes zero)) (B : Nat) (w0 : World) : ∀ args h r h', cloneG sz bytes args h = some (r, h') → (∀ (vals : Array Value) (w : World), (callFunc f vals).run P w = .ok (.enter f vals) w) ∧
    ∀ I σ w (vals : Array Value), Inv B w0 I σ w h → ArgsRep I w σ args vals → Calls P f vals w (Ends B w0 I σ w r h') := by
  intro args h r h' hg
  have hcall := one_calls (f := f) (e := .keep (cloneC sz bytes zero)) hm hT (fun _ _ => hc) B w0 3
  have hN : callN (oneF f (.keep (cloneC sz bytes zero))) 3 = callN (oneF f (.keep (cloneC sz bytes zero))) (2 + 1) := rfl
  have run : ∀ (x : AV) (h : List AO), callN (oneF f (.keep (cloneC sz bytes zero))) 3 f [x] h = leaveKeep (cloneC sz bytes zero) (exec (callN (oneF f (.keep (cloneC sz bytes zero))) 2) 2 (cloneC sz bytes zero).body [x, .v undef, .v undef] h) := by
    intro x h
    simp only [callN, oneF, if_true]
    rfl
  have run_nil : ∀ h : List AO, callN (oneF f (.keep (cloneC sz bytes zero))) 3 f [.v (.slice none 0 0)] h = some (.v (.slice none 0 0), h) := fun h => by rw [run]; rfl
  have run_no : ∀ (x : AV) (h : List AO) (r : AV × List AO), eqNil h .slice x (.v (.slice none 0 0)) = some false → evAppend h sz bytes (.slc sz true true []) x = some r → callN (oneF f (.keep (cloneC sz bytes zero))) 3 f [x] h = some r := by
    intro x h r h1 h2
    rw [run]
    obtain ⟨r1, r2⟩ := r
    generalize callN (oneF f (.keep (cloneC sz bytes zero))) 2 = call
    simp only [cloneC, x_seq, x_region, run_cons, Go.AE.run_nil, stp_plain, e_mov, put_some, g_sl, s_succ, s_zero, reg_some, thn_normal, g_var0, g_loc0, g_locs, s_none, e_eqv, h1, eqH_f, Bool.false_eq_true, if_false, x_cond, g_vars, cnd_f, x_skip, evOp, evElems, List.replicate, Option.map_some, h2, x_ret]
    rfl
  unfold cloneG at hg
  split at hg
  · rename_i x
    have enter : ∀ (vals : Array Value) (w : World), (callFunc f vals).run P w = .ok (.enter f vals) w := fun vals w => hc.enter vals w
    refine ⟨enter, fun I σ w vals hI ha => ?_⟩
    split at hg
    · rename_i hel
      cases hg
      have hs := ha.size
      obtain ⟨l⟩ := vals
      match l, hs with
      | [v], _ =>
        have hv := ha.rep 0 x rfl
        have one : ∀ {y : AV}, Rep I w σ y v → ArgsRep I w σ [y] #[v] := by
          intro y hy
          refine ⟨rfl, fun i a hi => ?_⟩
          match i, hi with
          | 0, hi => cases hi; exact hy
        -- the value is a slice without elements
        have key : ∃ a cap, v = .slice a 0 cap ∧ (a = none → cap = 0) := by
          change Rep I w σ x v at hv
          unfold elemsOf at hel
          split at hel
          · cases hv; exact ⟨_, _, rfl, fun _ => rfl⟩
          · split at hel
            · cases hel
              cases hv with
              | slc _ _ _ _ _ a cap b o g hna hn hnil hcap hex hsz hcc hi h1 hr => exact ⟨a, cap, rfl, hnil⟩
            · cases hel
          · rename_i sz' id ver off n _
            split at hel
            · rename_i hsz
              obtain ⟨⟨l, k⟩, hra, hl⟩ := Option.map_eq_some_iff.1 hel
              obtain ⟨ho, hle⟩ := rowAt_eq hra
              have hn0 : n = 0 := by
                have := congrArg List.length hl
                simp at this; omega
              subst hn0
              cases hv with
              | own _ _ _ _ _ _ y h1x L hL hvv hxo =>
                obtain ⟨hf, hver, hR⟩ := hI.obj _ _ L ho hL
                rcases hxo hver.symm with ⟨_, _, rfl⟩ | ⟨_, a, rfl⟩
                · exact ⟨_, _, rfl, fun e => by cases e⟩
                · exact ⟨_, _, rfl, fun _ => rfl⟩
            · cases hel
          · cases hel
        obtain ⟨a, cap, rfl, hna⟩ := key
        cases a with
        | none =>
          have := hna rfl
          subst this
          refine (hcall.calls f [.v (.slice none 0 0)] h _ _ (run_nil h) I σ w _ hI (one (.v σ _))).mono ?_
          rintro e w' ⟨u, I', σ', rfl, h1, h2, h3⟩
          refine ⟨u, I', σ', rfl, h1, h2, rep_empty (.inl rfl) h3 (fun a cap e => ?_)⟩
          cases h3; cases e; rfl
        | some ad =>
          have hr : Rep I w σ (.slc sz false true []) (.slice (some ad) 0 cap) :=
            .slc σ sz false true [] (some ad) cap 0 0 (fun _ _ => undef) (fun e => absurd rfl e) (fun _ => by simp) (fun e => by cases e) (Nat.zero_le _) (fun e => by cases e) (fun j el e => by simp at e) (fun j el i c e => by simp at e) (fun j el i c e => by simp at e) (fun j el i c e => by simp at e) (fun j el i c e => by simp at e)
          refine (hcall.calls f [.slc sz false true []] h _ _ (run_no _ h (.slc sz true true [], h) rfl (by simp [evAppend, elemsOf])) I σ w _ hI (one hr)).mono ?_
          rintro e w' ⟨u, I', σ', rfl, h1, h2, h3⟩
          refine ⟨u, I', σ', rfl, h1, h2, rep_empty (.inr ⟨true, true, rfl⟩) h3 (fun a cap e => ?_)⟩
          cases h3 with
          | slc _ _ _ _ _ a cap b o g hna hn hnil hcap hex hsz hcc hi h1 hr => cases e; exact hex rfl
    · rename_i e l hel
      split at hg
      · rename_i hfit
        cases hg
        refine hcall.calls f [x] h _ _ (run_no x h _ ?_ ?_) I σ w _ hI ha
        · unfold elemsOf at hel
          split at hel
          · cases hel
          · split at hel
            · cases hel; simp [eqNil]
            · cases hel
          · split at hel
            · obtain ⟨⟨l', k⟩, hra, hl⟩ := Option.map_eq_some_iff.1 hel
              rename_i hsz; subst hsz
              rename_i id ver off n
              have hn0 : 0 < n := by
                have := congrArg List.length hl
                simp at this; omega
              simp [eqNil, hra, hn0]
            · cases hel
          · cases hel
        · have hf' : fits (0 + (l.length + 1)) bytes = true := by rw [Nat.zero_add]; exact hfit
          simp [evAppend, hel, hfit]
      · cases hg
    · cases hg
  · cases hg
end
end Go.AE
end

/-! Clauses as values of the evaluator; elements of rows. -/
section
set_option linter.unusedVariables false
set_option linter.unusedSimpArgs false
namespace Go.AE
open Go

theorem IsT.elm {a : AV} {t : Tm} (h : IsT a t) : El true 4 a := by
  cases h with
  | mk k s n c l hc =>
    refine ⟨rfl, rfl, fun _ => IsT.snap (.mk k s n c l hc), rfl, ?_, IsT.bel (.mk k s n c l hc)⟩
    cases hc <;> rfl
theorem IsBd.elm {a : AV} {v : Int} {t : Tm} (h : IsBd a v t) : El true 5 a := by
  cases h with
  | mk v cs t h =>
    cases h with
    | mk k s n c l hc => cases hc <;> exact ⟨rfl, rfl, fun _ => rfl, rfl, rfl, rfl⟩
/-- the facts of an element that is read into a variable of its own -/
theorem El.ld {agg : Bool} {sz : Nat} {e : AV} (h : El agg sz e) (H : List AO) : evLoad H agg sz (.ip e.cells) = some e := by
  simp only [evLoad, h.len, Nat.le_refl, if_true]
  rw [List.take_of_length_le (by rw [h.len]; exact Nat.le_refl _)]
  exact h.el
theorem El.st {agg : Bool} {sz : Nat} {e : AV} (h : El agg sz e) (H : List AO) {z : List AV} (hz : z.length = sz) : evStore (H ++ [.box z]) sz (.ptr H.length 0) e = some (H ++ [.box e.cells]) := st_new h.cl h.len hz
theorem El.ldn {agg : Bool} {sz : Nat} {e : AV} (h : El agg sz e) (H : List AO) : evLoad (H ++ [.box e.cells]) agg sz (.ptr H.length 0) = some e := by
  rw [ld_new, if_pos (by rw [h.len]; omega), List.drop_zero, List.take_of_length_le (by rw [h.len]; exact Nat.le_refl _)]
  exact h.el

inductive AllR {α : Type} (R : AV → α → Prop) : List AV → List α → Prop
  | nil : AllR R [] []
  | cons (a : AV) (x : α) (es : List AV) (xs : List α) (h : R a x) (hs : AllR R es xs) : AllR R (a :: es) (x :: xs)
section
variable {α : Type} {R : AV → α → Prop}
theorem AllR.length : ∀ {es : List AV} {l : List α}, AllR R es l → es.length = l.length
  | _, _, .nil => rfl
  | _, _, .cons _ _ _ _ _ hs => by simp [hs.length]
theorem AllR.get : ∀ {es : List AV} {l : List α}, AllR R es l → ∀ {i : Nat} {e : AV}, es[i]? = some e → ∃ x, l[i]? = some x ∧ R e x
  | _, _, .nil, i, e, h => by simp at h
  | _, _, .cons a t es ts h hs, i, e, he => by
    cases i with
    | zero => simp at he; subst he; exact ⟨t, rfl, h⟩
    | succ i => exact hs.get (by simpa using he)
theorem AllR.get' : ∀ {es : List AV} {l : List α}, AllR R es l → ∀ {i : Nat} {x : α}, l[i]? = some x → ∃ e, es[i]? = some e ∧ R e x
  | _, _, .nil, i, e, h => by simp at h
  | _, _, .cons a t es ts h hs, i, e, he => by
    cases i with
    | zero => simp at he; subst he; exact ⟨a, rfl, h⟩
    | succ i => exact hs.get' (by simpa using he)
theorem AllR.app : ∀ {es es' : List AV} {l l' : List α}, AllR R es l → AllR R es' l' → AllR R (es ++ es') (l ++ l')
  | _, _, _, _, .nil, h => h
  | _, _, _, _, .cons a t es ts h hs, h' => .cons a t _ _ h (hs.app h')
theorem AllR.one {a : AV} {x : α} (h : R a x) : AllR R [a] [x] := .cons a x [] [] h .nil
theorem AllR.mem : ∀ {es : List AV} {l : List α}, AllR R es l → ∀ e ∈ es, ∃ x ∈ l, R e x
  | _, _, .nil, e, h => by simp at h
  | _, _, .cons a t es ts h hs, e, he => by
    rcases List.mem_cons.1 he with rfl | he
    · exact ⟨t, by simp, h⟩
    · obtain ⟨x, hx, r⟩ := hs.mem e he
      exact ⟨x, by simp [hx], r⟩
theorem allR_of : ∀ {l : List AV}, (∀ el ∈ l, ∃ x, R el x) → ∃ xs, AllR R l xs
  | [], _ => ⟨[], .nil⟩
  | a :: l, h => by
    obtain ⟨t, ht⟩ := h a (by simp)
    obtain ⟨ts, hts⟩ := allR_of (l := l) (fun el hm => h el (by simp [hm]))
    exact ⟨t :: ts, .cons a t l ts ht hts⟩
end

/-- a slice that is read, whose elements are told by R -/
def IsS {α : Type} (sz : Nat) (R : AV → α → Prop) (c : AV) (l : List α) : Prop := ∃ es, Sl sz c es ∧ AllR R es l ∧ es.length ≤ maxLen
/-- a whole number -/
def IsI (a : AV) (n : Int) : Prop := a = .v (.int .i64 n)
theorem IsI.elm {a : AV} {n : Int} (h : IsI a n) : El false 1 a := by
  cases h; exact ⟨rfl, rfl, fun _ => rfl, rfl, rfl, rfl⟩
theorem El.int (n : Int) : El false 1 (.v (.int .i64 n)) := ⟨rfl, rfl, fun _ => rfl, rfl, rfl, rfl⟩
theorem El.str (s : ByteArray) : El false 1 (.v (.string s)) := ⟨rfl, rfl, fun _ => rfl, rfl, rfl, rfl⟩

theorem fits_small {n b : Nat} (hn : n ≤ 1000000) (hb : b ≤ 1000) : fits n b = true := by
  have : n * b ≤ 1000000 * 1000 := Nat.mul_le_mul hn hb
  have : room = 140737488355328 := rfl
  simp only [fits, decide_eq_true_eq]; omega
theorem lvf_own {h : List AO} {sz id ver n k : Nat} {l : List AV} (hr : h[id]? = some (.row sz ver l k)) (hn : n ≤ l.length) : lvf h (.own sz id ver 0 n) = some (.slc sz false false (l.take n), []) := by
  simp [lvf, AV.frz2, AV.frz1, AV.frz0, row_at hr hn]
def cloneR (sz : Nat) (h : List AO) : List AV → AV × List AO
  | [] => (.slc sz true false [], h)
  | e :: l => (.own sz h.length 0 0 (l.length + 1), h ++ [.row sz 0 (e :: l) 0])
theorem clone_call {F' : FuncId → Option FEntry} {f : FuncId} {sz bytes : Nat} (hf : F' f = some (.oracle (cloneG sz bytes))) {x : AV} {es : List AV} {h : List AO} (he : elemsOf h sz x = some es) (hfit : fits es.length bytes = true) :
    callW F' f [x] h = some (cloneR sz h es) := by
  refine callW_oracle hf ?_
  simp only [cloneG, he]
  cases es with
  | nil => rfl
  | cons e l => simp only [List.length_cons] at hfit; simp only [hfit, if_true, cloneR]

/-- a clause -/
structure Cl where
  hd : Tm
  body : List Tm
  vars : Int
inductive IsCl : AV → Cl → Prop
  | mk (k : Int) (s : ByteArray) (n : Int) (c : AV) (l : List Tm) (hc : IsL c l) (b : AV) (bl : List Tm) (hb : IsL b bl) (vs : Int) : IsCl (.agg [.v (.int .i64 k), .v (.string s), .v (.int .i64 n), c, b, .v (.int .i64 vs)]) ⟨.mk k s n l, bl, vs⟩
theorem IsL.sn {c : AV} {l : List Tm} (h : IsL c l) (H : List AO) : c.snap0 H = some c := by cases h <;> rfl
theorem IsL.len {c : AV} {l : List Tm} (h : IsL c l) (H : List AO) : evLen H .slice c = some l.length := by
  cases h with
  | nil => rfl
  | slc ex nn es l h1 h2 => rw [← h1.length]; rfl
theorem IsCl.elm {a : AV} {x : Cl} (h : IsCl a x) : El true 6 a := by
  cases h with
  | mk k s n c l hc b bl hb vs =>
    cases hc <;> cases hb <;> exact ⟨rfl, rfl, fun _ => rfl, rfl, rfl, rfl⟩
theorem IsB.sl {c : AV} {l : List (Int × Tm)} (h : IsB c l) : ∃ es, Sl 5 c es ∧ AllB es l ∧ es.length ≤ maxLen := by
  cases h with
  | nil => exact ⟨[], .nil, .nil, by simp⟩
  | slc ex nn es l h hb => exact ⟨es, .slc ex nn es, h, hb⟩
theorem AllB.mem : ∀ {es : List AV} {l : List (Int × Tm)}, AllB es l → ∀ e ∈ es, ∃ v t, IsBd e v t
  | _, _, .nil, e, h => by simp at h
  | _, _, .cons a v t es ts h hs, e, he => by
    rcases List.mem_cons.1 he with rfl | he
    · exact ⟨v, t, h⟩
    · exact hs.mem e he
theorem All2.mem : ∀ {es : List AV} {l : List Tm}, All2 es l → ∀ e ∈ es, ∃ t ∈ l, IsT e t
  | _, _, .nil, e, h => by simp at h
  | _, _, .cons a t es ts h hs, e, he => by
    rcases List.mem_cons.1 he with rfl | he
    · exact ⟨t, by simp, h⟩
    · obtain ⟨x, hx, r⟩ := hs.mem e he
      exact ⟨x, by simp [hx], r⟩

/-! ### What comes in -/
section
variable {T : Tb}
theorem wt_ints {t e : TypeId} {i j : TI} (h : T.ty t = some i) (hd : i.desc = .slice e) (hj : T.ty e = some j) (hjd : j.desc = .int .i64) (hsz : j.size = 1) (hag : j.agg = false) {cs : List AV} (w : WT T t cs) : ∃ c l, cs = [c] ∧ IsS 1 IsI c l := by
  rcases wt_slice_of h hd hj w with rfl | ⟨l, rfl, hl, hel, has⟩
  · exact ⟨_, [], rfl, [], .nil, .nil, by simp⟩
  · obtain ⟨xs, hxs⟩ := allR_of (R := IsI) (l := l) (fun el hm => by
      obtain ⟨n, hn, _⟩ := wt_int_of hj hjd (hel el hm)
      have := has el hm
      rw [hag] at this
      exact ⟨n, one_cell this hn⟩)
    rw [hsz]
    exact ⟨_, xs, rfl, l, .slc _ _ _, hxs, hl⟩
theorem wt_bd {tI tS tN tT tL tB : TypeId} (hT : TmTy T tI tS tN tT tL) {i : TI} {f0 f1 : Field} (h : T.ty tB = some i) (hd : i.desc = .struct #[f0, f1]) (h0 : f0.type = tN) (h1 : f1.type = tT) {cs : List AV} (w : WT T tB cs) : ∃ v x, IsBd (.agg cs) v x := by
  obtain ⟨a, b, rfl, w0, w1⟩ := wt_struct2 h hd w
  obtain ⟨xn, hn1, hn2⟩ := hT.n
  rw [h0] at w0; rw [h1] at w1
  obtain ⟨v, rfl, _⟩ := wt_int_of hn1 hn2 w0
  obtain ⟨x, hx⟩ := hT.term w1
  exact ⟨v, x, .mk v b x hx⟩
theorem allB_of : ∀ {l : List AV}, (∀ el ∈ l, ∃ v t, IsBd el v t) → ∃ ts, AllB l ts
  | [], _ => ⟨[], .nil⟩
  | a :: l, h => by
    obtain ⟨v, t, ht⟩ := h a (by simp)
    obtain ⟨ts, hts⟩ := allB_of (l := l) (fun el hm => h el (by simp [hm]))
    exact ⟨(v, t) :: ts, .cons a v t l ts ht hts⟩
theorem wt_binds {tI tS tN tT tL tB tBs : TypeId} (hT : TmTy T tI tS tN tT tL) {i : TI} {f0 f1 : Field} (h : T.ty tB = some i) (hd : i.desc = .struct #[f0, f1]) (h0 : f0.type = tN) (h1 : f1.type = tT) (hsz : i.size = 5) (hag : i.agg = true) {j : TI} (hj : T.ty tBs = some j) (hjd : j.desc = .slice tB) {cs : List AV} (w : WT T tBs cs) : ∃ c l, cs = [c] ∧ IsB c l := by
  rcases wt_slice_of hj hjd h w with rfl | ⟨l, rfl, hl, hel, has⟩
  · exact ⟨_, [], rfl, .nil⟩
  · obtain ⟨xs, hxs⟩ := allB_of (l := l) (fun el hm => by
      obtain ⟨v, x, hx⟩ := wt_bd hT h hd h0 h1 (hel el hm)
      have := has el hm
      rw [hag] at this
      rw [← agg_cells this] at hx
      exact ⟨v, x, hx⟩)
    rw [hsz]
    exact ⟨_, xs, rfl, .slc _ _ _ _ hxs hl⟩
theorem wt_cl {tI tS tN tT tL tC : TypeId} (hT : TmTy T tI tS tN tT tL) {i : TI} {f0 f1 f2 : Field} (h : T.ty tC = some i) (hd : i.desc = .struct #[f0, f1, f2]) (h0 : f0.type = tT) (h1 : f1.type = tL) (h2 : f2.type = tI) {cs : List AV} (w : WT T tC cs) : ∃ x, IsCl (.agg cs) x := by
  obtain ⟨a, b, c, rfl, w0, w1, w2⟩ := wt_struct3 h hd w
  obtain ⟨xi, hi1, hi2⟩ := hT.i
  rw [h0] at w0; rw [h1] at w1; rw [h2] at w2
  obtain ⟨x, hx⟩ := hT.term w0
  obtain ⟨b', bl, rfl, hb⟩ := hT.terms w1
  obtain ⟨v, rfl, _⟩ := wt_int_of hi1 hi2 w2
  cases hx with
  | mk k s n c' l hc => exact ⟨_, .mk k s n c' l hc b' bl hb v⟩
theorem wt_cls {tI tS tN tT tL tC tCs : TypeId} (hT : TmTy T tI tS tN tT tL) {i : TI} {f0 f1 f2 : Field} (h : T.ty tC = some i) (hd : i.desc = .struct #[f0, f1, f2]) (h0 : f0.type = tT) (h1 : f1.type = tL) (h2 : f2.type = tI) (hsz : i.size = 6) (hag : i.agg = true) {j : TI} (hj : T.ty tCs = some j) (hjd : j.desc = .slice tC) {cs : List AV} (w : WT T tCs cs) : ∃ c l, cs = [c] ∧ IsS 6 IsCl c l := by
  rcases wt_slice_of hj hjd h w with rfl | ⟨l, rfl, hl, hel, has⟩
  · exact ⟨_, [], rfl, [], .nil, .nil, by simp⟩
  · obtain ⟨xs, hxs⟩ := allR_of (R := IsCl) (l := l) (fun el hm => by
      obtain ⟨x, hx⟩ := wt_cl hT h hd h0 h1 h2 (hel el hm)
      have := has el hm
      rw [hag] at this
      rw [← agg_cells this] at hx
      exact ⟨x, hx⟩)
    rw [hsz]
    exact ⟨_, xs, rfl, l, .slc _ _ _, hxs, hl⟩
end
end Go.AE
end
