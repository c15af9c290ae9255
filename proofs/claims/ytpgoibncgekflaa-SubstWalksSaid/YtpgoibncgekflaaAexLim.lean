/- AE, part 30: calls without a bound. -/
import Derived.Test.YtpgoibncgekflaaAexCall
set_option linter.unusedVariables false
set_option linter.unusedSimpArgs false
namespace Go.AE
open Go Go.RowKit

def CallF.le (a b : CallF) : Prop := ∀ (f : FuncId) (as : List AV) (h : List AO) (r : AV × List AO), a f as h = some r → b f as h = some r

section
variable {call call' : CallF} {vars env : List AV} {h : List AO}
theorem evOp_mono (hle : call.le call') {c : COp} {r : AV × List AO} (he : evOp call vars env h c = some r) : evOp call' vars env h c = some r := by
  cases c with
  | call p f args =>
    cases p with
    | true =>
      simp only [evOp] at he ⊢
      split at he
      · rename_i as has
        split at he
        · rename_i hc
          cases he
          rw [hle _ _ _ _ hc]
        · cases he
      · cases he
    | false => exact hle _ _ _ _ he
  | callv x args =>
    simp only [evOp] at he ⊢
    split at he
    · exact hle _ _ _ _ he
    · cases he
  | _ => exact he

theorem evOps_mono (hle : call.le call') : ∀ (cs : List CO) (vars env : List AV) (h : List AO) (r : List AV × List AO), evOps call cs vars env h = some r → evOps call' cs vars env h = some r := by
  intro cs
  induction cs with
  | nil => intro vars env h r he; exact he
  | cons c cs ih =>
    intro vars env h r he
    simp only [evOps] at he ⊢
    split at he
    · rename_i hg
      split at he
      · rename_i v h' hev
        rw [evOp_mono hle hev]
        exact ih _ _ _ _ he
      · cases he
    · rename_i g want hg
      split at he
      · rename_i b hb
        split at he
        · rename_i hbw
          rw [if_pos hbw]
          split at he
          · rename_i v h' hev
            rw [evOp_mono hle hev]
            exact ih _ _ _ _ he
          · cases he
        · rename_i hbw
          rw [if_neg hbw]
          exact ih _ _ _ _ he
      · rename_i z hz
        exact ih _ _ _ _ he
      · cases he

theorem loopN_mono {step step' : List AV → List AO → CRun} {keep : List Bool} (hs : ∀ vars h r, step vars h = some r → step' vars h = some r) : ∀ (n m : Nat), n ≤ m → ∀ vars h r, loopN step keep n vars h = some r → loopN step' keep m vars h = some r := by
  intro n
  induction n with
  | zero => intro m _ vars h r he; simp [loopN] at he
  | succ n ih =>
    intro m hm vars h r he
    obtain ⟨m, rfl⟩ : ∃ k, m = k + 1 := ⟨m - 1, by omega⟩
    simp only [loopN] at he ⊢
    cases hst : step (clr keep vars) h with
    | none => rw [hst] at he; cases he
    | some q =>
      rw [hst] at he
      rw [hs _ _ _ hst]
      obtain ⟨x, v', h'⟩ := q
      cases x with
      | normal => exact ih m (by omega) _ _ _ he
      | exit id => exact he
      | ret => exact he

theorem exec_mono (hle : call.le call') {n m : Nat} (hnm : n ≤ m) : ∀ (c : CC) (vars : List AV) (h : List AO) (r : AXit × List AV × List AO), exec call n c vars h = some r → exec call' m c vars h = some r := by
  intro c
  induction c with
  | skip => intro vars h r he; exact he
  | exit id => intro vars h r he; exact he
  | ret => intro vars h r he; exact he
  | region ms aps ops =>
    intro vars h r he
    simp only [exec] at he ⊢
    split at he
    · rename_i hap
      rw [if_pos hap]
      obtain ⟨q, h1, rfl⟩ := Option.map_eq_some_iff.1 he
      rw [evOps_mono hle _ _ _ _ _ h1]; rfl
    · cases he
  | seq a b iha ihb =>
    intro vars h r he
    simp only [exec] at he ⊢
    cases ha : exec call n a vars h with
    | none => rw [ha] at he; cases he
    | some q =>
      rw [ha] at he
      rw [iha _ _ _ ha]
      obtain ⟨x, v', h'⟩ := q
      cases x with
      | normal => exact ihb _ _ _ he
      | exit id => exact he
      | ret => exact he
  | cond c x y ihx ihy =>
    intro vars h r he
    simp only [exec] at he ⊢
    split at he
    · rename_i b hb
      cases b
      · exact ihy _ _ _ he
      · exact ihx _ _ _ he
    · cases he
  | block id b ih =>
    intro vars h r he
    simp only [exec] at he ⊢
    cases hb : exec call n b vars h with
    | none => rw [hb] at he; cases he
    | some q => rw [hb] at he; rw [ih _ _ _ hb]; exact he
  | loop keep ms b ih =>
    intro vars h r he
    simp only [exec] at he ⊢
    exact loopN_mono ih n m hnm _ _ _ he
end

theorem callN_mono (F : FuncId → Option FEntry) : ∀ (n m : Nat), n ≤ m → (callN F n).le (callN F m) := by
  intro n
  induction n with
  | zero => intro m _ f as h r he; simp [callN] at he
  | succ n ih =>
    intro m hm f as h r he
    obtain ⟨m, rfl⟩ : ∃ k, m = k + 1 := ⟨m - 1, by omega⟩
    have hle := ih m (by omega)
    simp only [callN] at he ⊢
    split at he
    · rename_i c hf
      split at he
      · rename_i hl
        rw [if_pos hl]
        cases hx : exec (callN F n) n c.body (start c as) h with
        | none => rw [hx] at he; cases he
        | some q => rw [hx] at he; rw [exec_mono hle (by omega) _ _ _ _ hx]; exact he
      · cases he
    · rename_i c hf
      split at he
      · rename_i hl
        rw [if_pos hl]
        cases hx : exec (callN F n) n c.body (start c as) h with
        | none => rw [hx] at he; cases he
        | some q => rw [hx] at he; rw [exec_mono hle (by omega) _ _ _ _ hx]; exact he
      · cases he
    · rename_i g hf
      exact he
    · cases he

/-- What some bound gives. -/
def Comes (F : FuncId → Option FEntry) (f : FuncId) (as : List AV) (h : List AO) (r : AV × List AO) : Prop := ∃ n, callN F n f as h = some r

theorem Comes.unique {F : FuncId → Option FEntry} {f : FuncId} {as : List AV} {h : List AO} {r s : AV × List AO} (a : Comes F f as h r) (b : Comes F f as h s) : r = s := by
  obtain ⟨n, hn⟩ := a
  obtain ⟨m, hm⟩ := b
  have h1 := callN_mono F n (max n m) (Nat.le_max_left _ _) _ _ _ _ hn
  have h2 := callN_mono F m (max n m) (Nat.le_max_right _ _) _ _ _ _ hm
  rw [h1] at h2
  exact Option.some.inj h2

open Classical in
/-- Calls, without a bound. -/
noncomputable def callW (F : FuncId → Option FEntry) : CallF := fun f as h => if hx : ∃ r, Comes F f as h r then some (Classical.choose hx) else none

theorem callW_iff {F : FuncId → Option FEntry} {f : FuncId} {as : List AV} {h : List AO} {r : AV × List AO} : callW F f as h = some r ↔ ∃ n, callN F n f as h = some r := by
  unfold callW
  constructor
  · intro he
    split at he
    · rename_i hx
      cases he
      exact Classical.choose_spec hx
    · cases he
  · intro hc
    have hx : ∃ r, Comes F f as h r := ⟨r, hc⟩
    rw [dif_pos hx, Comes.unique (Classical.choose_spec hx) hc]

section
variable {F : FuncId → Option FEntry} {vars env : List AV} {h : List AO}
theorem lim_op {c : COp} {r : AV × List AO} (he : evOp (callW F) vars env h c = some r) : ∃ n, evOp (callN F n) vars env h c = some r := by
  cases c with
  | call p f args =>
    cases p with
    | true =>
      simp only [evOp] at he ⊢
      split at he
      · rename_i as has
        split at he
        · rename_i hc
          cases he
          obtain ⟨n, hn⟩ := callW_iff.1 hc
          exact ⟨n, by rw [hn]⟩
        · cases he
      · cases he
    | false => exact callW_iff.1 he
  | callv x args =>
    simp only [evOp] at he ⊢
    split at he
    · exact callW_iff.1 he
    · cases he
  | _ => exact ⟨0, he⟩

theorem lim_ops : ∀ (cs : List CO) (vars env : List AV) (h : List AO) (r : List AV × List AO), evOps (callW F) cs vars env h = some r → ∃ n, evOps (callN F n) cs vars env h = some r := by
  intro cs
  induction cs with
  | nil => intro vars env h r he; exact ⟨0, he⟩
  | cons c cs ih =>
    intro vars env h r he
    have go : ∀ v h' q, evOp (callW F) vars env h c.op = some (v, h') → evOps (callW F) cs (setO vars c.wr v) (v :: env) h' = some q →
        ∃ n, evOp (callN F n) vars env h c.op = some (v, h') ∧ evOps (callN F n) cs (setO vars c.wr v) (v :: env) h' = some q := by
      intro v h' q h1 h2
      obtain ⟨n, hn⟩ := lim_op h1
      obtain ⟨m, hm⟩ := ih _ _ _ _ h2
      exact ⟨max n m, evOp_mono (callN_mono F _ _ (Nat.le_max_left _ _)) hn, evOps_mono (callN_mono F _ _ (Nat.le_max_right _ _)) _ _ _ _ _ hm⟩
    simp only [evOps] at he ⊢
    split at he
    · rename_i hg
      split at he
      · rename_i v h' hev
        obtain ⟨n, h1, h2⟩ := go _ _ _ hev he
        exact ⟨n, by rw [h1]; exact h2⟩
      · cases he
    · rename_i g want hg
      split at he
      · rename_i b hb
        split at he
        · rename_i hbw
          simp only [if_pos hbw]
          split at he
          · rename_i v h' hev
            obtain ⟨n, h1, h2⟩ := go _ _ _ hev he
            exact ⟨n, by rw [h1]; exact h2⟩
          · cases he
        · rename_i hbw
          simp only [if_neg hbw]
          exact ih _ _ _ _ he
      · rename_i z hz
        exact ih _ _ _ _ he
      · cases he

theorem lim_exec {k : Nat} : ∀ (c : CC) (vars : List AV) (h : List AO) (r : AXit × List AV × List AO), exec (callW F) k c vars h = some r → ∃ n, exec (callN F n) k c vars h = some r := by
  have up : ∀ {n m : Nat}, n ≤ m → ∀ (c : CC) (vars : List AV) (h : List AO) (r : AXit × List AV × List AO), exec (callN F n) k c vars h = some r → exec (callN F m) k c vars h = some r :=
    fun hnm => exec_mono (callN_mono F _ _ hnm) (Nat.le_refl k)
  intro c
  induction c with
  | skip => intro vars h r he; exact ⟨0, he⟩
  | exit id => intro vars h r he; exact ⟨0, he⟩
  | ret => intro vars h r he; exact ⟨0, he⟩
  | region ms aps ops =>
    intro vars h r he
    simp only [exec] at he ⊢
    split at he
    · rename_i hap
      simp only [if_pos hap]
      obtain ⟨q, h1, rfl⟩ := Option.map_eq_some_iff.1 he
      obtain ⟨n, hn⟩ := lim_ops _ _ _ _ _ h1
      exact ⟨n, by rw [hn]; rfl⟩
    · cases he
  | seq a b iha ihb =>
    intro vars h r he
    simp only [exec] at he ⊢
    cases ha : exec (callW F) k a vars h with
    | none => rw [ha] at he; cases he
    | some q =>
      rw [ha] at he
      obtain ⟨n, hn⟩ := iha _ _ _ ha
      obtain ⟨x, v', h'⟩ := q
      cases x with
      | normal =>
        obtain ⟨m, hm⟩ := ihb _ _ _ he
        exact ⟨max n m, by rw [up (Nat.le_max_left _ _) _ _ _ _ hn]; exact up (Nat.le_max_right _ _) _ _ _ _ hm⟩
      | exit id => exact ⟨n, by rw [hn]; exact he⟩
      | ret => exact ⟨n, by rw [hn]; exact he⟩
  | cond c x y ihx ihy =>
    intro vars h r he
    simp only [exec] at he ⊢
    split at he
    · rename_i b hb
      cases b
      · exact ihy _ _ _ he
      · exact ihx _ _ _ he
    · cases he
  | block id b ih =>
    intro vars h r he
    simp only [exec] at he ⊢
    cases hb : exec (callW F) k b vars h with
    | none => rw [hb] at he; cases he
    | some q =>
      rw [hb] at he
      obtain ⟨n, hn⟩ := ih _ _ _ hb
      exact ⟨n, by rw [hn]; exact he⟩
  | loop keep ms b ih =>
    intro vars h r he
    simp only [exec] at he ⊢
    generalize (ms.foldl doMark (vars, h)).1 = vars0 at he ⊢
    generalize (ms.foldl doMark (vars, h)).2 = h0 at he ⊢
    have key : ∀ (j : Nat) (vars : List AV) (h : List AO), loopN (exec (callW F) k b) keep j vars h = some r → ∃ n, loopN (exec (callN F n) k b) keep j vars h = some r := by
      intro j
      induction j with
      | zero => intro vars h he; simp [loopN] at he
      | succ j ihj =>
        intro vars h he
        simp only [loopN] at he ⊢
        cases hb : exec (callW F) k b (clr keep vars) h with
        | none => rw [hb] at he; cases he
        | some q =>
          rw [hb] at he
          obtain ⟨n, hn⟩ := ih _ _ _ hb
          obtain ⟨x, v', h'⟩ := q
          cases x with
          | normal =>
            obtain ⟨m, hm⟩ := ihj _ _ he
            refine ⟨max n m, ?_⟩
            rw [up (Nat.le_max_left _ _) _ _ _ _ hn]
            exact loopN_mono (up (Nat.le_max_right _ _) b) j j (Nat.le_refl _) _ _ _ hm
          | exit id => exact ⟨n, by rw [hn]; exact he⟩
          | ret => exact ⟨n, by rw [hn]; exact he⟩
    exact key k _ _ he

/-- A call of a function that is compiled, by its code. -/
theorem callW_code {f : FuncId} {c : CFun} (hf : F f = some (.code c)) {args : List AV} {r : AV × List AO} (hl : args.length = c.np) (k : Nat) (he : leave h.length c (exec (callW F) k c.body (start c args) h) = some r) : callW F f args h = some r := by
  rw [callW_iff]
  cases hx : exec (callW F) k c.body (start c args) h with
  | none => rw [hx] at he; cases he
  | some q =>
    obtain ⟨n, hn⟩ := lim_exec _ _ _ _ hx
    refine ⟨max n k + 1, ?_⟩
    simp only [callN, hf, if_pos hl]
    rw [exec_mono (callN_mono F _ _ (Nat.le_max_left n k)) (Nat.le_max_right n k) _ _ _ _ hn]
    rw [hx] at he
    exact he
theorem callW_oracle {f : FuncId} {g : List AV → List AO → Option (AV × List AO)} (hf : F f = some (.oracle g)) {args : List AV} {r : AV × List AO} (he : g args h = some r) : callW F f args h = some r := by
  rw [callW_iff]
  exact ⟨1, by simp only [callN, hf]; exact he⟩
end
end Go.AE
