/- AE, part 21: code. -/
import Derived.Test.YtpgoibncgekflaaAexLeave
set_option linter.unusedVariables false
set_option linter.unusedSimpArgs false
namespace Go.AE
open Go Go.RowKit

/-- What to agree on ahead of a region, and ahead of a loop (named by the block around it), which variables a loop goes on with. None of it is asked to be right. -/
structure Hints where
  rm : Nat → List Mark
  ap : Nat → List (Option Nat × Nat)
  lk : Nat → List Bool × List Mark

def AXit.toExit : AXit → Exit
  | .normal => .normal
  | .exit id => .exit id
  | .ret => .ret

section
variable (T : Tb) (nt : Nat) (vt : List Tmp) (H : Hints) (drawOk : List (Option Nat × Nat) → Array Oper → List CO → Bool)
def compCode : Nat → Code → Option CC
  | _, .skip => some .skip
  | _, .label _ => some .skip
  | _, .region id ops draw => match compOps T nt vt ops [] ops.toList with
    | some cs => if !draw || drawOk (H.ap id) ops cs then some (.region (H.rm id) (H.ap id) cs) else none
    | none => none
  | n, .seq a b => match compCode n a, compCode n b with
    | some x, some y => some (.seq x y)
    | _, _ => none
  | n, .cond c a b => match cO (mOf vt []) c, compCode n a, compCode n b with
    | some c, some x, some y => some (.cond c x y)
    | _, _, _ => none
  | _, .block id b => (compCode id b).map (.block id)
  | n, .loop b => (compCode n b).map (.loop (H.lk n).1 (H.lk n).2)
  | _, .exit id => some (.exit id)
  | _, .ret => some .ret
  | _, _ => none
end

section
variable {P : Program} {B : Nat} {w0 w w' : World} {I I' : Cells} {σ σ' : List Loc} {h : List AO} {vt : List Tmp} {nt : Nat} {vars env : List AV} {lm : List (Option Tmp)} {a : Act}

theorem clr_ok (hv : VOk I w σ vt nt vars a) (keep : List Bool) : VOk I w σ vt nt (clr keep vars) a := by
  have len : ∀ (ks : List Bool) (xs : List AV), (clr ks xs).length = xs.length := by
    intro ks
    induction ks with
    | nil => intro xs; cases xs <;> rfl
    | cons k ks ih => intro xs; cases xs with
      | nil => rfl
      | cons x xs => simp [clr, ih]
  have get : ∀ (ks : List Bool) (xs : List AV) (i : Nat) (v : AV), (clr ks xs)[i]? = some v → v = .junk ∨ xs[i]? = some v := by
    intro ks
    induction ks with
    | nil => intro xs i v h; cases xs <;> exact .inr h
    | cons k ks ih =>
      intro xs i v h
      cases xs with
      | nil => exact .inr h
      | cons x xs =>
        cases i with
        | zero =>
          simp only [clr, List.getElem?_cons_zero, Option.some.injEq] at h
          cases k
          · exact .inl h.symm
          · exact .inr (by simpa using h)
        | succ i => simpa using ih xs i v (by simpa [clr] using h)
  refine ⟨by rw [len]; exact hv.len, hv.size, hv.defers, hv.nodup, hv.lt, fun i t v h1 h2 => ?_⟩
  rcases get keep vars i v h2 with rfl | h3
  · exact .junk _ _
  · exact hv.rep i t v h1 h3

/-- A region that draws its order goes on as one in the order of the text: owed where such a region is compiled. -/
def DrawOk (P : Program) (T : Tb) (nt : Nat) (vt : List Tmp) (drawOk : List (Option Nat × Nat) → Array Oper → List CO → Bool) : Prop :=
  ∀ (call : CallF), CallOk P call → ∀ (id : Nat) (ap : List (Option Nat × Nat)) (ops : Array Oper) (cs : List CO), compOps T nt vt ops [] ops.toList = some cs → drawOk ap ops cs = true →
    ∀ (B : Nat) (w0 w : World) (I : Cells) (σ : List Loc) (h h' : List AO) (vars vars' : List AV) (a : Act) (Q : Exit → Act → World → Prop), Inv B w0 I σ w h → VOk I w σ vt nt vars a → ap.all (apB vars) = true →
      evOps call cs vars [] h = some (vars', h') → (∀ a' w' I' σ', VOk I' w' σ' vt nt vars' a' → Inv B w0 I' σ' w' h' → Step B I σ w I' σ' w' → Q .normal a' w') → (Code.region id ops true).wp P Q a w

theorem exec_sound {T : Tb} (hT : TbOk P T) {H : Hints} {drawOk : List (Option Nat × Nat) → Array Oper → List CO → Bool} (hD : DrawOk P T nt vt drawOk) {call : CallF} (hcall : CallOk P call) (fuel : Nat) :
    ∀ (c : Code) (n : Nat) (cc : CC), compCode T nt vt H drawOk n c = some cc → ∀ (vars vars' : List AV) (h h' : List AO) (x : AXit) (I : Cells) (σ : List Loc) (w : World) (a : Act) (Q : Exit → Act → World → Prop),
      exec call fuel cc vars h = some (x, vars', h') → VOk I w σ vt nt vars a → Inv B w0 I σ w h →
      (∀ a' w' I' σ', VOk I' w' σ' vt nt vars' a' → Inv B w0 I' σ' w' h' → Step B I σ w I' σ' w' → Q x.toExit a' w') → c.wp P Q a w := by
  intro c
  induction c with
  | skip =>
    intro n cc hc vars vars' h h' x I σ w a Q he hv hI hQ
    simp only [compCode, Option.some.injEq] at hc
    subst hc
    simp only [exec, Option.some.injEq, Prod.mk.injEq] at he
    obtain ⟨rfl, rfl, rfl⟩ := he
    exact wp_skip (hQ a w I σ hv hI (Step.refl _ _ _ _))
  | label l =>
    intro n cc hc vars vars' h h' x I σ w a Q he hv hI hQ
    simp only [compCode, Option.some.injEq] at hc
    subst hc
    simp only [exec, Option.some.injEq, Prod.mk.injEq] at he
    obtain ⟨rfl, rfl, rfl⟩ := he
    exact wp_label (hQ a w I σ hv hI (Step.refl _ _ _ _))
  | exit id =>
    intro n cc hc vars vars' h h' x I σ w a Q he hv hI hQ
    simp only [compCode, Option.some.injEq] at hc
    subst hc
    simp only [exec, Option.some.injEq, Prod.mk.injEq] at he
    obtain ⟨rfl, rfl, rfl⟩ := he
    exact wp_exit (hQ a w I σ hv hI (Step.refl _ _ _ _))
  | ret =>
    intro n cc hc vars vars' h h' x I σ w a Q he hv hI hQ
    simp only [compCode, Option.some.injEq] at hc
    subst hc
    simp only [exec, Option.some.injEq, Prod.mk.injEq] at he
    obtain ⟨rfl, rfl, rfl⟩ := he
    exact wp_ret (hQ a w I σ hv hI (Step.refl _ _ _ _))
  | region id ops draw =>
    intro n cc hc vars vars' h h' x I σ w a Q he hv hI hQ
    simp only [compCode] at hc
    split at hc
    · rename_i cs hcs
      split at hc
      · rename_i hdr
        cases hc
        simp only [exec] at he
        split at he
        case isFalse => cases he
        rename_i hap
        simp only [Option.map_eq_some_iff] at he
        obtain ⟨⟨v2, h2⟩, hev, he⟩ := he
        cases he
        obtain ⟨I1, σ1, g1, g2, g3⟩ := marks_ok (H.rm id) hI hv
        have fin : ∀ a' w' I' σ', VOk I' w' σ' vt nt v2 a' → Inv B w0 I' σ' w' h2 → Step B I1 σ1 w I' σ' w' → Q .normal a' w' := fun a' w' I' σ' q1 q2 q3 => hQ a' w' I' σ' q1 q2 (g2.trans q3)
        cases draw with
        | false =>
          refine wp_region ?_
          have := ops_sound hT hcall (Q := Q) ops.toList 0 [] [] _ _ _ _ cs I1 σ1 w a (by simp) hcs hev g3 ⟨rfl, fun t j _ hj => by simp at hj⟩ g1 fin
          rw [List.range_eq_range']
          simpa using this
        | true =>
          simp only [Bool.not_true, Bool.false_or] at hdr
          exact hD call hcall id _ ops cs hcs hdr B w0 w I1 σ1 _ _ _ _ a Q g1 g3 hap hev fin
      · cases hc
    · cases hc
  | seq p q ihp ihq =>
    intro n cc hc vars vars' h h' x I σ w a Q he hv hI hQ
    simp only [compCode] at hc
    split at hc
    · rename_i cp cq h1 h2
      cases hc
      refine wp_seq ?_
      simp only [exec] at he
      split at he
      · rename_i v2 h2' hep
        exact ihp n cp h1 _ _ _ _ _ I σ w a _ hep hv hI (fun a1 w1 I1 σ1 q1 q2 q3 => ihq n cq h2 _ _ _ _ _ I1 σ1 w1 a1 Q he q1 q2 (fun a' w' I' σ' r1 r2 r3 => hQ a' w' I' σ' r1 r2 (q3.trans r3)))
      · rename_i hne
        refine ihp n cp h1 _ _ _ _ _ I σ w a _ he hv hI (fun a1 w1 I1 σ1 q1 q2 q3 => ?_)
        cases x with
        | normal => exact absurd he (hne _ _)
        | exit id => exact hQ a1 w1 I1 σ1 q1 q2 q3
        | ret => exact hQ a1 w1 I1 σ1 q1 q2 q3
    · cases hc
  | cond c p q ihp ihq =>
    intro n cc hc vars vars' h h' x I σ w a Q he hv hI hQ
    simp only [compCode] at hc
    split at hc
    · rename_i c' cp cq h0 h1 h2
      cases hc
      simp only [exec] at he
      split at he
      · rename_i b hb
        have hrep := (ok_ops hv (EOk.mk (lm := []) (env := []) rfl (fun t j _ hj => by simp at hj))).get h0
        rw [hb] at hrep
        have hbv : a.eval c = .bool b := by generalize a.eval c = z at hrep; cases hrep; rfl
        refine wp_cond hbv ?_
        cases b
        · exact ihq n cq h2 _ _ _ _ _ I σ w a Q he hv hI hQ
        · exact ihp n cp h1 _ _ _ _ _ I σ w a Q he hv hI hQ
      · cases he
    · cases hc
  | block id p ihp =>
    intro n cc hc vars vars' h h' x I σ w a Q he hv hI hQ
    simp only [compCode, Option.map_eq_some_iff] at hc
    obtain ⟨cp, h1, rfl⟩ := hc
    refine wp_block ?_
    simp only [exec] at he
    split at he
    · rename_i id' v2 h2 hep
      cases he
      refine ihp id cp h1 _ _ _ _ _ I σ w a _ hep hv hI (fun a1 w1 I1 σ1 q1 q2 q3 => ?_)
      simp only [AXit.toExit, Exit.inBlock]
      split
      · rename_i e
        have := hQ a1 w1 I1 σ1 q1 q2 q3
        rwa [if_pos e] at this
      · rename_i e
        have := hQ a1 w1 I1 σ1 q1 q2 q3
        rwa [if_neg e] at this
    · rename_i hne
      refine ihp id cp h1 _ _ _ _ _ I σ w a _ he hv hI (fun a1 w1 I1 σ1 q1 q2 q3 => ?_)
      cases x with
      | normal => exact hQ a1 w1 I1 σ1 q1 q2 q3
      | exit id' => exact absurd he (hne _ _ _)
      | ret => exact hQ a1 w1 I1 σ1 q1 q2 q3
  | loop p ihp =>
    intro n cc hc vars vars' h h' x I σ w a Q he hv hI hQ
    simp only [compCode, Option.map_eq_some_iff] at hc
    obtain ⟨cp, h1, rfl⟩ := hc
    simp only [exec] at he
    obtain ⟨I1, σ1, g1, g2, g3⟩ := marks_ok (H.lk n).2 hI hv
    intro b k cs
    have key : ∀ (m : Nat) (vars : List AV) (h : List AO) (I1 : Cells) (σ1 : List Loc) (w1 : World) (a : Act), loopN (exec call fuel cp) (H.lk n).1 m vars h = some (x, vars', h') → VOk I1 w1 σ1 vt nt vars a → Inv B w0 I1 σ1 w1 h → Step B I σ w I1 σ1 w1 →
        ∃ e a' w', Q e a' w' ∧ Arrives P (lone (b.at a (.code p :: .inLoop p :: k)) cs w1) b k cs e a' w' := by
      intro m
      induction m with
      | zero => intro vars h I1 σ1 w1 a he; simp [loopN] at he
      | succ m ih =>
        intro vars h I1 σ1 w1 a he hv hI hst
        simp only [loopN] at he
        split at he
        · rename_i v2 h2 hep
          have := ihp n cp h1 _ _ _ _ _ I1 σ1 w1 a (Exit.then (fun a' w' => ∃ e a'' w'', Q e a'' w'' ∧ Arrives P (lone (b.at a' (.code p :: .inLoop p :: k)) cs w') b k cs e a'' w'') Q) hep (clr_ok hv _) hI
            (fun a2 w2 I2 σ2 q1 q2 q3 => ih _ _ I2 σ2 w2 a2 he q1 q2 (hst.trans q3))
          obtain ⟨e, a₁, w₁, hq, harr⟩ := this b (.inLoop p :: k) cs
          cases e with
          | normal =>
            obtain ⟨e₂, a₂, w₂, hq₂, harr₂⟩ := hq
            exact ⟨e₂, a₂, w₂, hq₂, .of_steps (Steps.trans harr (.one step_inLoop)) harr₂⟩
          | exit id => exact ⟨_, a₁, w₁, hq, .pass (x := .inLoop p) rfl (fun _ _ => .inl (by simp)) harr⟩
          | goto l => exact ⟨_, a₁, w₁, hq, .pass (x := .inLoop p) rfl (fun _ _ => .inl (by simp)) harr⟩
          | ret => exact ⟨_, a₁, w₁, hq, .pass (x := .inLoop p) rfl (fun _ _ => .inl (by simp)) harr⟩
          | panic ch => exact ⟨_, a₁, w₁, hq, .pass (x := .inLoop p) rfl (fun _ _ => .inl (by simp)) harr⟩
          | outgrown => exact ⟨_, a₁, w₁, hq, .pass (x := .inLoop p) rfl (fun _ _ => .inl (by simp)) harr⟩
        · rename_i hne
          have hxn : x ≠ .normal := by rintro rfl; exact absurd he (hne _ _)
          have := ihp n cp h1 _ _ _ _ _ I1 σ1 w1 a (fun e a' w' => e = x.toExit ∧ Q e a' w') he (clr_ok hv _) hI (fun a2 w2 I2 σ2 q1 q2 q3 => ⟨rfl, hQ a2 w2 I2 σ2 q1 q2 (hst.trans q3)⟩)
          obtain ⟨e, a₁, w₁, ⟨rfl, hq⟩, harr⟩ := this b (.inLoop p :: k) cs
          cases x with
          | normal => exact absurd rfl hxn
          | exit id => exact ⟨_, a₁, w₁, hq, .pass (x := .inLoop p) (e := .exit id) rfl (fun _ _ => .inl (by simp)) harr⟩
          | ret => exact ⟨_, a₁, w₁, hq, .pass (x := .inLoop p) (e := .ret) rfl (fun _ _ => .inl (by simp)) harr⟩
    obtain ⟨e, a', w', hq, harr⟩ := key fuel _ _ I1 σ1 w a he g3 g1 g2
    exact ⟨e, a', w', hq, .of_steps (.one step_loop) harr⟩
  | scope b ih => intro n cc hc; simp [compCode] at hc
  | goto l => intro n cc hc; simp [compCode] at hc
  | rangeFunc f ps as b ih1 ih2 => intro n cc hc; simp [compCode] at hc
  | refuse s => intro n cc hc; simp [compCode] at hc
end
end Go.AE
