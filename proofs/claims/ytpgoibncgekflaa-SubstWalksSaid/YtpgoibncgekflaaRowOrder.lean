/- The row of SubstOrder, out of its plain law. -/
import Derived.Test.YtpgoibncgekflaaTab
import Derived.Test.YtpgoibncgekflaaRows
import Derived.WalkKit
import Derived.ProofKit
import Derived.OpenShut
import Derived.ShutString
import Derived.ChangeOld
import Derived.Below
import Derived.SizedLaws
set_option linter.unusedVariables false
namespace Go.Proofs.Ytpgoibncgekflaa
open Go Go.AE Go.Proofs Go.ChangeShapes Go.WideShapes Go.ChangeAt Go.RowKit
open Go.ChangeMaps (open_string shut_string)

theorem own : ownKnob Try.prog.godebug = none := by kernel_rfl
theorem laidOut : laidOutB Try.prog = true := by kernel_rfl
theorem mixed : Try.prog.follows .mixedOrders = true := by kernel_rfl
def G : List TypeId := [2, 3, 9, 22, 23, 25, 41]
theorem hG : goodB T G = true := by kernel_rfl

/-- What a call comes to that is handed what came in. -/
theorem law_calls {f : FuncId} {args : List AV} {vals : Array Value} {W : World} (ha : ArgsRep (AllCells W) W [] args vals) {n : Nat} (he : callN F n f args [] = some (.v (.bool true), [])) :
    Calls Try.prog f vals W fun e W' => e = .returned (.bool true) ∧ Below W.heap.size W W' := by
  have hI : AE.Inv W.heap.size W (AllCells W) [] W [] := ⟨Below.refl _ _, Nat.le_refl _, rfl, fun id o L h => by simp at h, fun id L h => by simp at h, fun i j Li Lj h => by simp at h, fun b x h => h⟩
  refine ((callN_ok mixed hT hF n).calls f args [] _ _ he W.heap.size W (AllCells W) [] W vals hI ha).mono fun e W' h => ?_
  obtain ⟨v, I', σ', rfl, hI', _, hr⟩ := h
  cases hr
  exact ⟨rfl, hI'.below⟩

theorem args4 {I : Cells} {W : World} {a0 a1 a2 a3 : AV} {v0 v1 v2 v3 : Value} (r0 : Rep I W [] a0 v0) (r1 : Rep I W [] a1 v1) (r2 : Rep I W [] a2 v2) (r3 : Rep I W [] a3 v3) : ArgsRep I W [] [a0, a1, a2, a3] #[v0, v1, v2, v3] := by
  refine ⟨rfl, fun i a h => ?_⟩
  match i, h with
  | 0, h => cases h; exact r0
  | 1, h => cases h; exact r1
  | 2, h => cases h; exact r2
  | 3, h => cases h; exact r3

namespace substOrder
def Plain : Prop := ∀ a0 a1 a2 a3 : AV, WT T 22 a0.cells → asEl ti22.agg a0.cells = some a0 → WT T 2 a1.cells → asEl ti2.agg a1.cells = some a1 → WT T 2 a2.cells → asEl ti2.agg a2.cells = some a2 → WT T 25 a3.cells → asEl ti25.agg a3.cells = some a3 →
  ∃ n, callN F n 5 [a0, a1, a2, a3] [] = some (.v (.bool true), [])

set_option maxRecDepth 100000 in
theorem lifted (plain : Plain) (os : Os) (started : os.Started) (H : Type) (enc : TypeId × Value → H) :
    ReturnsInHanded {} Try.checked os 5 .any (Rows.substOrderSpec.pre6 enc Try.prog Try.f5 Rows.substOrderRow.domain false) (Rows.substOrderSpec.post enc Try.prog Try.f5 false true false false) := by
  refine returnsInHanded_of_change_sized (C := Try.checked) own started (by kernel_rfl) Try.func5
    (ChangeSpec.witness6 (enc := enc) (C := Try.checked) false ⟨#[], #[.slice none 0 0, .int .i64 0, .int .i64 0, .agg #[.int .i64 0, .string ByteArray.empty, .int .i64 0, .slice none 0 0]], []⟩ 8 (by kernel_rfl) (by kernel_rfl) (by kernel_rfl) (by kernel_rfl)) ?_
  intro W base args ds gs before hval0 hW hcnd hsz0 _
  have hval : ∀ (j : Nat) t v, Try.f5.params[j]? = some t → args[j]? = some v → Value.okWide Try.prog W .any base t v := hval0
  have hW' := hW
  obtain ⟨p, q, hA0, hV, rfl, hfz, hnd⟩ := hW
  have hA : DataW.TrodAll enc Try.prog W 0 (fun _ => true) true Try.f5.params.toList args.toList ds p := hA0
  rw [Try.params5] at hA hval
  obtain ⟨v0, vs0, d0, ds0, p0, q0, hargs, rfl, rfl, h0, r0⟩ := trodAll_cons hA
  obtain ⟨v1, vs1, d1, ds1, p1, q1, rfl, rfl, rfl, h1, r1⟩ := trodAll_cons r0
  obtain ⟨v2, vs2, d2, ds2, p2, q2, rfl, rfl, rfl, h2, r2⟩ := trodAll_cons r1
  obtain ⟨v3, vs3, d3, ds3, p3, q3, rfl, rfl, rfl, h3, r3⟩ := trodAll_cons r2
  obtain ⟨rfl, rfl, rfl⟩ := trodAll_nil r3
  obtain rfl : args = #[v0, v1, v2, v3] := by cases args; simp_all
  obtain ⟨rfl, rfl⟩ := trodVars_none hV
  obtain ⟨a0, w0, e0, x0⟩ := trod_arg hT hG (t := 22) (i := ti22) (by decide) rfl (hval 0 22 v0 rfl rfl) h0
  obtain ⟨a1, w1, e1, x1⟩ := trod_arg hT hG (t := 2) (i := ti2) (by decide) rfl (hval 1 2 v1 rfl rfl) h1
  obtain ⟨a2, w2, e2, x2⟩ := trod_arg hT hG (t := 2) (i := ti2) (by decide) rfl (hval 2 2 v2 rfl rfl) h2
  obtain ⟨a3, w3, e3, x3⟩ := trod_arg hT hG (t := 25) (i := ti25) (by decide) rfl (hval 3 25 v3 rfl rfl) h3
  have l0 : ∀ x ∈ p0, x.block < W.heap.size := by obtain ⟨m, hm⟩ := h0; exact DataW.trod_lt m _ _ _ hm
  have l1 : ∀ x ∈ p1, x.block < W.heap.size := by obtain ⟨m, hm⟩ := h1; exact DataW.trod_lt m _ _ _ hm
  have l2 : ∀ x ∈ p2, x.block < W.heap.size := by obtain ⟨m, hm⟩ := h2; exact DataW.trod_lt m _ _ _ hm
  have l3 : ∀ x ∈ p3, x.block < W.heap.size := by obtain ⟨m, hm⟩ := h3; exact DataW.trod_lt m _ _ _ hm
  obtain ⟨n, hn⟩ := plain a0 a1 a2 a3 w0 e0 w1 e1 w2 e2 w3 e3
  refine (law_calls (args4 x0 x1 x2 x3) hn).mono fun e W' ⟨he, bel⟩ => ?_
  subst he
  exact ⟨_, rfl, _, _, _, [], _, [], hW', trodAll_mk1 (shut_bool Try.underlying4 _),
    (trodAll_cons_mk (Below.trod laidOut (by kernel_rfl) (of_decide_eq_true (by kernel_rfl)) h0 bel l0) (trodAll_cons_mk (Below.trod laidOut (by kernel_rfl) (of_decide_eq_true (by kernel_rfl)) h1 bel l1) (trodAll_cons_mk (Below.trod laidOut (by kernel_rfl) (of_decide_eq_true (by kernel_rfl)) h2 bel l2) (trodAll_cons_mk (Below.trod laidOut (by kernel_rfl) (of_decide_eq_true (by kernel_rfl)) h3 bel l3) trodAll_mk0)))), rfl, bel.frame _, fun h => by cases h⟩
theorem over (plain : Plain) : Rows.substOrderRow.holds Try.pinned (OpenSpec.ofChange Rows.substOrderSpec) :=
  OpenClaim.holds_of_wide 5 Try.f5 rfl rfl rfl rfl rfl rfl rfl ⟨rfl, rfl, rfl, rfl, rfl⟩ rfl rfl rfl rfl rfl (by kernel_rfl) Try.func5 (by kernel_rfl)
    (of_decide_eq_true (by kernel_rfl)) (by unfold Func.isWrapper; first | (rw [if_pos (by decide +kernel)]; kernel_rfl) | (rw [if_neg (by decide +kernel)]; exact ⟨rfl, rfl⟩))
    (fun os started H enc _ => lifted plain os started H enc)
theorem proved (plain : Plain) : Rows.SubstOrderSaid := over plain
end substOrder
end Go.Proofs.Ytpgoibncgekflaa
