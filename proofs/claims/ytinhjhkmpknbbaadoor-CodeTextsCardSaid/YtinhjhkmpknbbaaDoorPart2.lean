/- Texts of this claim, put together. -/
import Derived.Test.YtinhjhkmpknbbaaDoorPart1
import Derived.Test.YtinhjhkmpknbbaaDoorEval3
import Derived.Lib.RuneCountTail
import Derived.Lib.TrimU
import Derived.Shelf.Unicode.DecodeLastEight
import Derived.Lib.QuoteLoop
/-! Whether an atom's text needs no quotes: the program's. -/
section
set_option linter.unusedVariables false
set_option linter.unusedSimpArgs false
namespace Go.AE.YtinhjhkmpknbbaaDoor
open Go Go.AE Go.Proofs.YtinhjhkmpknbbaaDoor

section
variable {call : CallF} {vars env : List AV} {h : List AO}
def ssV (x : AV) (lo hi : Option (Option Nat)) : Option AV := match x with
  | .v (.string s) => match slo s.size hi, slo 0 lo with
    | some b, some a => if a ≤ b ∧ b ≤ s.size then some (.v (.string (s.extract a b))) else none
    | _, _ => none
  | _ => none
theorem e_sslice {x : Opd} {lo hi : Option Opd} : evOp call vars env h (.sslice x lo hi) = withH h (ssV (getO vars env x) (lo.map (natO vars env)) (hi.map (natO vars env))) := by
  simp only [evOp, ssV, bounds, slo_opt]
  generalize getO vars env x = a
  cases a with
  | v x =>
    cases x with
    | string s =>
      simp only
      cases slo s.size (hi.map (natO vars env)) with
      | none => rfl
      | some b =>
        cases slo 0 (lo.map (natO vars env)) with
        | none => rfl
        | some a => by_cases e : a ≤ b ∧ b ≤ s.size <;> simp [e, withH]
    | _ => rfl
  | _ => rfl
theorem e_next {x : Opd} : evOp call vars env h (.next x) = evNext h (getO vars env x) := rfl
def rgV (h : List AO) : AV → Option (AV × List AO)
  | .v (.string s) => some (.it h.length, h ++ [.siter s 0])
  | _ => none
theorem e_range {x : Opd} : evOp call vars env h (.range x) = rgV h (getO vars env x) := by
  simp only [evOp, rgV]
  rfl
end
theorem ss_to {s : ByteArray} {b : Nat} (h : b ≤ s.size) : ssV (.v (.string s)) none (some (some b)) = some (.v (.string (s.extract 0 b))) := by simp [ssV, slo, h]
theorem ss_from {s : ByteArray} {a : Nat} (h : a ≤ s.size) : ssV (.v (.string s)) (some (some a)) none = some (.v (.string (s.extract a s.size))) := by simp [ssV, slo, h]

/-! ### A text's runes -/
def rns (s : ByteArray) : Nat → Nat → List Nat
  | 0, _ => []
  | f + 1, p => if p < s.size then (Utf8.decode s p).1 :: rns s f (p + (Utf8.decode s p).2) else []
def runesOf (s : ByteArray) : List Nat := rns s s.size 0
def eqS (s : ByteArray) (l : List UInt8) : Bool := s.toList == (⟨l.toArray⟩ : ByteArray).toList
def preS (s : ByteArray) : Bool := decide ((s.size : Int) ≥ ((2 : Nat) : Int)) && ((s.extract 0 2).toList == (⟨#[47, 42]⟩ : ByteArray).toList)
def okR (f k : Int) : Bool := if (f == 1) = true then !(decide (k < 1) || decide (k > 3)) else if (f == 4) = true then k == 4 else false
def firstC (s : ByteArray) : Int := clsN (Utf8.decode s 0).1
def bareS (s : ByteArray) : Bool :=
  if eqS s [91, 93] || (eqS s [123, 125] || (eqS s [33] || eqS s [59])) then true
  else if eqS s [] || eqS s [46] then false
  else if preS s then false
  else (runesOf s).all fun c => okR (firstC s) (clsN c)
theorem pre_ok (s : ByteArray) : callW F 130 [.v (.string s), .v (.string ⟨#[47, 42]⟩)] [] = some (.v (.bool (preS s)), []) := by
  have h94 : callW F 137 [.v (.string s), .v (.string ⟨#[47, 42]⟩)] [] = some (.v (.bool (preS s)), []) := by
    refine callW_pure (c := c137) rfl rfl 0 ?_
    unfold preS
    have e2 : (⟨#[47, 42]⟩ : ByteArray).size = 2 := rfl
    cases h1 : decide ((s.size : Int) ≥ ((2 : Nat) : Int)) with
    | false => simp only [c137, start, List.replicate, c137_0, c137_1, e2, h1, Bool.false_and, Q0, Q1, Q2, Q3, Q4, Q5, Q6, Q7, Q8, Q9, Q10, Q11, Q12, Q13, Q14, Q15, Q16, Q17, Q18, Q19, Q20, Q21, Q22, Q23, Q24, Q25, Q26, Q27, Q28, Q29, Q30, Q31, Q32, Q33, Q35, Q36, Q37, Q38, Q39, Q40, Q41, Q42, Q43, Q44, Q45, Q46, Q47, Q48, Q49, Q50, Q51, Q52, Q53, Q54, Q55, Q56, Q57, Q58, Q59, Q60, Q61, Q62, Q63, Q64, Q65, Q66, Q67, Q68, Q69, Q70, Q71, Q72, Q73, Q99, Q100, Q101, Q102, Q103, Q74, Q75, Q77, Q78, Q79, Q80, Q81, Q82, Q83, Q84, clr, List.length_nil, List.length_cons, List.getElem?_cons_zero, List.getElem?_cons_succ, Nat.reduceAdd, Nat.zero_add, Nat.add_zero, Nat.reduceLeDiff, Nat.reduceSub, ↓reduceIte, List.drop_succ_cons, List.drop_zero, List.take_succ_cons, List.take_zero, Bool.false_eq_true, List.nil_append, List.cons_append, Bool.not_true, Bool.not_false, cond_true, cond_false, bne, Q85, Q86, Q87, Q88, Q89, Q90, Q91, Q92, Q93, Q94, Q95, Q96, Q97, Q98, Q110, Q111, Q116, Q117, Q118, Q119, Q120, Q121, Q122, Q123, Option.map_some, Option.map_none, Q34]
    | true =>
      have h2 : 2 ≤ s.size := by simp at h1; omega
      have q := ss_to h2
      simp only [c137, start, List.replicate, c137_0, c137_1, e2, h1, e_sslice, q, Bool.true_and, Q0, Q1, Q2, Q3, Q4, Q5, Q6, Q7, Q8, Q9, Q10, Q11, Q12, Q13, Q14, Q15, Q16, Q17, Q18, Q19, Q20, Q21, Q22, Q23, Q24, Q25, Q26, Q27, Q28, Q29, Q30, Q31, Q32, Q33, Q35, Q36, Q37, Q38, Q39, Q40, Q41, Q42, Q43, Q44, Q45, Q46, Q47, Q48, Q49, Q50, Q51, Q52, Q53, Q54, Q55, Q56, Q57, Q58, Q59, Q60, Q61, Q62, Q63, Q64, Q65, Q66, Q67, Q68, Q69, Q70, Q71, Q72, Q73, Q99, Q100, Q101, Q102, Q103, Q74, Q75, Q77, Q78, Q79, Q80, Q81, Q82, Q83, Q84, clr, List.length_nil, List.length_cons, List.getElem?_cons_zero, List.getElem?_cons_succ, Nat.reduceAdd, Nat.zero_add, Nat.add_zero, Nat.reduceLeDiff, Nat.reduceSub, ↓reduceIte, List.drop_succ_cons, List.drop_zero, List.take_succ_cons, List.take_zero, Bool.false_eq_true, List.nil_append, List.cons_append, Bool.not_true, Bool.not_false, cond_true, cond_false, bne, Q85, Q86, Q87, Q88, Q89, Q90, Q91, Q92, Q93, Q94, Q95, Q96, Q97, Q98, Q110, Q111, Q116, Q117, Q118, Q119, Q120, Q121, Q122, Q123, Option.map_some, Option.map_none, Q34]
  refine callW_pure (c := c130) rfl rfl 0 ?_
  simp only [c130, start, List.replicate, c130_0, c130_1, h94, snap_str, Q0, Q1, Q2, Q3, Q4, Q5, Q6, Q7, Q8, Q9, Q10, Q11, Q12, Q13, Q14, Q15, Q16, Q17, Q18, Q19, Q20, Q21, Q22, Q23, Q24, Q25, Q26, Q27, Q28, Q29, Q30, Q31, Q32, Q33, Q35, Q36, Q37, Q38, Q39, Q40, Q41, Q42, Q43, Q44, Q45, Q46, Q47, Q48, Q49, Q50, Q51, Q52, Q53, Q54, Q55, Q56, Q57, Q58, Q59, Q60, Q61, Q62, Q63, Q64, Q65, Q66, Q67, Q68, Q69, Q70, Q71, Q72, Q73, Q99, Q100, Q101, Q102, Q103, Q74, Q75, Q77, Q78, Q79, Q80, Q81, Q82, Q83, Q84, clr, List.length_nil, List.length_cons, List.getElem?_cons_zero, List.getElem?_cons_succ, Nat.reduceAdd, Nat.zero_add, Nat.add_zero, Nat.reduceLeDiff, Nat.reduceSub, ↓reduceIte, List.drop_succ_cons, List.drop_zero, List.take_succ_cons, List.take_zero, Bool.false_eq_true, List.nil_append, List.cons_append, Bool.not_true, Bool.not_false, cond_true, cond_false, bne, Q85, Q86, Q87, Q88, Q89, Q90, Q91, Q92, Q93, Q94, Q95, Q96, Q97, Q98, Q110, Q111, Q116, Q117, Q118, Q119, Q120, Q121, Q122, Q123, Option.map_some, Option.map_none, Q34]

theorem width_pos (s : ByteArray) (p : Nat) : 1 ≤ (Utf8.decode s p).2 := Lib.width_pos s p
theorem rns_cons {s : ByteArray} {f p : Nat} (hp : p < s.size) : rns s (f + 1) p = (Utf8.decode s p).1 :: rns s f (p + (Utf8.decode s p).2) := by rw [rns, if_pos hp]
theorem rns_nil {s : ByteArray} {f p : Nat} (hp : ¬ p < s.size) : rns s f p = [] := by cases f <;> simp [rns, hp]
def V79 (s : ByteArray) (f : Int) (x11 x12 : AV) : List AV := [.v (.string s), .junk, .v (.int .i64 f), .junk, .junk, .junk, .junk, .junk, .junk, .junk, .it 0, x11, x12, .junk, .junk, .junk, .junk, .junk, .junk]
def K79 : List Bool := [true, false, true, false, false, false, false, false, false, false, true, false, false, false, false, false, false, false, false]
theorem bare_loop79 {s : ByteArray} (v : List AV) (hv : clr K79 v = V79 s 0 .junk .junk) :
    ((runesOf s).all (fun c => okR (firstC s) (clsN c)) = true ∧ ∃ (f : Int) (x11 : AV) (h : List AO), loopN (exec (callW F) (s.size + 1) c114_27) K79 (s.size + 1) v [.siter s 0] = some (.exit 1, V79 s f x11 (.v (.bool false)), h)) ∨
    ((runesOf s).all (fun c => okR (firstC s) (clsN c)) = false ∧ ∃ v' h, loopN (exec (callW F) (s.size + 1) c114_27) K79 (s.size + 1) v [.siter s 0] = some (.ret, v', h) ∧ getO v' [] (.var 1) = .v (.bool false)) := by
  obtain ⟨e, v', h', g1, g2, g3⟩ := loop_rule0 (call := callW F) (K := s.size + 1) (b := c114_27) (keep := K79)
    (fun i v h => ∃ (p : Nat) (f : Int), i ≤ p ∧ ((p = 0 ∧ f = 0) ∨ (p ≠ 0 ∧ f = firstC s)) ∧ v = V79 s f .junk .junk ∧ h = [.siter s p] ∧ (rns s (s.size - i) p).all (fun c => okR (firstC s) (clsN c)) = (runesOf s).all (fun c => okR (firstC s) (clsN c)))
    (fun e v h => (e = .exit 1 ∧ (runesOf s).all (fun c => okR (firstC s) (clsN c)) = true ∧ ∃ (f : Int) (x11 : AV), v = V79 s f x11 (.v (.bool false))) ∨ (e = .ret ∧ (runesOf s).all (fun c => okR (firstC s) (clsN c)) = false ∧ getO v [] (.var 1) = .v (.bool false)))
    s.size (m := s.size + 1) (v := v) (h := [.siter s 0]) (by omega) ⟨0, 0, Nat.le_refl _, .inl ⟨rfl, rfl⟩, hv, rfl, rfl⟩ (by
      rintro i v h hi ⟨p, f, hip, hf, rfl, rfl, hR⟩
      by_cases hp : p < s.size
      · have nx : evNext [.siter s p] (.it 0) = some (.tup [.v (.bool true), .v (.int .i64 p), .v (.int .i32 (Utf8.decode s p).1)], [.siter s (p + (Utf8.decode s p).2)]) := by
          simp only [evNext, List.getElem?_cons_zero, hp, if_true, List.set_cons_zero]
        have hw := width_pos s p
        have hil : i < s.size := by omega
        have e1 : s.size - i = (s.size - (i + 1)) + 1 := by omega
        rw [e1, rns_cons hp, List.all_cons] at hR
        have hc := cls_ok (Utf8.decode s p).1
        have hfirst : p = 0 → clsN (Utf8.decode s p).1 = firstC s := by rintro rfl; rfl
        generalize clsN (Utf8.decode s p).1 = k at hc hR hfirst
        have hp0 : ((p : Int) == 0) = decide (p = 0) := by
          by_cases e : p = 0
          · simp [e]
          · simp [e]
        -- behind the first rune's step
        have main : ∀ x13 : Bool, x13 = decide (p = 0) → ∀ ff : Int, ff = firstC s → (if x13 = true then k else f) = ff → ∃ x v' h', exec (callW F) (s.size + 1) c114_27 (V79 s f .junk .junk) [.siter s p] = some (x, v', h') ∧
            Aft s.size i K79 (fun i v h => ∃ (p : Nat) (f : Int), i ≤ p ∧ ((p = 0 ∧ f = 0) ∨ (p ≠ 0 ∧ f = firstC s)) ∧ v = V79 s f .junk .junk ∧ h = [.siter s p] ∧ (rns s (s.size - i) p).all (fun c => okR (firstC s) (clsN c)) = (runesOf s).all (fun c => okR (firstC s) (clsN c)))
              (fun e v h => (e = .exit 1 ∧ (runesOf s).all (fun c => okR (firstC s) (clsN c)) = true ∧ ∃ (f : Int) (x11 : AV), v = V79 s f x11 (.v (.bool false))) ∨ (e = .ret ∧ (runesOf s).all (fun c => okR (firstC s) (clsN c)) = false ∧ getO v [] (.var 1) = .v (.bool false))) x v' h' := by
          intro x13 hx ff hff hsel
          rw [← hff] at hR
          have next : okR ff k = true → Aft s.size i K79 (fun i v h => ∃ (p : Nat) (f : Int), i ≤ p ∧ ((p = 0 ∧ f = 0) ∨ (p ≠ 0 ∧ f = firstC s)) ∧ v = V79 s f .junk .junk ∧ h = [.siter s p] ∧ (rns s (s.size - i) p).all (fun c => okR (firstC s) (clsN c)) = (runesOf s).all (fun c => okR (firstC s) (clsN c)))
              (fun e v h => (e = .exit 1 ∧ (runesOf s).all (fun c => okR (firstC s) (clsN c)) = true ∧ ∃ (f : Int) (x11 : AV), v = V79 s f x11 (.v (.bool false))) ∨ (e = .ret ∧ (runesOf s).all (fun c => okR (firstC s) (clsN c)) = false ∧ getO v [] (.var 1) = .v (.bool false))) .normal (V79 s ff .junk .junk) [.siter s (p + (Utf8.decode s p).2)] := by
            intro hok
            rw [hok, Bool.true_and] at hR
            refine ⟨hil, p + (Utf8.decode s p).2, ff, by omega, .inr ⟨by omega, hff⟩, rfl, rfl, ?_⟩
            rw [← hff]; exact hR
          have hpx : ((p : Int) == 0) = x13 := by rw [hp0, hx]
          have sn : ∀ (h : List AO) (k : IntKind) (x : Int), (AV.v (.int k x)).snap1 h = some (.v (.int k x)) := fun _ _ _ => rfl
          clear hx
          have bad : okR ff k = false → (runesOf s).all (fun c => okR (firstC s) (clsN c)) = false := by
            intro hok
            rw [hok, Bool.false_and] at hR
            rw [← hff]; exact hR.symm
          have sel : ∀ vs : Bool, x13 = vs → (if vs = true then k else f) = ff := by rintro _ rfl; exact hsel
          clear hsel hR
          cases q1 : (ff == 1) with
          | true =>
            cases q2 : decide (k < 1) with
            | true =>
              have hok : okR ff k = false := by simp only [okR, q1, q2, if_true, Bool.true_or, Bool.not_true]
              refine ⟨.ret, [.v (.string s), .v (.bool false), .v (.int .i64 ff), .v (.int .i64 p), .v (.int .i32 (Utf8.decode s p).1), .v (.int .i64 k), .junk, .junk, .junk, .junk, .it 0, .tup [.v (.bool true), .v (.int .i64 p), .v (.int .i32 (Utf8.decode s p).1)], .v (.bool true), .v (.bool x13), .v (.int .i64 ff), .v (.bool true), .v (.bool true), .junk, .junk], [.siter s (p + (Utf8.decode s p).2)], ?_, .inr ⟨rfl, bad hok, rfl⟩⟩
              cases x13 <;> (have hs := sel _ rfl; simp only [if_true, if_false, Bool.false_eq_true] at hs; subst hs; simp only [V79, c114_27, c114_14, c114_15, c114_16, c114_17, c114_18, c114_19, e_next, nx, hc, hpx, sn, snap_int, ex_2, q1, q2, c114_20, c114_21, c114_22, Q0, Q1, Q2, Q3, Q4, Q5, Q6, Q7, Q8, Q9, Q10, Q11, Q12, Q13, Q14, Q15, Q16, Q17, Q18, Q19, Q20, Q21, Q22, Q23, Q24, Q25, Q26, Q27, Q28, Q29, Q30, Q31, Q32, Q33, Q35, Q36, Q37, Q38, Q39, Q40, Q41, Q42, Q43, Q44, Q45, Q46, Q47, Q48, Q49, Q50, Q51, Q52, Q53, Q54, Q55, Q56, Q57, Q58, Q59, Q60, Q61, Q62, Q63, Q64, Q65, Q66, Q67, Q68, Q69, Q70, Q71, Q72, Q73, Q99, Q100, Q101, Q102, Q103, Q74, Q75, Q77, Q78, Q79, Q80, Q81, Q82, Q83, Q84, clr, List.length_nil, List.length_cons, List.getElem?_cons_zero, List.getElem?_cons_succ, Nat.reduceAdd, Nat.zero_add, Nat.add_zero, Nat.reduceLeDiff, Nat.reduceSub, ↓reduceIte, List.drop_succ_cons, List.drop_zero, List.take_succ_cons, List.take_zero, Bool.false_eq_true, List.nil_append, List.cons_append, Bool.not_true, Bool.not_false, cond_true, cond_false, bne, Q85, Q86, Q87, Q88, Q89, Q90, Q91, Q92, Q93, Q94, Q95, Q96, Q97, Q98, Q110, Q111, Q116, Q117, Q118, Q119, Q120, Q121, Q122, Q123, Option.map_some, Option.map_none, Q34])
            | false =>
              cases q3 : decide (k > 3) with
              | true =>
                have hok : okR ff k = false := by simp only [okR, q1, q2, q3, if_true, Bool.or_true, Bool.not_true]
                refine ⟨.ret, [.v (.string s), .v (.bool false), .v (.int .i64 ff), .v (.int .i64 p), .v (.int .i32 (Utf8.decode s p).1), .v (.int .i64 k), .junk, .junk, .junk, .junk, .it 0, .tup [.v (.bool true), .v (.int .i64 p), .v (.int .i32 (Utf8.decode s p).1)], .v (.bool true), .v (.bool x13), .v (.int .i64 ff), .v (.bool true), .v (.bool true), .junk, .junk], [.siter s (p + (Utf8.decode s p).2)], ?_, .inr ⟨rfl, bad hok, rfl⟩⟩
                cases x13 <;> (have hs := sel _ rfl; simp only [if_true, if_false, Bool.false_eq_true] at hs; subst hs; simp only [V79, c114_27, c114_14, c114_15, c114_16, c114_17, c114_18, c114_19, e_next, nx, hc, hpx, sn, snap_int, ex_2, q1, q2, q3, c114_20, c114_21, c114_22, Q0, Q1, Q2, Q3, Q4, Q5, Q6, Q7, Q8, Q9, Q10, Q11, Q12, Q13, Q14, Q15, Q16, Q17, Q18, Q19, Q20, Q21, Q22, Q23, Q24, Q25, Q26, Q27, Q28, Q29, Q30, Q31, Q32, Q33, Q35, Q36, Q37, Q38, Q39, Q40, Q41, Q42, Q43, Q44, Q45, Q46, Q47, Q48, Q49, Q50, Q51, Q52, Q53, Q54, Q55, Q56, Q57, Q58, Q59, Q60, Q61, Q62, Q63, Q64, Q65, Q66, Q67, Q68, Q69, Q70, Q71, Q72, Q73, Q99, Q100, Q101, Q102, Q103, Q74, Q75, Q77, Q78, Q79, Q80, Q81, Q82, Q83, Q84, clr, List.length_nil, List.length_cons, List.getElem?_cons_zero, List.getElem?_cons_succ, Nat.reduceAdd, Nat.zero_add, Nat.add_zero, Nat.reduceLeDiff, Nat.reduceSub, ↓reduceIte, List.drop_succ_cons, List.drop_zero, List.take_succ_cons, List.take_zero, Bool.false_eq_true, List.nil_append, List.cons_append, Bool.not_true, Bool.not_false, cond_true, cond_false, bne, Q85, Q86, Q87, Q88, Q89, Q90, Q91, Q92, Q93, Q94, Q95, Q96, Q97, Q98, Q110, Q111, Q116, Q117, Q118, Q119, Q120, Q121, Q122, Q123, Option.map_some, Option.map_none, Q34])
              | false =>
                have hok : okR ff k = true := by simp only [okR, q1, q2, q3, if_true, Bool.or_false, Bool.not_false]
                refine ⟨.normal, [.v (.string s), .junk, .v (.int .i64 ff), .v (.int .i64 p), .v (.int .i32 (Utf8.decode s p).1), .v (.int .i64 k), .junk, .junk, .junk, .junk, .it 0, .tup [.v (.bool true), .v (.int .i64 p), .v (.int .i32 (Utf8.decode s p).1)], .v (.bool true), .v (.bool x13), .v (.int .i64 ff), .v (.bool true), .v (.bool false), .junk, .junk], [.siter s (p + (Utf8.decode s p).2)], ?_, next hok⟩
                cases x13 <;> (have hs := sel _ rfl; simp only [if_true, if_false, Bool.false_eq_true] at hs; subst hs; simp only [V79, c114_27, c114_14, c114_15, c114_16, c114_17, c114_18, c114_19, e_next, nx, hc, hpx, sn, snap_int, ex_2, q1, q2, q3, c114_20, c114_21, Q0, Q1, Q2, Q3, Q4, Q5, Q6, Q7, Q8, Q9, Q10, Q11, Q12, Q13, Q14, Q15, Q16, Q17, Q18, Q19, Q20, Q21, Q22, Q23, Q24, Q25, Q26, Q27, Q28, Q29, Q30, Q31, Q32, Q33, Q35, Q36, Q37, Q38, Q39, Q40, Q41, Q42, Q43, Q44, Q45, Q46, Q47, Q48, Q49, Q50, Q51, Q52, Q53, Q54, Q55, Q56, Q57, Q58, Q59, Q60, Q61, Q62, Q63, Q64, Q65, Q66, Q67, Q68, Q69, Q70, Q71, Q72, Q73, Q99, Q100, Q101, Q102, Q103, Q74, Q75, Q77, Q78, Q79, Q80, Q81, Q82, Q83, Q84, clr, List.length_nil, List.length_cons, List.getElem?_cons_zero, List.getElem?_cons_succ, Nat.reduceAdd, Nat.zero_add, Nat.add_zero, Nat.reduceLeDiff, Nat.reduceSub, ↓reduceIte, List.drop_succ_cons, List.drop_zero, List.take_succ_cons, List.take_zero, Bool.false_eq_true, List.nil_append, List.cons_append, Bool.not_true, Bool.not_false, cond_true, cond_false, bne, Q85, Q86, Q87, Q88, Q89, Q90, Q91, Q92, Q93, Q94, Q95, Q96, Q97, Q98, Q110, Q111, Q116, Q117, Q118, Q119, Q120, Q121, Q122, Q123, Option.map_some, Option.map_none, Q34])
          | false =>
            cases q4 : (ff == 4) with
            | false =>
              have hok : okR ff k = false := by simp only [okR, q1, q4, Bool.false_eq_true, if_false]
              refine ⟨.ret, [.v (.string s), .v (.bool false), .v (.int .i64 ff), .v (.int .i64 p), .v (.int .i32 (Utf8.decode s p).1), .v (.int .i64 k), .junk, .junk, .junk, .junk, .it 0, .tup [.v (.bool true), .v (.int .i64 p), .v (.int .i32 (Utf8.decode s p).1)], .v (.bool true), .v (.bool x13), .v (.int .i64 ff), .v (.bool false), .junk, .v (.bool false), .junk], [.siter s (p + (Utf8.decode s p).2)], ?_, .inr ⟨rfl, bad hok, rfl⟩⟩
              cases x13 <;> (have hs := sel _ rfl; simp only [if_true, if_false, Bool.false_eq_true] at hs; subst hs; simp only [V79, c114_27, c114_14, c114_15, c114_16, c114_17, c114_18, c114_19, e_next, nx, hc, hpx, sn, snap_int, ex_2, q1, q4, c114_20, c114_23, c114_26, Q0, Q1, Q2, Q3, Q4, Q5, Q6, Q7, Q8, Q9, Q10, Q11, Q12, Q13, Q14, Q15, Q16, Q17, Q18, Q19, Q20, Q21, Q22, Q23, Q24, Q25, Q26, Q27, Q28, Q29, Q30, Q31, Q32, Q33, Q35, Q36, Q37, Q38, Q39, Q40, Q41, Q42, Q43, Q44, Q45, Q46, Q47, Q48, Q49, Q50, Q51, Q52, Q53, Q54, Q55, Q56, Q57, Q58, Q59, Q60, Q61, Q62, Q63, Q64, Q65, Q66, Q67, Q68, Q69, Q70, Q71, Q72, Q73, Q99, Q100, Q101, Q102, Q103, Q74, Q75, Q77, Q78, Q79, Q80, Q81, Q82, Q83, Q84, clr, List.length_nil, List.length_cons, List.getElem?_cons_zero, List.getElem?_cons_succ, Nat.reduceAdd, Nat.zero_add, Nat.add_zero, Nat.reduceLeDiff, Nat.reduceSub, ↓reduceIte, List.drop_succ_cons, List.drop_zero, List.take_succ_cons, List.take_zero, Bool.false_eq_true, List.nil_append, List.cons_append, Bool.not_true, Bool.not_false, cond_true, cond_false, bne, Q85, Q86, Q87, Q88, Q89, Q90, Q91, Q92, Q93, Q94, Q95, Q96, Q97, Q98, Q110, Q111, Q116, Q117, Q118, Q119, Q120, Q121, Q122, Q123, Option.map_some, Option.map_none, Q34])
            | true =>
              cases q5 : (k == 4) with
              | false =>
                have hok : okR ff k = false := by simp only [okR, q1, q4, q5, Bool.false_eq_true, if_false, if_true]
                refine ⟨.ret, [.v (.string s), .v (.bool false), .v (.int .i64 ff), .v (.int .i64 p), .v (.int .i32 (Utf8.decode s p).1), .v (.int .i64 k), .junk, .junk, .junk, .junk, .it 0, .tup [.v (.bool true), .v (.int .i64 p), .v (.int .i32 (Utf8.decode s p).1)], .v (.bool true), .v (.bool x13), .v (.int .i64 ff), .v (.bool false), .junk, .v (.bool true), .v (.bool true)], [.siter s (p + (Utf8.decode s p).2)], ?_, .inr ⟨rfl, bad hok, rfl⟩⟩
                cases x13 <;> (have hs := sel _ rfl; simp only [if_true, if_false, Bool.false_eq_true] at hs; subst hs; first | exact absurd (q4.symm.trans q5) (by decide) | simp only [V79, c114_27, c114_14, c114_15, c114_16, c114_17, c114_18, c114_19, e_next, nx, hc, hpx, sn, snap_int, ex_2, q1, q4, q5, c114_20, c114_23, c114_24, c114_25, Bool.not_false, Q0, Q1, Q2, Q3, Q4, Q5, Q6, Q7, Q8, Q9, Q10, Q11, Q12, Q13, Q14, Q15, Q16, Q17, Q18, Q19, Q20, Q21, Q22, Q23, Q24, Q25, Q26, Q27, Q28, Q29, Q30, Q31, Q32, Q33, Q35, Q36, Q37, Q38, Q39, Q40, Q41, Q42, Q43, Q44, Q45, Q46, Q47, Q48, Q49, Q50, Q51, Q52, Q53, Q54, Q55, Q56, Q57, Q58, Q59, Q60, Q61, Q62, Q63, Q64, Q65, Q66, Q67, Q68, Q69, Q70, Q71, Q72, Q73, Q99, Q100, Q101, Q102, Q103, Q74, Q75, Q77, Q78, Q79, Q80, Q81, Q82, Q83, Q84, clr, List.length_nil, List.length_cons, List.getElem?_cons_zero, List.getElem?_cons_succ, Nat.reduceAdd, Nat.zero_add, Nat.add_zero, Nat.reduceLeDiff, Nat.reduceSub, ↓reduceIte, List.drop_succ_cons, List.drop_zero, List.take_succ_cons, List.take_zero, Bool.false_eq_true, List.nil_append, List.cons_append, Bool.not_true, Bool.not_false, cond_true, cond_false, bne, Q85, Q86, Q87, Q88, Q89, Q90, Q91, Q92, Q93, Q94, Q95, Q96, Q97, Q98, Q110, Q111, Q116, Q117, Q118, Q119, Q120, Q121, Q122, Q123, Option.map_some, Option.map_none, Q34])
              | true =>
                have hok : okR ff k = true := by simp only [okR, q1, q4, q5, Bool.false_eq_true, if_false, if_true]
                refine ⟨.normal, [.v (.string s), .junk, .v (.int .i64 ff), .v (.int .i64 p), .v (.int .i32 (Utf8.decode s p).1), .v (.int .i64 k), .junk, .junk, .junk, .junk, .it 0, .tup [.v (.bool true), .v (.int .i64 p), .v (.int .i32 (Utf8.decode s p).1)], .v (.bool true), .v (.bool x13), .v (.int .i64 ff), .v (.bool false), .junk, .v (.bool true), .v (.bool false)], [.siter s (p + (Utf8.decode s p).2)], ?_, next hok⟩
                cases x13 <;> (have hs := sel _ rfl; simp only [if_true, if_false, Bool.false_eq_true] at hs; subst hs; simp only [V79, c114_27, c114_14, c114_15, c114_16, c114_17, c114_18, c114_19, e_next, nx, hc, hpx, sn, snap_int, ex_2, q1, q4, q5, c114_20, c114_23, c114_24, Bool.not_true, Q0, Q1, Q2, Q3, Q4, Q5, Q6, Q7, Q8, Q9, Q10, Q11, Q12, Q13, Q14, Q15, Q16, Q17, Q18, Q19, Q20, Q21, Q22, Q23, Q24, Q25, Q26, Q27, Q28, Q29, Q30, Q31, Q32, Q33, Q35, Q36, Q37, Q38, Q39, Q40, Q41, Q42, Q43, Q44, Q45, Q46, Q47, Q48, Q49, Q50, Q51, Q52, Q53, Q54, Q55, Q56, Q57, Q58, Q59, Q60, Q61, Q62, Q63, Q64, Q65, Q66, Q67, Q68, Q69, Q70, Q71, Q72, Q73, Q99, Q100, Q101, Q102, Q103, Q74, Q75, Q77, Q78, Q79, Q80, Q81, Q82, Q83, Q84, clr, List.length_nil, List.length_cons, List.getElem?_cons_zero, List.getElem?_cons_succ, Nat.reduceAdd, Nat.zero_add, Nat.add_zero, Nat.reduceLeDiff, Nat.reduceSub, ↓reduceIte, List.drop_succ_cons, List.drop_zero, List.take_succ_cons, List.take_zero, Bool.false_eq_true, List.nil_append, List.cons_append, Bool.not_true, Bool.not_false, cond_true, cond_false, bne, Q85, Q86, Q87, Q88, Q89, Q90, Q91, Q92, Q93, Q94, Q95, Q96, Q97, Q98, Q110, Q111, Q116, Q117, Q118, Q119, Q120, Q121, Q122, Q123, Option.map_some, Option.map_none, Q34])
        rcases hf with ⟨h0, rfl⟩ | ⟨h0, rfl⟩
        · exact main true (by simp [h0]) _ rfl (by simp [hfirst h0])
        · exact main false (by simp [h0]) _ rfl (by simp)
      · have nx : evNext [.siter s p] (.it 0) = some (.tup [.v (.bool false)], [.siter s p]) := by
          simp only [evNext, List.getElem?_cons_zero, hp, if_false]
        rw [rns_nil hp] at hR
        refine ⟨.exit 1, V79 s f (.tup [.v (.bool false)]) (.v (.bool false)), [.siter s p], ?_, .inl ⟨rfl, hR.symm, f, _, rfl⟩⟩
        simp only [V79, c114_27, c114_14, e_next, nx, Q0, Q1, Q2, Q3, Q4, Q5, Q6, Q7, Q8, Q9, Q10, Q11, Q12, Q13, Q14, Q15, Q16, Q17, Q18, Q19, Q20, Q21, Q22, Q23, Q24, Q25, Q26, Q27, Q28, Q29, Q30, Q31, Q32, Q33, Q35, Q36, Q37, Q38, Q39, Q40, Q41, Q42, Q43, Q44, Q45, Q46, Q47, Q48, Q49, Q50, Q51, Q52, Q53, Q54, Q55, Q56, Q57, Q58, Q59, Q60, Q61, Q62, Q63, Q64, Q65, Q66, Q67, Q68, Q69, Q70, Q71, Q72, Q73, Q99, Q100, Q101, Q102, Q103, Q74, Q75, Q77, Q78, Q79, Q80, Q81, Q82, Q83, Q84, clr, List.length_nil, List.length_cons, List.getElem?_cons_zero, List.getElem?_cons_succ, Nat.reduceAdd, Nat.zero_add, Nat.add_zero, Nat.reduceLeDiff, Nat.reduceSub, ↓reduceIte, List.drop_succ_cons, List.drop_zero, List.take_succ_cons, List.take_zero, Bool.false_eq_true, List.nil_append, List.cons_append, Bool.not_true, Bool.not_false, cond_true, cond_false, bne, Q85, Q86, Q87, Q88, Q89, Q90, Q91, Q92, Q93, Q94, Q95, Q96, Q97, Q98, Q110, Q111, Q116, Q117, Q118, Q119, Q120, Q121, Q122, Q123, Option.map_some, Option.map_none, Q34])
  rcases g3 with ⟨rfl, h1, f, x11, rfl⟩ | ⟨rfl, h1, h2⟩
  · exact .inl ⟨h1, f, x11, h', g1⟩
  · exact .inr ⟨h1, v', h', g1, h2⟩
theorem bareS_ok {s : ByteArray} (h255 : decide ((s.size : Int) ≤ 255) = true) : callW F 114 [.v (.string s)] [] = some (.v (.bool (bareS s)), []) := by
  refine callW_pure (c := c114) rfl rfl (s.size + 1) ?_
  have hp := pre_ok s
  have lp := bare_loop79 (s := s) [.v (.string s), .v (.bool false), .v (.int .i64 0), .v undef, .v undef, .v undef, .v (.string s), .v (.bool false), .v (.bool false), .v (.bool false), .it 0, .v undef, .v undef, .v undef, .v undef, .v undef, .v undef, .v undef, .v undef] rfl
  rw [show c114.body = (.seq (.region [] [] c114_0) (.seq (.seq (.region [] [] c114_1) (.block 0 (.seq (.seq (.region [] [] c114_2) (.cond (.var 7) .skip (.seq (.region [] [] c114_3) (.cond (.var 7) .skip (.seq (.region [] [] c114_4) (.cond (.var 7) .skip (.region [] [] c114_5))))))) (.cond (.var 7) (.seq (.region [] [] c114_6) .ret) (.seq (.seq (.region [] [] c114_7) (.cond (.var 8) .skip (.region [] [] c114_8))) (.cond (.var 8) (.seq (.region [] [] c114_9) .ret) .skip)))))) (.seq (.seq (.region [] [] c114_10) (.cond (.var 9) (.seq (.region [] [] c114_11) .ret) .skip)) (.seq (.region [] [] c114_12) (.seq (.seq (.region [] [] c114_13) (.block 1 (.loop K79 [] c114_27))) (.seq (.region [] [] c114_28) .ret)))))) from rfl, show c114.res = [.var 1] from rfl]
  rw [show start c114 [.v (.string s)] = [.v (.string s), .v undef, .v undef, .v undef, .v undef, .v undef, .v undef, .v undef, .v undef, .v undef, .v undef, .v undef, .v undef, .v undef, .v undef, .v undef, .v undef, .v undef, .v undef] from rfl]
  have rg0 : rgV [] (.v (.string s)) = some (.it 0, [.siter s 0]) := rfl
  unfold bareS eqS
  generalize c114_27 = bb at lp ⊢
  cases q1 : (s.toList == (⟨#[91, 93]⟩ : ByteArray).toList) with
  | true => simp only [c114_0, c114_1, c114_2, c114_6, q1, Bool.true_or, if_true, Q0, Q1, Q2, Q3, Q4, Q5, Q6, Q7, Q8, Q9, Q10, Q11, Q12, Q13, Q14, Q15, Q16, Q17, Q18, Q19, Q20, Q21, Q22, Q23, Q24, Q25, Q26, Q27, Q28, Q29, Q30, Q31, Q32, Q33, Q35, Q36, Q37, Q38, Q39, Q40, Q41, Q42, Q43, Q44, Q45, Q46, Q47, Q48, Q49, Q50, Q51, Q52, Q53, Q54, Q55, Q56, Q57, Q58, Q59, Q60, Q61, Q62, Q63, Q64, Q65, Q66, Q67, Q68, Q69, Q70, Q71, Q72, Q73, Q99, Q100, Q101, Q102, Q103, Q74, Q75, Q77, Q78, Q79, Q80, Q81, Q82, Q83, Q84, clr, List.length_nil, List.length_cons, List.getElem?_cons_zero, List.getElem?_cons_succ, Nat.reduceAdd, Nat.zero_add, Nat.add_zero, Nat.reduceLeDiff, Nat.reduceSub, ↓reduceIte, List.drop_succ_cons, List.drop_zero, List.take_succ_cons, List.take_zero, Bool.false_eq_true, List.nil_append, List.cons_append, Bool.not_true, Bool.not_false, cond_true, cond_false, bne, Q85, Q86, Q87, Q88, Q89, Q90, Q91, Q92, Q93, Q94, Q95, Q96, Q97, Q98, Q110, Q111, Q116, Q117, Q118, Q119, Q120, Q121, Q122, Q123, Option.map_some, Option.map_none]
  | false =>
  cases q2 : (s.toList == (⟨#[123, 125]⟩ : ByteArray).toList) with
  | true => simp only [c114_0, c114_1, c114_2, c114_3, c114_6, q1, q2, Bool.true_or, Bool.false_or, if_true, Q0, Q1, Q2, Q3, Q4, Q5, Q6, Q7, Q8, Q9, Q10, Q11, Q12, Q13, Q14, Q15, Q16, Q17, Q18, Q19, Q20, Q21, Q22, Q23, Q24, Q25, Q26, Q27, Q28, Q29, Q30, Q31, Q32, Q33, Q35, Q36, Q37, Q38, Q39, Q40, Q41, Q42, Q43, Q44, Q45, Q46, Q47, Q48, Q49, Q50, Q51, Q52, Q53, Q54, Q55, Q56, Q57, Q58, Q59, Q60, Q61, Q62, Q63, Q64, Q65, Q66, Q67, Q68, Q69, Q70, Q71, Q72, Q73, Q99, Q100, Q101, Q102, Q103, Q74, Q75, Q77, Q78, Q79, Q80, Q81, Q82, Q83, Q84, clr, List.length_nil, List.length_cons, List.getElem?_cons_zero, List.getElem?_cons_succ, Nat.reduceAdd, Nat.zero_add, Nat.add_zero, Nat.reduceLeDiff, Nat.reduceSub, ↓reduceIte, List.drop_succ_cons, List.drop_zero, List.take_succ_cons, List.take_zero, Bool.false_eq_true, List.nil_append, List.cons_append, Bool.not_true, Bool.not_false, cond_true, cond_false, bne, Q85, Q86, Q87, Q88, Q89, Q90, Q91, Q92, Q93, Q94, Q95, Q96, Q97, Q98, Q110, Q111, Q116, Q117, Q118, Q119, Q120, Q121, Q122, Q123, Option.map_some, Option.map_none]
  | false =>
  cases q3 : (s.toList == (⟨#[33]⟩ : ByteArray).toList) with
  | true => simp only [c114_0, c114_1, c114_2, c114_3, c114_4, c114_6, q1, q2, q3, Bool.true_or, Bool.false_or, if_true, Q0, Q1, Q2, Q3, Q4, Q5, Q6, Q7, Q8, Q9, Q10, Q11, Q12, Q13, Q14, Q15, Q16, Q17, Q18, Q19, Q20, Q21, Q22, Q23, Q24, Q25, Q26, Q27, Q28, Q29, Q30, Q31, Q32, Q33, Q35, Q36, Q37, Q38, Q39, Q40, Q41, Q42, Q43, Q44, Q45, Q46, Q47, Q48, Q49, Q50, Q51, Q52, Q53, Q54, Q55, Q56, Q57, Q58, Q59, Q60, Q61, Q62, Q63, Q64, Q65, Q66, Q67, Q68, Q69, Q70, Q71, Q72, Q73, Q99, Q100, Q101, Q102, Q103, Q74, Q75, Q77, Q78, Q79, Q80, Q81, Q82, Q83, Q84, clr, List.length_nil, List.length_cons, List.getElem?_cons_zero, List.getElem?_cons_succ, Nat.reduceAdd, Nat.zero_add, Nat.add_zero, Nat.reduceLeDiff, Nat.reduceSub, ↓reduceIte, List.drop_succ_cons, List.drop_zero, List.take_succ_cons, List.take_zero, Bool.false_eq_true, List.nil_append, List.cons_append, Bool.not_true, Bool.not_false, cond_true, cond_false, bne, Q85, Q86, Q87, Q88, Q89, Q90, Q91, Q92, Q93, Q94, Q95, Q96, Q97, Q98, Q110, Q111, Q116, Q117, Q118, Q119, Q120, Q121, Q122, Q123, Option.map_some, Option.map_none]
  | false =>
  cases q4 : (s.toList == (⟨#[59]⟩ : ByteArray).toList) with
  | true => simp only [c114_0, c114_1, c114_2, c114_3, c114_4, c114_5, c114_6, q1, q2, q3, q4, Bool.or_true, Bool.false_or, if_true, Q0, Q1, Q2, Q3, Q4, Q5, Q6, Q7, Q8, Q9, Q10, Q11, Q12, Q13, Q14, Q15, Q16, Q17, Q18, Q19, Q20, Q21, Q22, Q23, Q24, Q25, Q26, Q27, Q28, Q29, Q30, Q31, Q32, Q33, Q35, Q36, Q37, Q38, Q39, Q40, Q41, Q42, Q43, Q44, Q45, Q46, Q47, Q48, Q49, Q50, Q51, Q52, Q53, Q54, Q55, Q56, Q57, Q58, Q59, Q60, Q61, Q62, Q63, Q64, Q65, Q66, Q67, Q68, Q69, Q70, Q71, Q72, Q73, Q99, Q100, Q101, Q102, Q103, Q74, Q75, Q77, Q78, Q79, Q80, Q81, Q82, Q83, Q84, clr, List.length_nil, List.length_cons, List.getElem?_cons_zero, List.getElem?_cons_succ, Nat.reduceAdd, Nat.zero_add, Nat.add_zero, Nat.reduceLeDiff, Nat.reduceSub, ↓reduceIte, List.drop_succ_cons, List.drop_zero, List.take_succ_cons, List.take_zero, Bool.false_eq_true, List.nil_append, List.cons_append, Bool.not_true, Bool.not_false, cond_true, cond_false, bne, Q85, Q86, Q87, Q88, Q89, Q90, Q91, Q92, Q93, Q94, Q95, Q96, Q97, Q98, Q110, Q111, Q116, Q117, Q118, Q119, Q120, Q121, Q122, Q123, Option.map_some, Option.map_none]
  | false =>
  cases q5 : (s.toList == (⟨#[]⟩ : ByteArray).toList) with
  | true => simp only [c114_0, c114_1, c114_2, c114_3, c114_4, c114_5, c114_7, c114_9, q1, q2, q3, q4, q5, Bool.true_or, Bool.or_self, Bool.false_eq_true, if_false, if_true, Q0, Q1, Q2, Q3, Q4, Q5, Q6, Q7, Q8, Q9, Q10, Q11, Q12, Q13, Q14, Q15, Q16, Q17, Q18, Q19, Q20, Q21, Q22, Q23, Q24, Q25, Q26, Q27, Q28, Q29, Q30, Q31, Q32, Q33, Q35, Q36, Q37, Q38, Q39, Q40, Q41, Q42, Q43, Q44, Q45, Q46, Q47, Q48, Q49, Q50, Q51, Q52, Q53, Q54, Q55, Q56, Q57, Q58, Q59, Q60, Q61, Q62, Q63, Q64, Q65, Q66, Q67, Q68, Q69, Q70, Q71, Q72, Q73, Q99, Q100, Q101, Q102, Q103, Q74, Q75, Q77, Q78, Q79, Q80, Q81, Q82, Q83, Q84, clr, List.length_nil, List.length_cons, List.getElem?_cons_zero, List.getElem?_cons_succ, Nat.reduceAdd, Nat.zero_add, Nat.add_zero, Nat.reduceLeDiff, Nat.reduceSub, ↓reduceIte, List.drop_succ_cons, List.drop_zero, List.take_succ_cons, List.take_zero, Bool.false_eq_true, List.nil_append, List.cons_append, Bool.not_true, Bool.not_false, cond_true, cond_false, bne, Q85, Q86, Q87, Q88, Q89, Q90, Q91, Q92, Q93, Q94, Q95, Q96, Q97, Q98, Q110, Q111, Q116, Q117, Q118, Q119, Q120, Q121, Q122, Q123, Option.map_some, Option.map_none]
  | false =>
  cases q6 : (s.toList == (⟨#[46]⟩ : ByteArray).toList) with
  | true => simp only [c114_0, c114_1, c114_2, c114_3, c114_4, c114_5, c114_7, c114_8, c114_9, q1, q2, q3, q4, q5, q6, Bool.or_true, Bool.or_self, Bool.false_eq_true, if_false, if_true, Q0, Q1, Q2, Q3, Q4, Q5, Q6, Q7, Q8, Q9, Q10, Q11, Q12, Q13, Q14, Q15, Q16, Q17, Q18, Q19, Q20, Q21, Q22, Q23, Q24, Q25, Q26, Q27, Q28, Q29, Q30, Q31, Q32, Q33, Q35, Q36, Q37, Q38, Q39, Q40, Q41, Q42, Q43, Q44, Q45, Q46, Q47, Q48, Q49, Q50, Q51, Q52, Q53, Q54, Q55, Q56, Q57, Q58, Q59, Q60, Q61, Q62, Q63, Q64, Q65, Q66, Q67, Q68, Q69, Q70, Q71, Q72, Q73, Q99, Q100, Q101, Q102, Q103, Q74, Q75, Q77, Q78, Q79, Q80, Q81, Q82, Q83, Q84, clr, List.length_nil, List.length_cons, List.getElem?_cons_zero, List.getElem?_cons_succ, Nat.reduceAdd, Nat.zero_add, Nat.add_zero, Nat.reduceLeDiff, Nat.reduceSub, ↓reduceIte, List.drop_succ_cons, List.drop_zero, List.take_succ_cons, List.take_zero, Bool.false_eq_true, List.nil_append, List.cons_append, Bool.not_true, Bool.not_false, cond_true, cond_false, bne, Q85, Q86, Q87, Q88, Q89, Q90, Q91, Q92, Q93, Q94, Q95, Q96, Q97, Q98, Q110, Q111, Q116, Q117, Q118, Q119, Q120, Q121, Q122, Q123, Option.map_some, Option.map_none]
  | false =>
  cases q7 : preS s with
  | true =>
    rw [q7] at hp
    simp only [c114_0, c114_1, c114_2, c114_3, c114_4, c114_5, c114_7, c114_8, c114_10, c114_11, q1, q2, q3, q4, q5, q6, hp, snap_str, Bool.or_self, Bool.false_eq_true, if_false, if_true, Q0, Q1, Q2, Q3, Q4, Q5, Q6, Q7, Q8, Q9, Q10, Q11, Q12, Q13, Q14, Q15, Q16, Q17, Q18, Q19, Q20, Q21, Q22, Q23, Q24, Q25, Q26, Q27, Q28, Q29, Q30, Q31, Q32, Q33, Q35, Q36, Q37, Q38, Q39, Q40, Q41, Q42, Q43, Q44, Q45, Q46, Q47, Q48, Q49, Q50, Q51, Q52, Q53, Q54, Q55, Q56, Q57, Q58, Q59, Q60, Q61, Q62, Q63, Q64, Q65, Q66, Q67, Q68, Q69, Q70, Q71, Q72, Q73, Q99, Q100, Q101, Q102, Q103, Q74, Q75, Q77, Q78, Q79, Q80, Q81, Q82, Q83, Q84, clr, List.length_nil, List.length_cons, List.getElem?_cons_zero, List.getElem?_cons_succ, Nat.reduceAdd, Nat.zero_add, Nat.add_zero, Nat.reduceLeDiff, Nat.reduceSub, ↓reduceIte, List.drop_succ_cons, List.drop_zero, List.take_succ_cons, List.take_zero, Bool.false_eq_true, List.nil_append, List.cons_append, Bool.not_true, Bool.not_false, cond_true, cond_false, bne, Q85, Q86, Q87, Q88, Q89, Q90, Q91, Q92, Q93, Q94, Q95, Q96, Q97, Q98, Q110, Q111, Q116, Q117, Q118, Q119, Q120, Q121, Q122, Q123, Option.map_some, Option.map_none]
  | false =>
    rw [q7] at hp
    rcases lp with ⟨h1, f, x11, h', h2⟩ | ⟨h1, v', h', h2, h3⟩
    · rw [h1]
      simp only [V79, c114_0, c114_1, c114_2, c114_3, c114_4, c114_5, c114_7, c114_8, c114_10, c114_12, c114_13, c114_28, q1, q2, q3, q4, q5, q6, hp, snap_str, e_range, rg0, h2, h255, Bool.or_self, Bool.false_eq_true, if_false, Q0, Q1, Q2, Q3, Q4, Q5, Q6, Q7, Q8, Q9, Q10, Q11, Q12, Q13, Q14, Q15, Q16, Q17, Q18, Q19, Q20, Q21, Q22, Q23, Q24, Q25, Q26, Q27, Q28, Q29, Q30, Q31, Q32, Q33, Q35, Q36, Q37, Q38, Q39, Q40, Q41, Q42, Q43, Q44, Q45, Q46, Q47, Q48, Q49, Q50, Q51, Q52, Q53, Q54, Q55, Q56, Q57, Q58, Q59, Q60, Q61, Q62, Q63, Q64, Q65, Q66, Q67, Q68, Q69, Q70, Q71, Q72, Q73, Q99, Q100, Q101, Q102, Q103, Q74, Q75, Q77, Q78, Q79, Q80, Q81, Q82, Q83, Q84, clr, List.length_nil, List.length_cons, List.getElem?_cons_zero, List.getElem?_cons_succ, Nat.reduceAdd, Nat.zero_add, Nat.add_zero, Nat.reduceLeDiff, Nat.reduceSub, ↓reduceIte, List.drop_succ_cons, List.drop_zero, List.take_succ_cons, List.take_zero, Bool.false_eq_true, List.nil_append, List.cons_append, Bool.not_true, Bool.not_false, cond_true, cond_false, bne, Q85, Q86, Q87, Q88, Q89, Q90, Q91, Q92, Q93, Q94, Q95, Q96, Q97, Q98, Q110, Q111, Q116, Q117, Q118, Q119, Q120, Q121, Q122, Q123, Option.map_some, Option.map_none]
    · rw [h1]
      simp only [V79, c114_0, c114_1, c114_2, c114_3, c114_4, c114_5, c114_7, c114_8, c114_10, c114_12, c114_13, c114_28, q1, q2, q3, q4, q5, q6, hp, snap_str, e_range, rg0, h2, h3, Bool.or_self, Bool.false_eq_true, if_false, Q0, Q1, Q2, Q3, Q4, Q5, Q6, Q7, Q8, Q9, Q10, Q11, Q12, Q13, Q14, Q15, Q16, Q17, Q18, Q19, Q20, Q21, Q22, Q23, Q24, Q25, Q26, Q27, Q28, Q29, Q30, Q31, Q32, Q33, Q35, Q36, Q37, Q38, Q39, Q40, Q41, Q42, Q43, Q44, Q45, Q46, Q47, Q48, Q49, Q50, Q51, Q52, Q53, Q54, Q55, Q56, Q57, Q58, Q59, Q60, Q61, Q62, Q63, Q64, Q65, Q66, Q67, Q68, Q69, Q70, Q71, Q72, Q73, Q99, Q100, Q101, Q102, Q103, Q74, Q75, Q77, Q78, Q79, Q80, Q81, Q82, Q83, Q84, clr, List.length_nil, List.length_cons, List.getElem?_cons_zero, List.getElem?_cons_succ, Nat.reduceAdd, Nat.zero_add, Nat.add_zero, Nat.reduceLeDiff, Nat.reduceSub, ↓reduceIte, List.drop_succ_cons, List.drop_zero, List.take_succ_cons, List.take_zero, Bool.false_eq_true, List.nil_append, List.cons_append, Bool.not_true, Bool.not_false, cond_true, cond_false, bne, Q85, Q86, Q87, Q88, Q89, Q90, Q91, Q92, Q93, Q94, Q95, Q96, Q97, Q98, Q110, Q111, Q116, Q117, Q118, Q119, Q120, Q121, Q122, Q123, Option.map_some, Option.map_none]
end Go.AE.YtinhjhkmpknbbaaDoor
end

/-! Whether an atom's text needs no quotes: the document's. -/
section
set_option linter.unusedVariables false
set_option linter.unusedSimpArgs false
namespace Go.AE.YtinhjhkmpknbbaaDoor
open Go Go.AE Go.Proofs.YtinhjhkmpknbbaaDoor
def chkS (s : ByteArray) : Bool := decide ((s.size : Int) ≤ 255) && Lib.validD s.data.toList
theorem valid_call (s : ByteArray) (h : s.size ≤ 9223372036854775807) : callW F 101 [.v (.string s)] [] = some (.v (.bool (Lib.validD s.data.toList)), []) := by
  refine callW_oracle (g := validG) rfl ?_
  simp only [validG, h, if_true]
theorem chk_ok (s : ByteArray) : callW F 113 [.v (.string s)] [] = some (.v (.bool (chkS s)), []) := by
  refine callW_pure (c := c113) rfl rfl 0 ?_
  unfold chkS
  cases h1 : decide ((s.size : Int) ≤ 255) with
  | true =>
    have hc := valid_call s (by simp at h1; omega)
    simp only [c113, start, List.replicate, c113_0, c113_1, h1, hc, snap_str, Bool.true_and, Q0, Q1, Q2, Q3, Q4, Q5, Q6, Q7, Q8, Q9, Q10, Q11, Q12, Q13, Q14, Q15, Q16, Q17, Q18, Q19, Q20, Q21, Q22, Q23, Q24, Q25, Q26, Q27, Q28, Q29, Q30, Q31, Q32, Q33, Q35, Q36, Q37, Q38, Q39, Q40, Q41, Q42, Q43, Q44, Q45, Q46, Q47, Q48, Q49, Q50, Q51, Q52, Q53, Q54, Q55, Q56, Q57, Q58, Q59, Q60, Q61, Q62, Q63, Q64, Q65, Q66, Q67, Q68, Q69, Q70, Q71, Q72, Q73, Q99, Q100, Q101, Q102, Q103, Q74, Q75, Q77, Q78, Q79, Q80, Q81, Q82, Q83, Q84, clr, List.length_nil, List.length_cons, List.getElem?_cons_zero, List.getElem?_cons_succ, Nat.reduceAdd, Nat.zero_add, Nat.add_zero, Nat.reduceLeDiff, Nat.reduceSub, ↓reduceIte, List.drop_succ_cons, List.drop_zero, List.take_succ_cons, List.take_zero, Bool.false_eq_true, List.nil_append, List.cons_append, Bool.not_true, Bool.not_false, cond_true, cond_false, bne, Q85, Q86, Q87, Q88, Q89, Q90, Q91, Q92, Q93, Q94, Q95, Q96, Q97, Q98, Q110, Q111, Q116, Q117, Q118, Q119, Q120, Q121, Q122, Q123, Option.map_some, Option.map_none, Q34]
  | false => simp only [c113, start, List.replicate, c113_0, c113_1, h1, Bool.false_and, Q0, Q1, Q2, Q3, Q4, Q5, Q6, Q7, Q8, Q9, Q10, Q11, Q12, Q13, Q14, Q15, Q16, Q17, Q18, Q19, Q20, Q21, Q22, Q23, Q24, Q25, Q26, Q27, Q28, Q29, Q30, Q31, Q32, Q33, Q35, Q36, Q37, Q38, Q39, Q40, Q41, Q42, Q43, Q44, Q45, Q46, Q47, Q48, Q49, Q50, Q51, Q52, Q53, Q54, Q55, Q56, Q57, Q58, Q59, Q60, Q61, Q62, Q63, Q64, Q65, Q66, Q67, Q68, Q69, Q70, Q71, Q72, Q73, Q99, Q100, Q101, Q102, Q103, Q74, Q75, Q77, Q78, Q79, Q80, Q81, Q82, Q83, Q84, clr, List.length_nil, List.length_cons, List.getElem?_cons_zero, List.getElem?_cons_succ, Nat.reduceAdd, Nat.zero_add, Nat.add_zero, Nat.reduceLeDiff, Nat.reduceSub, ↓reduceIte, List.drop_succ_cons, List.drop_zero, List.take_succ_cons, List.take_zero, Bool.false_eq_true, List.nil_append, List.cons_append, Bool.not_true, Bool.not_false, cond_true, cond_false, bne, Q85, Q86, Q87, Q88, Q89, Q90, Q91, Q92, Q93, Q94, Q95, Q96, Q97, Q98, Q110, Q111, Q116, Q117, Q118, Q119, Q120, Q121, Q122, Q123, Option.map_some, Option.map_none, Q34]
theorem rchk_ok (s : ByteArray) : callW F 70 [.v (.string s)] [] = some (.v (.bool (chkS s)), []) := by
  refine callW_pure (c := c70) rfl rfl 0 ?_
  unfold chkS
  cases h1 : decide ((s.size : Int) ≤ 255) with
  | true =>
    have hc := valid_call s (by simp at h1; omega)
    simp only [c70, start, List.replicate, c70_0, c70_1, h1, hc, snap_str, Bool.true_and, Q0, Q1, Q2, Q3, Q4, Q5, Q6, Q7, Q8, Q9, Q10, Q11, Q12, Q13, Q14, Q15, Q16, Q17, Q18, Q19, Q20, Q21, Q22, Q23, Q24, Q25, Q26, Q27, Q28, Q29, Q30, Q31, Q32, Q33, Q35, Q36, Q37, Q38, Q39, Q40, Q41, Q42, Q43, Q44, Q45, Q46, Q47, Q48, Q49, Q50, Q51, Q52, Q53, Q54, Q55, Q56, Q57, Q58, Q59, Q60, Q61, Q62, Q63, Q64, Q65, Q66, Q67, Q68, Q69, Q70, Q71, Q72, Q73, Q99, Q100, Q101, Q102, Q103, Q74, Q75, Q77, Q78, Q79, Q80, Q81, Q82, Q83, Q84, clr, List.length_nil, List.length_cons, List.getElem?_cons_zero, List.getElem?_cons_succ, Nat.reduceAdd, Nat.zero_add, Nat.add_zero, Nat.reduceLeDiff, Nat.reduceSub, ↓reduceIte, List.drop_succ_cons, List.drop_zero, List.take_succ_cons, List.take_zero, Bool.false_eq_true, List.nil_append, List.cons_append, Bool.not_true, Bool.not_false, cond_true, cond_false, bne, Q85, Q86, Q87, Q88, Q89, Q90, Q91, Q92, Q93, Q94, Q95, Q96, Q97, Q98, Q110, Q111, Q116, Q117, Q118, Q119, Q120, Q121, Q122, Q123, Option.map_some, Option.map_none, Q34]
  | false => simp only [c70, start, List.replicate, c70_0, c70_1, h1, Bool.false_and, Q0, Q1, Q2, Q3, Q4, Q5, Q6, Q7, Q8, Q9, Q10, Q11, Q12, Q13, Q14, Q15, Q16, Q17, Q18, Q19, Q20, Q21, Q22, Q23, Q24, Q25, Q26, Q27, Q28, Q29, Q30, Q31, Q32, Q33, Q35, Q36, Q37, Q38, Q39, Q40, Q41, Q42, Q43, Q44, Q45, Q46, Q47, Q48, Q49, Q50, Q51, Q52, Q53, Q54, Q55, Q56, Q57, Q58, Q59, Q60, Q61, Q62, Q63, Q64, Q65, Q66, Q67, Q68, Q69, Q70, Q71, Q72, Q73, Q99, Q100, Q101, Q102, Q103, Q74, Q75, Q77, Q78, Q79, Q80, Q81, Q82, Q83, Q84, clr, List.length_nil, List.length_cons, List.getElem?_cons_zero, List.getElem?_cons_succ, Nat.reduceAdd, Nat.zero_add, Nat.add_zero, Nat.reduceLeDiff, Nat.reduceSub, ↓reduceIte, List.drop_succ_cons, List.drop_zero, List.take_succ_cons, List.take_zero, Bool.false_eq_true, List.nil_append, List.cons_append, Bool.not_true, Bool.not_false, cond_true, cond_false, bne, Q85, Q86, Q87, Q88, Q89, Q90, Q91, Q92, Q93, Q94, Q95, Q96, Q97, Q98, Q110, Q111, Q116, Q117, Q118, Q119, Q120, Q121, Q122, Q123, Option.map_some, Option.map_none, Q34]


def rv (c : Nat) : AV := .v (.int .i32 (c : Int))
theorem rns_tail (s : ByteArray) (n : Nat) : ∀ f q, rns (s.extract n s.size) f q = rns s f (n + q)
  | 0, q => rfl
  | f + 1, q => by
    rw [rns, rns, Lib.tail_size, Lib.tail_decode]
    by_cases h : n + q < s.size
    · rw [if_pos (by omega), if_pos h, rns_tail s n f, Nat.add_assoc]
    · rw [if_neg (by omega), if_neg h]
def V84 (s : ByteArray) (acc : AV) (x5 : AV) : List AV := [.v (.string s), .junk, acc, .junk, .junk, x5]
def K84 : List Bool := [true, false, true, false, false, false]
theorem dec_at (s : ByteArray) (h : 0 < s.size) : Lib.decodeGo s = Utf8.decode s 0 := by
  unfold Lib.decodeGo; rw [if_neg (by omega)]
theorem runes_ok {s : ByteArray} (hs : s.size ≤ 100000) : ∃ r, Sl 1 r ((runesOf s).map rv) ∧ callW F 121 [.v (.string s)] [] = some (r, []) := by
  obtain ⟨e, v', h', g1, g2, g3⟩ := loop_rule0 (call := callW F) (K := s.size + 1) (b := c121_6) (keep := K84)
    (fun i v h => ∃ (t : ByteArray) (acc : AV) (L : List Nat), t.size + i ≤ s.size ∧ L.length = i ∧ v = V84 t acc .junk ∧ Acc 21 1 h acc (L.map rv) ∧ L ++ rns t (s.size - i) 0 = runesOf s)
    (fun e v h => e = .exit 0 ∧ ∃ (t : ByteArray) (acc : AV), v = V84 t acc (.v (.bool false)) ∧ Acc 21 1 h acc ((runesOf s).map rv))
    s.size (m := s.size + 1) (v := [.v (.string s), .v (.slice none 0 0), .v (.slice none 0 0), .v undef, .v undef, .v undef]) (h := []) (by omega) ⟨s, .v (.slice none 0 0), [], by omega, rfl, rfl, .nil, rfl⟩ (by
      rintro i v h hi ⟨t, acc, L, hti, hL, rfl, hacc, hR⟩
      by_cases hp : 0 < t.size
      · have hgt : decide ((t.size : Int) > 0) = true := decide_eq_true (by omega)
        have dg : callW F 135 [.v (.string t)] [] = some (.tup [.v (.int .i32 (Utf8.decode t 0).1), .v (.int .i64 (Utf8.decode t 0).2)], []) := by
          rw [← dec_at t hp]; exact callW_oracle (g := decG) rfl rfl
        have hw := width_pos t 0
        have hle : (Utf8.decode t 0).2 ≤ t.size := by rw [← dec_at t hp]; exact Lib.decodeGo_le_size t
        obtain ⟨acc', h2, h3, h4, h5⟩ := hacc.add (x := .slc 1 true true [rv (Utf8.decode t 0).1]) (ys := [rv (Utf8.decode t 0).1]) (bytes := 4) elems_one (by
          unfold fits room
          rw [decide_eq_true_eq, List.length_map, List.length_singleton, hL]
          constructor <;> omega)
        have b1 : ∀ h : List AO, bs1 h 1 (some (.v (.int .i32 (Utf8.decode t 0).1))) = some (.slc 1 true true [rv (Utf8.decode t 0).1], h) := fun h => bs1_some rfl rfl
        have sn : ∀ (h : List AO) (k : IntKind) (x : Int), (AV.v (.int k x)).snap1 h = some (.v (.int k x)) := fun _ _ _ => rfl
        have sl := ss_from hle
        have hil : i < s.size := by clear hR; omega
        have e1 : s.size - i = (s.size - (i + 1)) + 1 := by omega
        refine ⟨.normal, [.v (.string (t.extract (Utf8.decode t 0).2 t.size)), .junk, acc', .v (.int .i32 (Utf8.decode t 0).1), .v (.int .i64 (Utf8.decode t 0).2), .v (.bool true)], h2, ?_, hil, t.extract (Utf8.decode t 0).2 t.size, acc', L ++ [(Utf8.decode t 0).1], ?_, by simp [hL], rfl, ?_, ?_⟩
        · simp only [V84, c121_6, c121_2, c121_3, c121_4, c121_5, hgt, snap_str, dg, sn, b1, Q104, e_append, h3, e_sslice, sl, Q0, Q1, Q2, Q3, Q4, Q5, Q6, Q7, Q8, Q9, Q10, Q11, Q12, Q13, Q14, Q15, Q16, Q17, Q18, Q19, Q20, Q21, Q22, Q23, Q24, Q25, Q26, Q27, Q28, Q29, Q30, Q31, Q32, Q33, Q35, Q36, Q37, Q38, Q39, Q40, Q41, Q42, Q43, Q44, Q45, Q46, Q47, Q48, Q49, Q50, Q51, Q52, Q53, Q54, Q55, Q56, Q57, Q58, Q59, Q60, Q61, Q62, Q63, Q64, Q65, Q66, Q67, Q68, Q69, Q70, Q71, Q72, Q73, Q99, Q100, Q101, Q102, Q103, Q74, Q75, Q77, Q78, Q79, Q80, Q81, Q82, Q83, Q84, clr, List.length_nil, List.length_cons, List.getElem?_cons_zero, List.getElem?_cons_succ, Nat.reduceAdd, Nat.zero_add, Nat.add_zero, Nat.reduceLeDiff, Nat.reduceSub, ↓reduceIte, List.drop_succ_cons, List.drop_zero, List.take_succ_cons, List.take_zero, Bool.false_eq_true, List.nil_append, List.cons_append, Bool.not_true, Bool.not_false, cond_true, cond_false, bne, Q85, Q86, Q87, Q88, Q89, Q90, Q91, Q92, Q93, Q94, Q95, Q96, Q97, Q98, Q110, Q111, Q116, Q117, Q118, Q119, Q120, Q121, Q122, Q123, Option.map_some, Option.map_none, Q34]
        · rw [Lib.tail_size]; omega
        · rw [List.map_append]; exact h4
        · rw [rns_tail, ← hR, e1, rns_cons hp, Nat.zero_add, Nat.add_zero]; simp
      · have hgt : decide ((t.size : Int) > 0) = false := decide_eq_false (by omega)
        rw [rns_nil hp, List.append_nil] at hR
        subst hR
        refine ⟨.exit 0, V84 t acc (.v (.bool false)), h, ?_, rfl, t, acc, rfl, hacc⟩
        simp only [V84, c121_6, c121_2, hgt, Q0, Q1, Q2, Q3, Q4, Q5, Q6, Q7, Q8, Q9, Q10, Q11, Q12, Q13, Q14, Q15, Q16, Q17, Q18, Q19, Q20, Q21, Q22, Q23, Q24, Q25, Q26, Q27, Q28, Q29, Q30, Q31, Q32, Q33, Q35, Q36, Q37, Q38, Q39, Q40, Q41, Q42, Q43, Q44, Q45, Q46, Q47, Q48, Q49, Q50, Q51, Q52, Q53, Q54, Q55, Q56, Q57, Q58, Q59, Q60, Q61, Q62, Q63, Q64, Q65, Q66, Q67, Q68, Q69, Q70, Q71, Q72, Q73, Q99, Q100, Q101, Q102, Q103, Q74, Q75, Q77, Q78, Q79, Q80, Q81, Q82, Q83, Q84, clr, List.length_nil, List.length_cons, List.getElem?_cons_zero, List.getElem?_cons_succ, Nat.reduceAdd, Nat.zero_add, Nat.add_zero, Nat.reduceLeDiff, Nat.reduceSub, ↓reduceIte, List.drop_succ_cons, List.drop_zero, List.take_succ_cons, List.take_zero, Bool.false_eq_true, List.nil_append, List.cons_append, Bool.not_true, Bool.not_false, cond_true, cond_false, bne, Q85, Q86, Q87, Q88, Q89, Q90, Q91, Q92, Q93, Q94, Q95, Q96, Q97, Q98, Q110, Q111, Q116, Q117, Q118, Q119, Q120, Q121, Q122, Q123, Option.map_some, Option.map_none, Q34])
  obtain ⟨rfl, t, acc, rfl, hacc⟩ := g3
  obtain ⟨r, l1, l2⟩ := hacc.lvf
  refine ⟨r, l2, callW_pure (c := c121) rfl rfl (s.size + 1) ?_⟩
  rw [show c121.body = (.seq (.region [] [] c121_0) (.seq (.region [] [] c121_1) (.seq (.block 0 (.loop K84 [] c121_6)) (.seq (.region [] [] c121_7) .ret)))) from rfl, show c121.res = [.var 1] from rfl]
  rw [show start c121 [.v (.string s)] = [.v (.string s), .v undef, .v undef, .v undef, .v undef, .v undef] from rfl]
  generalize c121_6 = bb at g1 ⊢
  simp only [V84, c121_0, c121_1, c121_7, g1, l1, Q0, Q1, Q2, Q3, Q4, Q5, Q6, Q7, Q8, Q9, Q10, Q11, Q12, Q13, Q14, Q15, Q16, Q17, Q18, Q19, Q20, Q21, Q22, Q23, Q24, Q25, Q26, Q27, Q28, Q29, Q30, Q31, Q32, Q33, Q35, Q36, Q37, Q38, Q39, Q40, Q41, Q42, Q43, Q44, Q45, Q46, Q47, Q48, Q49, Q50, Q51, Q52, Q53, Q54, Q55, Q56, Q57, Q58, Q59, Q60, Q61, Q62, Q63, Q64, Q65, Q66, Q67, Q68, Q69, Q70, Q71, Q72, Q73, Q99, Q100, Q101, Q102, Q103, Q74, Q75, Q77, Q78, Q79, Q80, Q81, Q82, Q83, Q84, clr, List.length_nil, List.length_cons, List.getElem?_cons_zero, List.getElem?_cons_succ, Nat.reduceAdd, Nat.zero_add, Nat.add_zero, Nat.reduceLeDiff, Nat.reduceSub, ↓reduceIte, List.drop_succ_cons, List.drop_zero, List.take_succ_cons, List.take_zero, Bool.false_eq_true, List.nil_append, List.cons_append, Bool.not_true, Bool.not_false, cond_true, cond_false, bne, Q85, Q86, Q87, Q88, Q89, Q90, Q91, Q92, Q93, Q94, Q95, Q96, Q97, Q98, Q110, Q111, Q116, Q117, Q118, Q119, Q120, Q121, Q122, Q123, Option.map_some, Option.map_none]
def inN (k : Int) : Bool := (k == 1) || ((k == 2) || (k == 3))
def V83 (nm sg : Bool) (c : AV) (n i : Int) (x5 x6 x12 : AV) : List AV := [.junk, .junk, .junk, .v (.bool nm), .v (.bool sg), x5, x6, .junk, .junk, c, .v (.int .i64 n), .v (.int .i64 i), x12]
def K83 : List Bool := [false, false, false, true, true, false, false, false, false, true, true, true, false]
theorem all_okR (f : Int) (L : List Nat) (h : L ≠ []) (hf : f = clsN (L.headD 0)) : ((f == 1) && L.all (fun c => inN (clsN c)) || L.all (fun c => clsN c == 4)) = L.all fun c => okR f (clsN c) := by
  have e1 : ∀ k : Int, (!(decide (k < 1) || decide (k > 3))) = inN k := by
    intro k
    unfold inN
    by_cases a : k = 1
    · subst a; rfl
    · by_cases b : k = 2
      · subst b; rfl
      · by_cases c : k = 3
        · subst c; rfl
        · have h1 : (k == 1) = false := by simpa using a
          have h2 : (k == 2) = false := by simpa using b
          have h3 : (k == 3) = false := by simpa using c
          rw [h1, h2, h3]
          simp
          omega
  cases L with
  | nil => exact absurd rfl h
  | cons c L =>
    simp only [List.headD_cons] at hf
    cases q1 : (f == 1) with
    | true =>
      have hf1 : clsN c = 1 := by simp at q1; omega
      have : ((c :: L).all fun c => clsN c == 4) = false := by simp [hf1]
      rw [this, Bool.or_false, Bool.true_and]
      congr 1
      funext x
      simp only [okR, q1, if_true, e1]
    | false =>
      simp only [Bool.false_and, Bool.false_or]
      cases q4 : (f == 4) with
      | true =>
        congr 1
        funext x
        simp only [okR, q1, q4, if_true, Bool.false_eq_true, if_false]
      | false =>
        have h4 : (clsN c == 4) = false := by rw [← hf]; exact q4
        simp [okR, q1, q4, h4]
theorem rbare_loop {c : AV} {L : List Nat} (hc : Sl 1 c (L.map rv)) (hm : L.length ≤ 100000) (v : List AV) (nm : Bool) (hv : clr K83 v = V83 nm true c L.length 0 .junk .junk .junk) (K : Nat) (hK : L.length < K) (h : List AO) :
    ∃ (x5 x6 : AV), loopN (exec (callW F) K c120_15) K83 K v h = some (.exit 0, V83 (nm && L.all fun c => inN (clsN c)) (L.all fun c => clsN c == 4) c L.length L.length x5 x6 (.v (.bool false)), h) := by
  obtain ⟨e, v', h', g1, g2, g3⟩ := loop_rule0 (call := callW F) (K := K) (b := c120_15) (keep := K83)
    (fun i v h' => ∃ a b, v = V83 a b c L.length i .junk .junk .junk ∧ h' = h ∧ (a && (L.drop i).all fun c => inN (clsN c)) = (nm && L.all fun c => inN (clsN c)) ∧ (b && (L.drop i).all fun c => clsN c == 4) = (L.all fun c => clsN c == 4))
    (fun e v h' => e = .exit 0 ∧ h' = h ∧ ∃ x5 x6, v = V83 (nm && L.all fun c => inN (clsN c)) (L.all fun c => clsN c == 4) c L.length L.length x5 x6 (.v (.bool false)))
    L.length (m := K) (v := v) (h := h) hK ⟨nm, true, hv, rfl, rfl, by simp⟩ (by
      rintro i v h' hi ⟨a, b, rfl, rfl, hR1, hR2⟩
      by_cases hil : i < L.length
      · have hlt := lt_t hil
        have he : (L.map rv)[i]? = some (rv L[i]) := by simp [hil]
        have q2 := fun h : List AO => hc.ia he h
        have q3 : ∀ (h : List AO) (n : Nat), Q76 h false 1 (.ip (rv n).cells) = some (.v (.int .i32 (n : Int))) := fun _ _ => rfl
        have hd : L.drop i = L[i] :: L.drop (i + 1) := List.drop_eq_getElem_cons hil
        have hw := wrap_succ hil (small_max hm)
        have hk := rcls_ok L[i]
        have sn : ∀ (h : List AO) (k : IntKind) (x : Int), (AV.v (.int k x)).snap1 h = some (.v (.int k x)) := fun _ _ _ => rfl
        rw [hd, List.all_cons, ← Bool.and_assoc] at hR1 hR2
        generalize clsN L[i] = k at hk hR1 hR2
        refine ⟨.normal, V83 (a && inN k) (b && (k == 4)) c L.length ((i + 1 : Nat) : Int) (.v (.int .i32 L[i])) (.v (.int .i64 k)) (.v (.bool true)), h', ?_, hil, _, _, rfl, rfl, hR1, hR2⟩
        unfold inN
        cases a <;> cases b <;> cases q1 : (k == 1) <;> cases q4 : (k == 4) <;> cases q5 : (k == 2) <;> cases q6 : (k == 3) <;>
          simp only [V83, c120_15, c120_9, c120_10, c120_11, c120_12, c120_13, c120_14, hlt, q2, q3, hk, sn, hw, q1, q4, q5, q6, Bool.or_self, Bool.or_false, Bool.or_true, Bool.false_or, Bool.true_or, Bool.and_self, Bool.and_false, Bool.and_true, Bool.false_and, Bool.true_and, Q0, Q1, Q2, Q3, Q4, Q5, Q6, Q7, Q8, Q9, Q10, Q11, Q12, Q13, Q14, Q15, Q16, Q17, Q18, Q19, Q20, Q21, Q22, Q23, Q24, Q25, Q26, Q27, Q28, Q29, Q30, Q31, Q32, Q33, Q35, Q36, Q37, Q38, Q39, Q40, Q41, Q42, Q43, Q44, Q45, Q46, Q47, Q48, Q49, Q50, Q51, Q52, Q53, Q54, Q55, Q56, Q57, Q58, Q59, Q60, Q61, Q62, Q63, Q64, Q65, Q66, Q67, Q68, Q69, Q70, Q71, Q72, Q73, Q99, Q100, Q101, Q102, Q103, Q74, Q75, Q77, Q78, Q79, Q80, Q81, Q82, Q83, Q84, clr, List.length_nil, List.length_cons, List.getElem?_cons_zero, List.getElem?_cons_succ, Nat.reduceAdd, Nat.zero_add, Nat.add_zero, Nat.reduceLeDiff, Nat.reduceSub, ↓reduceIte, List.drop_succ_cons, List.drop_zero, List.take_succ_cons, List.take_zero, Bool.false_eq_true, List.nil_append, List.cons_append, Bool.not_true, Bool.not_false, cond_true, cond_false, bne, Q85, Q86, Q87, Q88, Q89, Q90, Q91, Q92, Q93, Q94, Q95, Q96, Q97, Q98, Q110, Q111, Q116, Q117, Q118, Q119, Q120, Q121, Q122, Q123, Option.map_some, Option.map_none, Q34]
      · have hie : i = L.length := by omega
        subst hie
        have hlt := lt_f (n := L.length)
        rw [List.drop_of_length_le (Nat.le_refl _), List.all_nil, Bool.and_true] at hR1 hR2
        refine ⟨.exit 0, V83 a b c L.length L.length .junk .junk (.v (.bool false)), h', ?_, rfl, rfl, .junk, .junk, by rw [hR1, hR2]⟩
        simp only [V83, c120_15, c120_9, hlt, Q0, Q1, Q2, Q3, Q4, Q5, Q6, Q7, Q8, Q9, Q10, Q11, Q12, Q13, Q14, Q15, Q16, Q17, Q18, Q19, Q20, Q21, Q22, Q23, Q24, Q25, Q26, Q27, Q28, Q29, Q30, Q31, Q32, Q33, Q35, Q36, Q37, Q38, Q39, Q40, Q41, Q42, Q43, Q44, Q45, Q46, Q47, Q48, Q49, Q50, Q51, Q52, Q53, Q54, Q55, Q56, Q57, Q58, Q59, Q60, Q61, Q62, Q63, Q64, Q65, Q66, Q67, Q68, Q69, Q70, Q71, Q72, Q73, Q99, Q100, Q101, Q102, Q103, Q74, Q75, Q77, Q78, Q79, Q80, Q81, Q82, Q83, Q84, clr, List.length_nil, List.length_cons, List.getElem?_cons_zero, List.getElem?_cons_succ, Nat.reduceAdd, Nat.zero_add, Nat.add_zero, Nat.reduceLeDiff, Nat.reduceSub, ↓reduceIte, List.drop_succ_cons, List.drop_zero, List.take_succ_cons, List.take_zero, Bool.false_eq_true, List.nil_append, List.cons_append, Bool.not_true, Bool.not_false, cond_true, cond_false, bne, Q85, Q86, Q87, Q88, Q89, Q90, Q91, Q92, Q93, Q94, Q95, Q96, Q97, Q98, Q110, Q111, Q116, Q117, Q118, Q119, Q120, Q121, Q122, Q123, Option.map_some, Option.map_none, Q34])
  obtain ⟨rfl, rfl, x5, x6, rfl⟩ := g3
  exact ⟨x5, x6, g1⟩
theorem toL_inj' {s s' : ByteArray} (h : s.toList = s'.toList) : s = s' := by
  rw [ByteArray.toList_eq, ByteArray.toList_eq] at h
  cases s with | mk d => cases s' with | mk d' => cases d with | mk x => cases d' with | mk y => simp at h; rw [h]
theorem eqS_eq {s : ByteArray} {l : List UInt8} (h : eqS s l = true) : s = ⟨l.toArray⟩ := by
  unfold eqS at h
  exact toL_inj' (by simpa using h)
theorem special {s : ByteArray} (h : (eqS s [91, 93] || (eqS s [123, 125] || (eqS s [33] || eqS s [59]))) = true) : eqS s [] = false ∧ eqS s [46] = false ∧ preS s = false := by
  simp only [Bool.or_eq_true] at h
  rcases h with h | h | h | h <;> (rw [eqS_eq h]; exact ⟨by kernel_rfl, by kernel_rfl, by kernel_rfl⟩)
theorem size_pos' {s : ByteArray} (h : eqS s [] = false) : 0 < s.size := by
  rcases Nat.eq_zero_or_pos s.size with e | e
  · exfalso
    have : s.toList = (⟨#[]⟩ : ByteArray).toList := by
      rw [ByteArray.toList_eq, ByteArray.toList_eq]
      cases s with
      | mk d =>
        have : d.size = 0 := e
        have := Array.eq_empty_of_size_eq_zero this
        subst this; rfl
    unfold eqS at h
    rw [this] at h
    simp at h
  · exact e
theorem runes_head {s : ByteArray} (h : 0 < s.size) : ∃ L, runesOf s = (Utf8.decode s 0).1 :: L := by
  unfold runesOf
  obtain ⟨k, hk⟩ : ∃ k, s.size = k + 1 := ⟨s.size - 1, by omega⟩
  rw [show rns s s.size 0 = rns s (k + 1) 0 by rw [hk], rns_cons h]
  exact ⟨_, rfl⟩
theorem rns_len (s : ByteArray) : ∀ f p, (rns s f p).length ≤ f
  | 0, p => by simp [rns]
  | f + 1, p => by
    rw [rns]
    split
    · have := rns_len s f (p + (Utf8.decode s p).2)
      simp; omega
    · simp
theorem rbareS_ok {s : ByteArray} (hchk : chkS s = true) : callW F 120 [.v (.string s)] [] = some (.v (.bool (bareS s)), []) := by
  have hk := rchk_ok s
  rw [hchk] at hk
  have h255 : s.size ≤ 255 := by
    simp only [chkS, Bool.and_eq_true, decide_eq_true_eq] at hchk
    omega
  obtain ⟨r, hr, cr⟩ := runes_ok (s := s) (by omega)
  have hlen := rns_len s s.size 0
  rw [show rns s s.size 0 = runesOf s from rfl] at hlen
  have hst : start c120 [.v (.string s)] = [.v (.string s), .v undef, .v undef, .v undef, .v undef, .v undef, .v undef, .v undef, .v undef, .v undef, .v undef, .v undef, .v undef] := rfl
  have hbody : c120.body = (.seq (.region [] [] c120_0) (.seq (.seq (.region [] [] c120_1) (.cond (.var 7) (.seq (.region [] [] c120_2) .ret) .skip)) (.seq (.seq (.region [] [] c120_3) (.cond (.var 8) (.seq (.region [] [] c120_4) .ret) .skip)) (.seq (.region [] [] c120_5) (.seq (.region [] [] c120_6) (.seq (.region [] [] c120_7) (.seq (.seq (.region [] [] c120_8) (.block 0 (.loop K83 [] c120_15))) (.seq (.region [] [] c120_16) .ret)))))))) := rfl
  have hres : c120.res = [.var 1] := rfl
  refine callW_pure (c := c120) rfl rfl ((runesOf s).length + 1) ?_
  rw [hbody, hres, hst]
  have n2 : natV (.v (.int .i64 2)) = some 2 := rfl
  have n0 : natV (.v (.int .i64 0)) = some 0 := rfl
  -- what is ahead
  have ahead : ∀ A B P : Bool, eqS s [] = A → eqS s [46] = B → preS s = P → True := fun _ _ _ _ _ _ => trivial
  have hlp := fun (nm : Bool) (v : List AV) => rbare_loop hr (by omega) v nm
  generalize c120_15 = bb at hlp ⊢
  cases q5 : eqS s [] with
  | true =>
    have hb : bareS s = false := by
      unfold bareS
      cases hS : (eqS s [91, 93] || (eqS s [123, 125] || (eqS s [33] || eqS s [59]))) with
      | true => have := (special hS).1; rw [q5] at this; cases this
      | false => simp [q5]
    rw [hb]
    unfold eqS at q5
    simp only [c120_0, c120_1, c120_2, hk, q5, snap_str, Bool.not_true, Q0, Q1, Q2, Q3, Q4, Q5, Q6, Q7, Q8, Q9, Q10, Q11, Q12, Q13, Q14, Q15, Q16, Q17, Q18, Q19, Q20, Q21, Q22, Q23, Q24, Q25, Q26, Q27, Q28, Q29, Q30, Q31, Q32, Q33, Q35, Q36, Q37, Q38, Q39, Q40, Q41, Q42, Q43, Q44, Q45, Q46, Q47, Q48, Q49, Q50, Q51, Q52, Q53, Q54, Q55, Q56, Q57, Q58, Q59, Q60, Q61, Q62, Q63, Q64, Q65, Q66, Q67, Q68, Q69, Q70, Q71, Q72, Q73, Q99, Q100, Q101, Q102, Q103, Q74, Q75, Q77, Q78, Q79, Q80, Q81, Q82, Q83, Q84, clr, List.length_nil, List.length_cons, List.getElem?_cons_zero, List.getElem?_cons_succ, Nat.reduceAdd, Nat.zero_add, Nat.add_zero, Nat.reduceLeDiff, Nat.reduceSub, ↓reduceIte, List.drop_succ_cons, List.drop_zero, List.take_succ_cons, List.take_zero, Bool.false_eq_true, List.nil_append, List.cons_append, Bool.not_true, Bool.not_false, cond_true, cond_false, bne, Q85, Q86, Q87, Q88, Q89, Q90, Q91, Q92, Q93, Q94, Q95, Q96, Q97, Q98, Q110, Q111, Q116, Q117, Q118, Q119, Q120, Q121, Q122, Q123, Option.map_some, Option.map_none]
  | false =>
  cases q6 : eqS s [46] with
  | true =>
    have hb : bareS s = false := by
      unfold bareS
      cases hS : (eqS s [91, 93] || (eqS s [123, 125] || (eqS s [33] || eqS s [59]))) with
      | true => have := (special hS).2.1; rw [q6] at this; cases this
      | false => simp [q6]
    rw [hb]
    unfold eqS at q5 q6
    simp only [c120_0, c120_1, c120_2, hk, q5, q6, snap_str, Bool.not_true, Q0, Q1, Q2, Q3, Q4, Q5, Q6, Q7, Q8, Q9, Q10, Q11, Q12, Q13, Q14, Q15, Q16, Q17, Q18, Q19, Q20, Q21, Q22, Q23, Q24, Q25, Q26, Q27, Q28, Q29, Q30, Q31, Q32, Q33, Q35, Q36, Q37, Q38, Q39, Q40, Q41, Q42, Q43, Q44, Q45, Q46, Q47, Q48, Q49, Q50, Q51, Q52, Q53, Q54, Q55, Q56, Q57, Q58, Q59, Q60, Q61, Q62, Q63, Q64, Q65, Q66, Q67, Q68, Q69, Q70, Q71, Q72, Q73, Q99, Q100, Q101, Q102, Q103, Q74, Q75, Q77, Q78, Q79, Q80, Q81, Q82, Q83, Q84, clr, List.length_nil, List.length_cons, List.getElem?_cons_zero, List.getElem?_cons_succ, Nat.reduceAdd, Nat.zero_add, Nat.add_zero, Nat.reduceLeDiff, Nat.reduceSub, ↓reduceIte, List.drop_succ_cons, List.drop_zero, List.take_succ_cons, List.take_zero, Bool.false_eq_true, List.nil_append, List.cons_append, Bool.not_true, Bool.not_false, cond_true, cond_false, bne, Q85, Q86, Q87, Q88, Q89, Q90, Q91, Q92, Q93, Q94, Q95, Q96, Q97, Q98, Q110, Q111, Q116, Q117, Q118, Q119, Q120, Q121, Q122, Q123, Option.map_some, Option.map_none]
  | false =>
  have hsz := size_pos' q5
  have hgt : decide ((s.size : Int) > 1) = decide ((s.size : Int) ≥ ((2 : Nat) : Int)) := by
    by_cases e : 2 ≤ s.size
    · rw [decide_eq_true (by omega), decide_eq_true (by omega)]
    · rw [decide_eq_false (by omega), decide_eq_false (by omega)]
  cases q7 : preS s with
  | true =>
    have hb : bareS s = false := by
      unfold bareS
      cases hS : (eqS s [91, 93] || (eqS s [123, 125] || (eqS s [33] || eqS s [59]))) with
      | true => have := (special hS).2.2; rw [q7] at this; cases this
      | false => simp [q5, q6, q7]
    rw [hb]
    unfold preS at q7
    simp only [Bool.and_eq_true] at q7
    rw [← hgt] at q7
    have h2 : 2 ≤ s.size := by have := q7.1; simp at this; omega
    have sl := ss_to h2
    have q7b := q7.2
    have q7a := q7.1
    unfold eqS at q5 q6
    simp only [c120_0, c120_1, c120_2, hk, q5, q6, q7a, q7b, e_sslice, n2, sl, snap_str, Bool.not_true, Q0, Q1, Q2, Q3, Q4, Q5, Q6, Q7, Q8, Q9, Q10, Q11, Q12, Q13, Q14, Q15, Q16, Q17, Q18, Q19, Q20, Q21, Q22, Q23, Q24, Q25, Q26, Q27, Q28, Q29, Q30, Q31, Q32, Q33, Q35, Q36, Q37, Q38, Q39, Q40, Q41, Q42, Q43, Q44, Q45, Q46, Q47, Q48, Q49, Q50, Q51, Q52, Q53, Q54, Q55, Q56, Q57, Q58, Q59, Q60, Q61, Q62, Q63, Q64, Q65, Q66, Q67, Q68, Q69, Q70, Q71, Q72, Q73, Q99, Q100, Q101, Q102, Q103, Q74, Q75, Q77, Q78, Q79, Q80, Q81, Q82, Q83, Q84, clr, List.length_nil, List.length_cons, List.getElem?_cons_zero, List.getElem?_cons_succ, Nat.reduceAdd, Nat.zero_add, Nat.add_zero, Nat.reduceLeDiff, Nat.reduceSub, ↓reduceIte, List.drop_succ_cons, List.drop_zero, List.take_succ_cons, List.take_zero, Bool.false_eq_true, List.nil_append, List.cons_append, Bool.not_true, Bool.not_false, cond_true, cond_false, bne, Q85, Q86, Q87, Q88, Q89, Q90, Q91, Q92, Q93, Q94, Q95, Q96, Q97, Q98, Q110, Q111, Q116, Q117, Q118, Q119, Q120, Q121, Q122, Q123, Option.map_some, Option.map_none]
  | false =>
  have first : ∀ rest : CC, lv [.var 1] (exec (callW F) ((runesOf s).length + 1) (.seq (.region [] [] c120_0) (.seq (.seq (.region [] [] c120_1) (.cond (.var 7) (.seq (.region [] [] c120_2) .ret) .skip)) rest)) [.v (.string s), .v undef, .v undef, .v undef, .v undef, .v undef, .v undef, .v undef, .v undef, .v undef, .v undef, .v undef, .v undef] []) = lv [.var 1] (exec (callW F) ((runesOf s).length + 1) rest [.v (.string s), .v (.bool false), .v undef, .v undef, .v undef, .v undef, .v undef, .v (.bool false), .v undef, .v undef, .v undef, .v undef, .v undef] []) := by
    intro rest
    unfold preS at q7
    rw [← hgt] at q7
    unfold eqS at q5 q6
    cases q8 : decide ((s.size : Int) > 1) with
    | false => simp only [c120_0, c120_1, hk, q5, q6, q8, snap_str, Bool.not_true, Q0, Q1, Q2, Q3, Q4, Q5, Q6, Q7, Q8, Q9, Q10, Q11, Q12, Q13, Q14, Q15, Q16, Q17, Q18, Q19, Q20, Q21, Q22, Q23, Q24, Q25, Q26, Q27, Q28, Q29, Q30, Q31, Q32, Q33, Q35, Q36, Q37, Q38, Q39, Q40, Q41, Q42, Q43, Q44, Q45, Q46, Q47, Q48, Q49, Q50, Q51, Q52, Q53, Q54, Q55, Q56, Q57, Q58, Q59, Q60, Q61, Q62, Q63, Q64, Q65, Q66, Q67, Q68, Q69, Q70, Q71, Q72, Q73, Q99, Q100, Q101, Q102, Q103, Q74, Q75, Q77, Q78, Q79, Q80, Q81, Q82, Q83, Q84, clr, List.length_nil, List.length_cons, List.getElem?_cons_zero, List.getElem?_cons_succ, Nat.reduceAdd, Nat.zero_add, Nat.add_zero, Nat.reduceLeDiff, Nat.reduceSub, ↓reduceIte, List.drop_succ_cons, List.drop_zero, List.take_succ_cons, List.take_zero, Bool.false_eq_true, List.nil_append, List.cons_append, Bool.not_true, Bool.not_false, cond_true, cond_false, bne, Q85, Q86, Q87, Q88, Q89, Q90, Q91, Q92, Q93, Q94, Q95, Q96, Q97, Q98, Q110, Q111, Q116, Q117, Q118, Q119, Q120, Q121, Q122, Q123, Option.map_some, Option.map_none]
    | true =>
      rw [q8, Bool.true_and] at q7
      have h2 : 2 ≤ s.size := by simp at q8; omega
      have sl := ss_to h2
      simp only [c120_0, c120_1, hk, q5, q6, q7, q8, e_sslice, n2, sl, snap_str, Bool.not_true, Q0, Q1, Q2, Q3, Q4, Q5, Q6, Q7, Q8, Q9, Q10, Q11, Q12, Q13, Q14, Q15, Q16, Q17, Q18, Q19, Q20, Q21, Q22, Q23, Q24, Q25, Q26, Q27, Q28, Q29, Q30, Q31, Q32, Q33, Q35, Q36, Q37, Q38, Q39, Q40, Q41, Q42, Q43, Q44, Q45, Q46, Q47, Q48, Q49, Q50, Q51, Q52, Q53, Q54, Q55, Q56, Q57, Q58, Q59, Q60, Q61, Q62, Q63, Q64, Q65, Q66, Q67, Q68, Q69, Q70, Q71, Q72, Q73, Q99, Q100, Q101, Q102, Q103, Q74, Q75, Q77, Q78, Q79, Q80, Q81, Q82, Q83, Q84, clr, List.length_nil, List.length_cons, List.getElem?_cons_zero, List.getElem?_cons_succ, Nat.reduceAdd, Nat.zero_add, Nat.add_zero, Nat.reduceLeDiff, Nat.reduceSub, ↓reduceIte, List.drop_succ_cons, List.drop_zero, List.take_succ_cons, List.take_zero, Bool.false_eq_true, List.nil_append, List.cons_append, Bool.not_true, Bool.not_false, cond_true, cond_false, bne, Q85, Q86, Q87, Q88, Q89, Q90, Q91, Q92, Q93, Q94, Q95, Q96, Q97, Q98, Q110, Q111, Q116, Q117, Q118, Q119, Q120, Q121, Q122, Q123, Option.map_some, Option.map_none]
  rw [first]
  have hb : bareS s = if (eqS s [91, 93] || (eqS s [123, 125] || (eqS s [33] || eqS s [59]))) = true then true else (runesOf s).all fun c => okR (firstC s) (clsN c) := by
    unfold bareS
    cases (eqS s [91, 93] || (eqS s [123, 125] || (eqS s [33] || eqS s [59]))) <;> simp [q5, q6, q7]
  rw [hb]
  obtain ⟨L', hL⟩ := runes_head hsz
  have hall := all_okR (firstC s) (runesOf s) (by rw [hL]; simp) (by rw [hL]; rfl)
  rw [← hall]
  have he : ((runesOf s).map rv)[0]? = some (rv (Utf8.decode s 0).1) := by rw [hL]; rfl
  have i0 := fun h : List AO => hr.ia he h
  have l0 := fun h : List AO => hr.len h
  rw [List.length_map] at l0
  have q3' : ∀ (h : List AO) (n : Nat), Q76 h false 1 (.ip (rv n).cells) = some (.v (.int .i32 (n : Int))) := fun _ _ => rfl
  have c0 := rcls_ok (Utf8.decode s 0).1
  rw [show clsN (Utf8.decode s 0).1 = firstC s from rfl] at c0
  have sn : ∀ (h : List AO) (k : IntKind) (x : Int), (AV.v (.int k x)).snap1 h = some (.v (.int k x)) := fun _ _ _ => rfl
  unfold eqS
  cases q1 : (s.toList == (⟨#[91, 93]⟩ : ByteArray).toList) with
  | true => simp only [c120_3, c120_4, q1, Bool.true_or, if_true, Q0, Q1, Q2, Q3, Q4, Q5, Q6, Q7, Q8, Q9, Q10, Q11, Q12, Q13, Q14, Q15, Q16, Q17, Q18, Q19, Q20, Q21, Q22, Q23, Q24, Q25, Q26, Q27, Q28, Q29, Q30, Q31, Q32, Q33, Q35, Q36, Q37, Q38, Q39, Q40, Q41, Q42, Q43, Q44, Q45, Q46, Q47, Q48, Q49, Q50, Q51, Q52, Q53, Q54, Q55, Q56, Q57, Q58, Q59, Q60, Q61, Q62, Q63, Q64, Q65, Q66, Q67, Q68, Q69, Q70, Q71, Q72, Q73, Q99, Q100, Q101, Q102, Q103, Q74, Q75, Q77, Q78, Q79, Q80, Q81, Q82, Q83, Q84, clr, List.length_nil, List.length_cons, List.getElem?_cons_zero, List.getElem?_cons_succ, Nat.reduceAdd, Nat.zero_add, Nat.add_zero, Nat.reduceLeDiff, Nat.reduceSub, ↓reduceIte, List.drop_succ_cons, List.drop_zero, List.take_succ_cons, List.take_zero, Bool.false_eq_true, List.nil_append, List.cons_append, Bool.not_true, Bool.not_false, cond_true, cond_false, bne, Q85, Q86, Q87, Q88, Q89, Q90, Q91, Q92, Q93, Q94, Q95, Q96, Q97, Q98, Q110, Q111, Q116, Q117, Q118, Q119, Q120, Q121, Q122, Q123, Option.map_some, Option.map_none]
  | false =>
  cases q2 : (s.toList == (⟨#[123, 125]⟩ : ByteArray).toList) with
  | true => simp only [c120_3, c120_4, q1, q2, Bool.true_or, Bool.or_true, if_true, Q0, Q1, Q2, Q3, Q4, Q5, Q6, Q7, Q8, Q9, Q10, Q11, Q12, Q13, Q14, Q15, Q16, Q17, Q18, Q19, Q20, Q21, Q22, Q23, Q24, Q25, Q26, Q27, Q28, Q29, Q30, Q31, Q32, Q33, Q35, Q36, Q37, Q38, Q39, Q40, Q41, Q42, Q43, Q44, Q45, Q46, Q47, Q48, Q49, Q50, Q51, Q52, Q53, Q54, Q55, Q56, Q57, Q58, Q59, Q60, Q61, Q62, Q63, Q64, Q65, Q66, Q67, Q68, Q69, Q70, Q71, Q72, Q73, Q99, Q100, Q101, Q102, Q103, Q74, Q75, Q77, Q78, Q79, Q80, Q81, Q82, Q83, Q84, clr, List.length_nil, List.length_cons, List.getElem?_cons_zero, List.getElem?_cons_succ, Nat.reduceAdd, Nat.zero_add, Nat.add_zero, Nat.reduceLeDiff, Nat.reduceSub, ↓reduceIte, List.drop_succ_cons, List.drop_zero, List.take_succ_cons, List.take_zero, Bool.false_eq_true, List.nil_append, List.cons_append, Bool.not_true, Bool.not_false, cond_true, cond_false, bne, Q85, Q86, Q87, Q88, Q89, Q90, Q91, Q92, Q93, Q94, Q95, Q96, Q97, Q98, Q110, Q111, Q116, Q117, Q118, Q119, Q120, Q121, Q122, Q123, Option.map_some, Option.map_none]
  | false =>
  cases q3 : (s.toList == (⟨#[33]⟩ : ByteArray).toList) with
  | true => simp only [c120_3, c120_4, q1, q2, q3, Bool.true_or, Bool.or_true, if_true, Q0, Q1, Q2, Q3, Q4, Q5, Q6, Q7, Q8, Q9, Q10, Q11, Q12, Q13, Q14, Q15, Q16, Q17, Q18, Q19, Q20, Q21, Q22, Q23, Q24, Q25, Q26, Q27, Q28, Q29, Q30, Q31, Q32, Q33, Q35, Q36, Q37, Q38, Q39, Q40, Q41, Q42, Q43, Q44, Q45, Q46, Q47, Q48, Q49, Q50, Q51, Q52, Q53, Q54, Q55, Q56, Q57, Q58, Q59, Q60, Q61, Q62, Q63, Q64, Q65, Q66, Q67, Q68, Q69, Q70, Q71, Q72, Q73, Q99, Q100, Q101, Q102, Q103, Q74, Q75, Q77, Q78, Q79, Q80, Q81, Q82, Q83, Q84, clr, List.length_nil, List.length_cons, List.getElem?_cons_zero, List.getElem?_cons_succ, Nat.reduceAdd, Nat.zero_add, Nat.add_zero, Nat.reduceLeDiff, Nat.reduceSub, ↓reduceIte, List.drop_succ_cons, List.drop_zero, List.take_succ_cons, List.take_zero, Bool.false_eq_true, List.nil_append, List.cons_append, Bool.not_true, Bool.not_false, cond_true, cond_false, bne, Q85, Q86, Q87, Q88, Q89, Q90, Q91, Q92, Q93, Q94, Q95, Q96, Q97, Q98, Q110, Q111, Q116, Q117, Q118, Q119, Q120, Q121, Q122, Q123, Option.map_some, Option.map_none]
  | false =>
  cases q4 : (s.toList == (⟨#[59]⟩ : ByteArray).toList) with
  | true => simp only [c120_3, c120_4, q1, q2, q3, q4, Bool.or_true, if_true, Q0, Q1, Q2, Q3, Q4, Q5, Q6, Q7, Q8, Q9, Q10, Q11, Q12, Q13, Q14, Q15, Q16, Q17, Q18, Q19, Q20, Q21, Q22, Q23, Q24, Q25, Q26, Q27, Q28, Q29, Q30, Q31, Q32, Q33, Q35, Q36, Q37, Q38, Q39, Q40, Q41, Q42, Q43, Q44, Q45, Q46, Q47, Q48, Q49, Q50, Q51, Q52, Q53, Q54, Q55, Q56, Q57, Q58, Q59, Q60, Q61, Q62, Q63, Q64, Q65, Q66, Q67, Q68, Q69, Q70, Q71, Q72, Q73, Q99, Q100, Q101, Q102, Q103, Q74, Q75, Q77, Q78, Q79, Q80, Q81, Q82, Q83, Q84, clr, List.length_nil, List.length_cons, List.getElem?_cons_zero, List.getElem?_cons_succ, Nat.reduceAdd, Nat.zero_add, Nat.add_zero, Nat.reduceLeDiff, Nat.reduceSub, ↓reduceIte, List.drop_succ_cons, List.drop_zero, List.take_succ_cons, List.take_zero, Bool.false_eq_true, List.nil_append, List.cons_append, Bool.not_true, Bool.not_false, cond_true, cond_false, bne, Q85, Q86, Q87, Q88, Q89, Q90, Q91, Q92, Q93, Q94, Q95, Q96, Q97, Q98, Q110, Q111, Q116, Q117, Q118, Q119, Q120, Q121, Q122, Q123, Option.map_some, Option.map_none]
  | false =>
    obtain ⟨x5, x6, hl⟩ := hlp (firstC s == 1) [.v (.string s), .v (.bool false), r, .v (.bool (firstC s == 1)), .v (.bool true), .v undef, .v undef, .v (.bool false), .v (.bool false), r, .v (.int .i64 (runesOf s).length), .v (.int .i64 0), .v undef] rfl ((runesOf s).length + 1) (by omega) []
    generalize ((firstC s == 1) && (runesOf s).all fun c => inN (clsN c)) = R1 at hl ⊢
    generalize ((runesOf s).all fun c => clsN c == 4) = R2 at hl ⊢
    cases R1 <;> cases R2 <;>
    simp only [V83, c120_3, c120_5, c120_6, c120_7, c120_8, c120_16, q1, q2, q3, q4, cr, snap_str, n0, i0, l0, q3', c0, sn, hl, Bool.or_self, Bool.or_true, Bool.true_or, Bool.false_eq_true, if_false, Q0, Q1, Q2, Q3, Q4, Q5, Q6, Q7, Q8, Q9, Q10, Q11, Q12, Q13, Q14, Q15, Q16, Q17, Q18, Q19, Q20, Q21, Q22, Q23, Q24, Q25, Q26, Q27, Q28, Q29, Q30, Q31, Q32, Q33, Q35, Q36, Q37, Q38, Q39, Q40, Q41, Q42, Q43, Q44, Q45, Q46, Q47, Q48, Q49, Q50, Q51, Q52, Q53, Q54, Q55, Q56, Q57, Q58, Q59, Q60, Q61, Q62, Q63, Q64, Q65, Q66, Q67, Q68, Q69, Q70, Q71, Q72, Q73, Q99, Q100, Q101, Q102, Q103, Q74, Q75, Q77, Q78, Q79, Q80, Q81, Q82, Q83, Q84, clr, List.length_nil, List.length_cons, List.getElem?_cons_zero, List.getElem?_cons_succ, Nat.reduceAdd, Nat.zero_add, Nat.add_zero, Nat.reduceLeDiff, Nat.reduceSub, ↓reduceIte, List.drop_succ_cons, List.drop_zero, List.take_succ_cons, List.take_zero, Bool.false_eq_true, List.nil_append, List.cons_append, Bool.not_true, Bool.not_false, cond_true, cond_false, bne, Q85, Q86, Q87, Q88, Q89, Q90, Q91, Q92, Q93, Q94, Q95, Q96, Q97, Q98, Q110, Q111, Q116, Q117, Q118, Q119, Q120, Q121, Q122, Q123, Option.map_some, Option.map_none]
end Go.AE.YtinhjhkmpknbbaaDoor
end

/-! An atom's text, quoted: the document's. -/
section
set_option linter.unusedVariables false
set_option linter.unusedSimpArgs false
namespace Go.AE.YtinhjhkmpknbbaaDoor
open Go Go.AE Go.Proofs.YtinhjhkmpknbbaaDoor

def hd16 (d : Nat) : UInt8 := UInt8.ofNat (if d < 10 then 48 + d else 87 + d)
def hexL (c : Nat) : List UInt8 := if c < 16 then [hd16 c] else [hd16 (c / 16), hd16 (c % 16)]
theorem hexL_len (c : Nat) : (hexL c).length ≤ 2 := by unfold hexL; split <;> simp
def bl (s : ByteArray) : List UInt8 := s.data.toList
theorem bl_eta (s : ByteArray) : s = ⟨(bl s).toArray⟩ := by cases s; simp [bl]
def encL (c : Nat) : List UInt8 := bl (Utf8.encode (c : Int))
theorem enc_eq (c : Nat) : Utf8.encode (c : Int) = ⟨(encL c).toArray⟩ := bl_eta _
theorem bl_len (l : List UInt8) (h : l.length ≤ 4) : (bl ⟨l.toArray⟩).length ≤ 4 := by simpa [bl] using h
theorem enc_len (r : Int) : (bl (Utf8.encode r)).length ≤ 4 := by
  unfold Utf8.encode
  generalize (if Utf8.valid r = true then r.toNat else Utf8.runeError) = m
  simp only
  split
  · exact bl_len _ (by simp)
  · split
    · exact bl_len _ (by simp)
    · split
      · exact bl_len _ (by simp)
      · exact bl_len _ (by simp)
theorem encL_len (c : Nat) : (encL c).length ≤ 4 := enc_len _
def escH (b1 b2 b3 b4 : Bool) (E H : List UInt8) : List UInt8 :=
  if b1 = true then [92] ++ E else if b2 = true then [92, 110] else if b3 = true then [92, 116] else if b4 = true then ([92, 120] ++ H) ++ [92] else E
theorem escH_len (b1 b2 b3 b4 : Bool) {E H : List UInt8} (h1 : E.length ≤ 4) (h2 : H.length ≤ 2) : (escH b1 b2 b3 b4 E H).length ≤ 5 := by
  cases b1 <;> cases b2 <;> cases b3 <;> cases b4 <;> simp [escH] <;> omega
def escL (c : Nat) : List UInt8 := escH ((c : Int) == 39 || (c : Int) == 92) ((c : Int) == 10) ((c : Int) == 9) (decide ((c : Int) < 32)) (encL c) (hexL c)
theorem escL_len (c : Nat) : (escL c).length ≤ 5 := escH_len _ _ _ _ (encL_len c) (hexL_len c)
def writeL (s : ByteArray) : List UInt8 := if bareS s = true then bl s else 39 :: ((runesOf s).flatMap escL ++ [39])
theorem rhex_tab : (List.range 32).map (fun (c : Nat) => callN F 20 122 [.v (.int .i32 (c : Int))] []) = (List.range 32).map fun (c : Nat) => some (.v (.string ⟨(hexL c).toArray⟩), []) := by kernel_rfl
theorem rhex_ok {c : Nat} (h : c < 32) : callW F 122 [.v (.int .i32 (c : Int))] [] = some (.v (.string ⟨(hexL c).toArray⟩), []) :=
  callW_iff.2 ⟨20, List.map_inj_left.1 rhex_tab c (List.mem_range.2 h)⟩
def rsV (h : List AO) : AV → Option (AV × List AO)
  | .v (.int _ n) => some (.v (.string (Utf8.encode n)), h)
  | _ => none
theorem e_runestr {call : CallF} {vars env : List AV} {h : List AO} {x : Opd} : evOp call vars env h (.runestr x) = rsV h (getO vars env x) := by
  simp only [evOp, rsV]
  generalize getO vars env x = a
  cases a with
  | v x => cases x <;> rfl
  | _ => rfl
theorem rsV_nat {h : List AO} {k : IntKind} {c : Nat} : rsV h (.v (.int k (c : Int))) = some (.v (.string ⟨(encL c).toArray⟩), h) := by
  rw [← enc_eq]; rfl
def strV (l : List UInt8) : AV := .v (.string ⟨l.toArray⟩)
theorem add_str {x y : List UInt8} (hl : x.length + y.length ≤ 1000000000) : Q78 .add (strV x) (strV y) = some (strV (x ++ y)) := by
  unfold strV
  simp only [Q78, Q80, str_cat]
  rw [if_pos (str_le hl)]
def V74 (P : ByteArray) (r : AV) (n i : Int) (x9 : AV) : List AV := [.junk, .junk, .v (.string P), .junk, .junk, .junk, r, .v (.int .i64 n), .v (.int .i64 i), x9, .junk, .junk, .junk, .junk]
def K74 : List Bool := [false, false, true, false, false, false, true, true, true, false, false, false, false, false]
def Adds (x y z : ByteArray) : Prop := ((x.size + y.size : Nat) : Int) ≤ 9223372036854775807 ∧ x ++ y = z
section
variable {call : CallF} {K : Nat} {h : List AO} {P R SE SH : ByteArray} {x : Int} {v0 v1 v4 v5 v6 v7 v8 v9 v10 v11 v12 v13 : AV}
theorem g12 {Y : ByteArray} (a2 : Q78 .add (.v (.string P)) (.v (.string Y)) = some (.v (.string R))) : exec call K (.region [] [] [⟨(.mov (.var 2)), none, none⟩, ⟨(.bin .add (.loc 0) (.k (.string Y))), none, none⟩, ⟨(.mov (.loc 0)), (some 2), none⟩]) [v0, v1, .v (.string P), .v (.int .i32 x), v4, v5, v6, v7, v8, v9, v10, v11, v12, v13] h = some (.normal, [v0, v1, .v (.string R), .v (.int .i32 x), v4, v5, v6, v7, v8, v9, v10, v11, v12, v13], h) := by
  simp only [a2, Q0, Q1, Q2, Q3, Q4, Q5, Q6, Q7, Q8, Q9, Q10, Q11, Q12, Q13, Q14, Q15, Q16, Q17, Q18, Q19, Q20, Q21, Q22, Q23, Q24, Q25, Q26, Q27, Q28, Q29, Q30, Q31, Q32, Q33, Q35, Q36, Q37, Q38, Q39, Q40, Q41, Q42, Q43, Q44, Q45, Q46, Q47, Q48, Q49, Q50, Q51, Q52, Q53, Q54, Q55, Q56, Q57, Q58, Q59, Q60, Q61, Q62, Q63, Q64, Q65, Q66, Q67, Q68, Q69, Q70, Q71, Q72, Q73, Q99, Q100, Q101, Q102, Q103, Q74, Q75, Q77, Q78, Q79, Q80, Q81, Q82, Q83, Q84, clr, List.length_nil, List.length_cons, List.getElem?_cons_zero, List.getElem?_cons_succ, Nat.reduceAdd, Nat.zero_add, Nat.add_zero, Nat.reduceLeDiff, Nat.reduceSub, ↓reduceIte, List.drop_succ_cons, List.drop_zero, List.take_succ_cons, List.take_zero, Bool.false_eq_true, List.nil_append, List.cons_append, Bool.not_true, Bool.not_false, cond_true, cond_false, bne, Q85, Q86, Q87, Q88, Q89, Q90, Q91, Q92, Q93, Q94, Q95, Q96, Q97, Q98, Q110, Q111, Q116, Q117, Q118, Q119, Q120, Q121, Q122, Q123, Option.map_some, Option.map_none, Q34, -Q78]
theorem r12 (a2 : Q78 .add (.v (.string P)) (.v (.string ⟨#[92, 110]⟩)) = some (.v (.string R))) : exec call K (.region [] [] c100_12) [v0, v1, .v (.string P), .v (.int .i32 x), v4, v5, v6, v7, v8, v9, v10, v11, v12, v13] h = some (.normal, [v0, v1, .v (.string R), .v (.int .i32 x), v4, v5, v6, v7, v8, v9, v10, v11, v12, v13], h) := g12 a2
theorem r14 (a2 : Q78 .add (.v (.string P)) (.v (.string ⟨#[92, 116]⟩)) = some (.v (.string R))) : exec call K (.region [] [] c100_14) [v0, v1, .v (.string P), .v (.int .i32 x), v4, v5, v6, v7, v8, v9, v10, v11, v12, v13] h = some (.normal, [v0, v1, .v (.string R), .v (.int .i32 x), v4, v5, v6, v7, v8, v9, v10, v11, v12, v13], h) := g12 a2
theorem g10 {Y Q : ByteArray} (hrs : rsV h (.v (.int .i32 x)) = some (.v (.string SE), h)) (a1 : Q78 .add (.v (.string Y)) (.v (.string SE)) = some (.v (.string Q))) (a2 : Q78 .add (.v (.string P)) (.v (.string Q)) = some (.v (.string R))) : exec call K (.region [] [] [⟨(.mov (.var 2)), none, none⟩,
  ⟨(.mov (.var 3)), none, none⟩,
  ⟨(.runestr (.loc 0)), none, none⟩,
  ⟨(.bin .add (.k (.string Y)) (.loc 0)), none, none⟩,
  ⟨(.bin .add (.loc 3) (.loc 0)), none, none⟩,
  ⟨(.mov (.loc 0)), (some 2), none⟩]) [v0, v1, .v (.string P), .v (.int .i32 x), v4, v5, v6, v7, v8, v9, v10, v11, v12, v13] h = some (.normal, [v0, v1, .v (.string R), .v (.int .i32 x), v4, v5, v6, v7, v8, v9, v10, v11, v12, v13], h) := by
  simp only [e_runestr, hrs, a1, a2, Q0, Q1, Q2, Q3, Q4, Q5, Q6, Q7, Q8, Q9, Q10, Q11, Q12, Q13, Q14, Q15, Q16, Q17, Q18, Q19, Q20, Q21, Q22, Q23, Q24, Q25, Q26, Q27, Q28, Q29, Q30, Q31, Q32, Q33, Q35, Q36, Q37, Q38, Q39, Q40, Q41, Q42, Q43, Q44, Q45, Q46, Q47, Q48, Q49, Q50, Q51, Q52, Q53, Q54, Q55, Q56, Q57, Q58, Q59, Q60, Q61, Q62, Q63, Q64, Q65, Q66, Q67, Q68, Q69, Q70, Q71, Q72, Q73, Q99, Q100, Q101, Q102, Q103, Q74, Q75, Q77, Q78, Q79, Q80, Q81, Q82, Q83, Q84, clr, List.length_nil, List.length_cons, List.getElem?_cons_zero, List.getElem?_cons_succ, Nat.reduceAdd, Nat.zero_add, Nat.add_zero, Nat.reduceLeDiff, Nat.reduceSub, ↓reduceIte, List.drop_succ_cons, List.drop_zero, List.take_succ_cons, List.take_zero, Bool.false_eq_true, List.nil_append, List.cons_append, Bool.not_true, Bool.not_false, cond_true, cond_false, bne, Q85, Q86, Q87, Q88, Q89, Q90, Q91, Q92, Q93, Q94, Q95, Q96, Q97, Q98, Q110, Q111, Q116, Q117, Q118, Q119, Q120, Q121, Q122, Q123, Option.map_some, Option.map_none, Q34, -Q78]
theorem r10 {Q : ByteArray} (hrs : rsV h (.v (.int .i32 x)) = some (.v (.string SE), h)) (a1 : Q78 .add (.v (.string ⟨#[92]⟩)) (.v (.string SE)) = some (.v (.string Q))) (a2 : Q78 .add (.v (.string P)) (.v (.string Q)) = some (.v (.string R))) : exec call K (.region [] [] c100_10) [v0, v1, .v (.string P), .v (.int .i32 x), v4, v5, v6, v7, v8, v9, v10, v11, v12, v13] h = some (.normal, [v0, v1, .v (.string R), .v (.int .i32 x), v4, v5, v6, v7, v8, v9, v10, v11, v12, v13], h) := g10 hrs a1 a2
theorem r17 (hrs : rsV h (.v (.int .i32 x)) = some (.v (.string SE), h)) (a2 : Q78 .add (.v (.string P)) (.v (.string SE)) = some (.v (.string R))) : exec call K (.region [] [] c100_17) [v0, v1, .v (.string P), .v (.int .i32 x), v4, v5, v6, v7, v8, v9, v10, v11, v12, v13] h = some (.normal, [v0, v1, .v (.string R), .v (.int .i32 x), v4, v5, v6, v7, v8, v9, v10, v11, v12, v13], h) := by
  simp only [c100_17, e_runestr, hrs, a2, Q0, Q1, Q2, Q3, Q4, Q5, Q6, Q7, Q8, Q9, Q10, Q11, Q12, Q13, Q14, Q15, Q16, Q17, Q18, Q19, Q20, Q21, Q22, Q23, Q24, Q25, Q26, Q27, Q28, Q29, Q30, Q31, Q32, Q33, Q35, Q36, Q37, Q38, Q39, Q40, Q41, Q42, Q43, Q44, Q45, Q46, Q47, Q48, Q49, Q50, Q51, Q52, Q53, Q54, Q55, Q56, Q57, Q58, Q59, Q60, Q61, Q62, Q63, Q64, Q65, Q66, Q67, Q68, Q69, Q70, Q71, Q72, Q73, Q99, Q100, Q101, Q102, Q103, Q74, Q75, Q77, Q78, Q79, Q80, Q81, Q82, Q83, Q84, clr, List.length_nil, List.length_cons, List.getElem?_cons_zero, List.getElem?_cons_succ, Nat.reduceAdd, Nat.zero_add, Nat.add_zero, Nat.reduceLeDiff, Nat.reduceSub, ↓reduceIte, List.drop_succ_cons, List.drop_zero, List.take_succ_cons, List.take_zero, Bool.false_eq_true, List.nil_append, List.cons_append, Bool.not_true, Bool.not_false, cond_true, cond_false, bne, Q85, Q86, Q87, Q88, Q89, Q90, Q91, Q92, Q93, Q94, Q95, Q96, Q97, Q98, Q110, Q111, Q116, Q117, Q118, Q119, Q120, Q121, Q122, Q123, Option.map_some, Option.map_none, Q34, -Q78]
theorem g16 {Y Y' Q Q' : ByteArray} (hx : call 122 [.v (.int .i32 x)] [] = some (.v (.string SH), [])) (a1 : Q78 .add (.v (.string Y)) (.v (.string SH)) = some (.v (.string Q))) (a2 : Q78 .add (.v (.string Q)) (.v (.string Y')) = some (.v (.string Q'))) (a3 : Q78 .add (.v (.string P)) (.v (.string Q')) = some (.v (.string R))) : exec call K (.region [] [] [⟨(.mov (.var 2)), none, none⟩,
  ⟨(.mov (.var 3)), none, none⟩,
  ⟨(.call true 122 [(.loc 0)]), none, none⟩,
  ⟨(.bin .add (.k (.string Y)) (.loc 0)), none, none⟩,
  ⟨(.bin .add (.loc 0) (.k (.string Y'))), none, none⟩,
  ⟨(.bin .add (.loc 4) (.loc 0)), none, none⟩,
  ⟨(.mov (.loc 0)), (some 2), none⟩]) [v0, v1, .v (.string P), .v (.int .i32 x), v4, v5, v6, v7, v8, v9, v10, v11, v12, v13] h = some (.normal, [v0, v1, .v (.string R), .v (.int .i32 x), v4, v5, v6, v7, v8, v9, v10, v11, v12, v13], h) := by
  have sn : (AV.v (.int .i32 x)).snap1 h = some (.v (.int .i32 x)) := rfl
  simp only [sn, hx, a1, a2, a3, Q0, Q1, Q2, Q3, Q4, Q5, Q6, Q7, Q8, Q9, Q10, Q11, Q12, Q13, Q14, Q15, Q16, Q17, Q18, Q19, Q20, Q21, Q22, Q23, Q24, Q25, Q26, Q27, Q28, Q29, Q30, Q31, Q32, Q33, Q35, Q36, Q37, Q38, Q39, Q40, Q41, Q42, Q43, Q44, Q45, Q46, Q47, Q48, Q49, Q50, Q51, Q52, Q53, Q54, Q55, Q56, Q57, Q58, Q59, Q60, Q61, Q62, Q63, Q64, Q65, Q66, Q67, Q68, Q69, Q70, Q71, Q72, Q73, Q99, Q100, Q101, Q102, Q103, Q74, Q75, Q77, Q78, Q79, Q80, Q81, Q82, Q83, Q84, clr, List.length_nil, List.length_cons, List.getElem?_cons_zero, List.getElem?_cons_succ, Nat.reduceAdd, Nat.zero_add, Nat.add_zero, Nat.reduceLeDiff, Nat.reduceSub, ↓reduceIte, List.drop_succ_cons, List.drop_zero, List.take_succ_cons, List.take_zero, Bool.false_eq_true, List.nil_append, List.cons_append, Bool.not_true, Bool.not_false, cond_true, cond_false, bne, Q85, Q86, Q87, Q88, Q89, Q90, Q91, Q92, Q93, Q94, Q95, Q96, Q97, Q98, Q110, Q111, Q116, Q117, Q118, Q119, Q120, Q121, Q122, Q123, Option.map_some, Option.map_none, Q34, -Q78]
theorem r16 {Q Q' : ByteArray} (hx : call 122 [.v (.int .i32 x)] [] = some (.v (.string SH), [])) (a1 : Q78 .add (.v (.string ⟨#[92, 120]⟩)) (.v (.string SH)) = some (.v (.string Q))) (a2 : Q78 .add (.v (.string Q)) (.v (.string ⟨#[92]⟩)) = some (.v (.string Q'))) (a3 : Q78 .add (.v (.string P)) (.v (.string Q')) = some (.v (.string R))) : exec call K (.region [] [] c100_16) [v0, v1, .v (.string P), .v (.int .i32 x), v4, v5, v6, v7, v8, v9, v10, v11, v12, v13] h = some (.normal, [v0, v1, .v (.string R), .v (.int .i32 x), v4, v5, v6, v7, v8, v9, v10, v11, v12, v13], h) := g16 hx a1 a2 a3
end
def AddS (x y z : ByteArray) : Prop := Q78 .add (.v (.string x)) (.v (.string y)) = some (.v (.string z))
def code19 (X10 X12 X14 X16 X17 : CC) : CC := (.seq (.region [] [] c100_7) (.seq (.cond (.var 9) .skip (.exit 0)) (.seq (.block 1 (.seq (.region [] [] c100_8) (.block 2 (.seq (.region [] [] c100_9) (.cond (.var 10) X10 (.seq (.region [] [] c100_11) (.cond (.var 11) X12 (.seq (.region [] [] c100_13) (.cond (.var 12) X14 (.seq (.region [] [] c100_15) (.cond (.var 13) X16 X17))))))))))) (.region [] [] c100_18))))
theorem code_eq : c100_19 = code19 (.region [] [] c100_10) (.region [] [] c100_12) (.region [] [] c100_14) (.region [] [] c100_16) (.region [] [] c100_17) := rfl
theorem step74 {call : CallF} {r : AV} {P R : ByteArray} {c : Int} {i n K : Nat} {h : List AO} {X10 X12 X14 X16 X17 : CC} (hlt : decide ((i : Int) < (n : Int)) = true) (hw : IntKind.i64.wrap ((i : Int) + 1) = ((i + 1 : Nat) : Int))
    (q2 : ∀ h : List AO, iaV h 1 r (some i) = some (.ip [.v (.int .i32 c)]))
    (k1 : (c == 39 || c == 92) = true → ∀ v0 v1 v4 v5 v6 v7 v8 v9 v10 v11 v12 v13 : AV, exec call K X10 [v0, v1, .v (.string P), .v (.int .i32 c), v4, v5, v6, v7, v8, v9, v10, v11, v12, v13] h = some (.normal, [v0, v1, .v (.string R), .v (.int .i32 c), v4, v5, v6, v7, v8, v9, v10, v11, v12, v13], h))
    (k2 : (c == 39 || c == 92) = false → (c == 10) = true → ∀ v0 v1 v4 v5 v6 v7 v8 v9 v10 v11 v12 v13 : AV, exec call K X12 [v0, v1, .v (.string P), .v (.int .i32 c), v4, v5, v6, v7, v8, v9, v10, v11, v12, v13] h = some (.normal, [v0, v1, .v (.string R), .v (.int .i32 c), v4, v5, v6, v7, v8, v9, v10, v11, v12, v13], h))
    (k3 : (c == 39 || c == 92) = false → (c == 10) = false → (c == 9) = true → ∀ v0 v1 v4 v5 v6 v7 v8 v9 v10 v11 v12 v13 : AV, exec call K X14 [v0, v1, .v (.string P), .v (.int .i32 c), v4, v5, v6, v7, v8, v9, v10, v11, v12, v13] h = some (.normal, [v0, v1, .v (.string R), .v (.int .i32 c), v4, v5, v6, v7, v8, v9, v10, v11, v12, v13], h))
    (k4 : (c == 39 || c == 92) = false → (c == 10) = false → (c == 9) = false → decide (c < 32) = true → ∀ v0 v1 v4 v5 v6 v7 v8 v9 v10 v11 v12 v13 : AV, exec call K X16 [v0, v1, .v (.string P), .v (.int .i32 c), v4, v5, v6, v7, v8, v9, v10, v11, v12, v13] h = some (.normal, [v0, v1, .v (.string R), .v (.int .i32 c), v4, v5, v6, v7, v8, v9, v10, v11, v12, v13], h))
    (k5 : (c == 39 || c == 92) = false → (c == 10) = false → (c == 9) = false → decide (c < 32) = false → ∀ v0 v1 v4 v5 v6 v7 v8 v9 v10 v11 v12 v13 : AV, exec call K X17 [v0, v1, .v (.string P), .v (.int .i32 c), v4, v5, v6, v7, v8, v9, v10, v11, v12, v13] h = some (.normal, [v0, v1, .v (.string R), .v (.int .i32 c), v4, v5, v6, v7, v8, v9, v10, v11, v12, v13], h)) :
    ∃ x9 x10 x11 x12 x13 : AV, exec call K (code19 X10 X12 X14 X16 X17) (V74 P r n i .junk) h = some (.normal, [.junk, .junk, .v (.string R), .v (.int .i32 c), .junk, .junk, r, .v (.int .i64 n), .v (.int .i64 ((i + 1 : Nat) : Int)), x9, x10, x11, x12, x13], h) := by
  have q3 : ∀ (h : List AO), Q76 h false 1 (.ip [.v (.int .i32 c)]) = some (.v (.int .i32 c)) := fun _ => rfl
  cases q1 : (c == 39 || c == 92) with
  | true =>
    have z := k1 q1
    refine ⟨.v (.bool true), .v (.bool true), .junk, .junk, .junk, ?_⟩
    cases q2' : (c == 39) with
    | true => simp only [V74, code19, c100_7, c100_8, c100_9, c100_18, hlt, hw, q2, q3, q2', z, Q0, Q1, Q2, Q3, Q4, Q5, Q6, Q7, Q8, Q9, Q10, Q11, Q12, Q13, Q14, Q15, Q16, Q17, Q18, Q19, Q20, Q21, Q22, Q23, Q24, Q25, Q26, Q27, Q28, Q29, Q30, Q31, Q32, Q33, Q35, Q36, Q37, Q38, Q39, Q40, Q41, Q42, Q43, Q44, Q45, Q46, Q47, Q48, Q49, Q50, Q51, Q52, Q53, Q54, Q55, Q56, Q57, Q58, Q59, Q60, Q61, Q62, Q63, Q64, Q65, Q66, Q67, Q68, Q69, Q70, Q71, Q72, Q73, Q99, Q100, Q101, Q102, Q103, Q74, Q75, Q77, Q78, Q79, Q80, Q81, Q82, Q83, Q84, clr, List.length_nil, List.length_cons, List.getElem?_cons_zero, List.getElem?_cons_succ, Nat.reduceAdd, Nat.zero_add, Nat.add_zero, Nat.reduceLeDiff, Nat.reduceSub, ↓reduceIte, List.drop_succ_cons, List.drop_zero, List.take_succ_cons, List.take_zero, Bool.false_eq_true, List.nil_append, List.cons_append, Bool.not_true, Bool.not_false, cond_true, cond_false, bne, Q85, Q86, Q87, Q88, Q89, Q90, Q91, Q92, Q93, Q94, Q95, Q96, Q97, Q98, Q110, Q111, Q116, Q117, Q118, Q119, Q120, Q121, Q122, Q123, Option.map_some, Option.map_none, Q34]
    | false =>
      rw [q2', Bool.false_or] at q1
      simp only [V74, code19, c100_7, c100_8, c100_9, c100_18, hlt, hw, q2, q3, q2', q1, z, Q0, Q1, Q2, Q3, Q4, Q5, Q6, Q7, Q8, Q9, Q10, Q11, Q12, Q13, Q14, Q15, Q16, Q17, Q18, Q19, Q20, Q21, Q22, Q23, Q24, Q25, Q26, Q27, Q28, Q29, Q30, Q31, Q32, Q33, Q35, Q36, Q37, Q38, Q39, Q40, Q41, Q42, Q43, Q44, Q45, Q46, Q47, Q48, Q49, Q50, Q51, Q52, Q53, Q54, Q55, Q56, Q57, Q58, Q59, Q60, Q61, Q62, Q63, Q64, Q65, Q66, Q67, Q68, Q69, Q70, Q71, Q72, Q73, Q99, Q100, Q101, Q102, Q103, Q74, Q75, Q77, Q78, Q79, Q80, Q81, Q82, Q83, Q84, clr, List.length_nil, List.length_cons, List.getElem?_cons_zero, List.getElem?_cons_succ, Nat.reduceAdd, Nat.zero_add, Nat.add_zero, Nat.reduceLeDiff, Nat.reduceSub, ↓reduceIte, List.drop_succ_cons, List.drop_zero, List.take_succ_cons, List.take_zero, Bool.false_eq_true, List.nil_append, List.cons_append, Bool.not_true, Bool.not_false, cond_true, cond_false, bne, Q85, Q86, Q87, Q88, Q89, Q90, Q91, Q92, Q93, Q94, Q95, Q96, Q97, Q98, Q110, Q111, Q116, Q117, Q118, Q119, Q120, Q121, Q122, Q123, Option.map_some, Option.map_none, Q34]
  | false =>
    have q1a : (c == 39) = false := by simp only [Bool.or_eq_false_iff] at q1; exact q1.1
    have q1b : (c == 92) = false := by simp only [Bool.or_eq_false_iff] at q1; exact q1.2
    cases q5 : (c == 10) with
    | true =>
      have z := k2 q1 q5
      refine ⟨.v (.bool true), .v (.bool false), .v (.bool true), .junk, .junk, ?_⟩
      simp only [V74, code19, c100_7, c100_8, c100_9, c100_11, c100_18, hlt, hw, q2, q3, q1a, q1b, q5, z, Q0, Q1, Q2, Q3, Q4, Q5, Q6, Q7, Q8, Q9, Q10, Q11, Q12, Q13, Q14, Q15, Q16, Q17, Q18, Q19, Q20, Q21, Q22, Q23, Q24, Q25, Q26, Q27, Q28, Q29, Q30, Q31, Q32, Q33, Q35, Q36, Q37, Q38, Q39, Q40, Q41, Q42, Q43, Q44, Q45, Q46, Q47, Q48, Q49, Q50, Q51, Q52, Q53, Q54, Q55, Q56, Q57, Q58, Q59, Q60, Q61, Q62, Q63, Q64, Q65, Q66, Q67, Q68, Q69, Q70, Q71, Q72, Q73, Q99, Q100, Q101, Q102, Q103, Q74, Q75, Q77, Q78, Q79, Q80, Q81, Q82, Q83, Q84, clr, List.length_nil, List.length_cons, List.getElem?_cons_zero, List.getElem?_cons_succ, Nat.reduceAdd, Nat.zero_add, Nat.add_zero, Nat.reduceLeDiff, Nat.reduceSub, ↓reduceIte, List.drop_succ_cons, List.drop_zero, List.take_succ_cons, List.take_zero, Bool.false_eq_true, List.nil_append, List.cons_append, Bool.not_true, Bool.not_false, cond_true, cond_false, bne, Q85, Q86, Q87, Q88, Q89, Q90, Q91, Q92, Q93, Q94, Q95, Q96, Q97, Q98, Q110, Q111, Q116, Q117, Q118, Q119, Q120, Q121, Q122, Q123, Option.map_some, Option.map_none, Q34]
    | false =>
      cases q6 : (c == 9) with
      | true =>
        have z := k3 q1 q5 q6
        refine ⟨.v (.bool true), .v (.bool false), .v (.bool false), .v (.bool true), .junk, ?_⟩
        simp only [V74, code19, c100_7, c100_8, c100_9, c100_11, c100_13, c100_18, hlt, hw, q2, q3, q1a, q1b, q5, q6, z, Q0, Q1, Q2, Q3, Q4, Q5, Q6, Q7, Q8, Q9, Q10, Q11, Q12, Q13, Q14, Q15, Q16, Q17, Q18, Q19, Q20, Q21, Q22, Q23, Q24, Q25, Q26, Q27, Q28, Q29, Q30, Q31, Q32, Q33, Q35, Q36, Q37, Q38, Q39, Q40, Q41, Q42, Q43, Q44, Q45, Q46, Q47, Q48, Q49, Q50, Q51, Q52, Q53, Q54, Q55, Q56, Q57, Q58, Q59, Q60, Q61, Q62, Q63, Q64, Q65, Q66, Q67, Q68, Q69, Q70, Q71, Q72, Q73, Q99, Q100, Q101, Q102, Q103, Q74, Q75, Q77, Q78, Q79, Q80, Q81, Q82, Q83, Q84, clr, List.length_nil, List.length_cons, List.getElem?_cons_zero, List.getElem?_cons_succ, Nat.reduceAdd, Nat.zero_add, Nat.add_zero, Nat.reduceLeDiff, Nat.reduceSub, ↓reduceIte, List.drop_succ_cons, List.drop_zero, List.take_succ_cons, List.take_zero, Bool.false_eq_true, List.nil_append, List.cons_append, Bool.not_true, Bool.not_false, cond_true, cond_false, bne, Q85, Q86, Q87, Q88, Q89, Q90, Q91, Q92, Q93, Q94, Q95, Q96, Q97, Q98, Q110, Q111, Q116, Q117, Q118, Q119, Q120, Q121, Q122, Q123, Option.map_some, Option.map_none, Q34]
      | false =>
        cases q7 : decide (c < 32) with
        | true =>
          have z := k4 q1 q5 q6 q7
          refine ⟨.v (.bool true), .v (.bool false), .v (.bool false), .v (.bool false), .v (.bool true), ?_⟩
          simp only [V74, code19, c100_7, c100_8, c100_9, c100_11, c100_13, c100_15, c100_18, hlt, hw, q2, q3, q1a, q1b, q5, q6, q7, z, Q0, Q1, Q2, Q3, Q4, Q5, Q6, Q7, Q8, Q9, Q10, Q11, Q12, Q13, Q14, Q15, Q16, Q17, Q18, Q19, Q20, Q21, Q22, Q23, Q24, Q25, Q26, Q27, Q28, Q29, Q30, Q31, Q32, Q33, Q35, Q36, Q37, Q38, Q39, Q40, Q41, Q42, Q43, Q44, Q45, Q46, Q47, Q48, Q49, Q50, Q51, Q52, Q53, Q54, Q55, Q56, Q57, Q58, Q59, Q60, Q61, Q62, Q63, Q64, Q65, Q66, Q67, Q68, Q69, Q70, Q71, Q72, Q73, Q99, Q100, Q101, Q102, Q103, Q74, Q75, Q77, Q78, Q79, Q80, Q81, Q82, Q83, Q84, clr, List.length_nil, List.length_cons, List.getElem?_cons_zero, List.getElem?_cons_succ, Nat.reduceAdd, Nat.zero_add, Nat.add_zero, Nat.reduceLeDiff, Nat.reduceSub, ↓reduceIte, List.drop_succ_cons, List.drop_zero, List.take_succ_cons, List.take_zero, Bool.false_eq_true, List.nil_append, List.cons_append, Bool.not_true, Bool.not_false, cond_true, cond_false, bne, Q85, Q86, Q87, Q88, Q89, Q90, Q91, Q92, Q93, Q94, Q95, Q96, Q97, Q98, Q110, Q111, Q116, Q117, Q118, Q119, Q120, Q121, Q122, Q123, Option.map_some, Option.map_none, Q34]
        | false =>
          have z := k5 q1 q5 q6 q7
          refine ⟨.v (.bool true), .v (.bool false), .v (.bool false), .v (.bool false), .v (.bool false), ?_⟩
          simp only [V74, code19, c100_7, c100_8, c100_9, c100_11, c100_13, c100_15, c100_18, hlt, hw, q2, q3, q1a, q1b, q5, q6, q7, z, Q0, Q1, Q2, Q3, Q4, Q5, Q6, Q7, Q8, Q9, Q10, Q11, Q12, Q13, Q14, Q15, Q16, Q17, Q18, Q19, Q20, Q21, Q22, Q23, Q24, Q25, Q26, Q27, Q28, Q29, Q30, Q31, Q32, Q33, Q35, Q36, Q37, Q38, Q39, Q40, Q41, Q42, Q43, Q44, Q45, Q46, Q47, Q48, Q49, Q50, Q51, Q52, Q53, Q54, Q55, Q56, Q57, Q58, Q59, Q60, Q61, Q62, Q63, Q64, Q65, Q66, Q67, Q68, Q69, Q70, Q71, Q72, Q73, Q99, Q100, Q101, Q102, Q103, Q74, Q75, Q77, Q78, Q79, Q80, Q81, Q82, Q83, Q84, clr, List.length_nil, List.length_cons, List.getElem?_cons_zero, List.getElem?_cons_succ, Nat.reduceAdd, Nat.zero_add, Nat.add_zero, Nat.reduceLeDiff, Nat.reduceSub, ↓reduceIte, List.drop_succ_cons, List.drop_zero, List.take_succ_cons, List.take_zero, Bool.false_eq_true, List.nil_append, List.cons_append, Bool.not_true, Bool.not_false, cond_true, cond_false, bne, Q85, Q86, Q87, Q88, Q89, Q90, Q91, Q92, Q93, Q94, Q95, Q96, Q97, Q98, Q110, Q111, Q116, Q117, Q118, Q119, Q120, Q121, Q122, Q123, Option.map_some, Option.map_none, Q34]
theorem exit74 {call : CallF} {r : AV} {P : ByteArray} {n K : Nat} {h : List AO} {X10 X12 X14 X16 X17 : CC} : exec call K (code19 X10 X12 X14 X16 X17) (V74 P r n n .junk) h = some (.exit 0, V74 P r n n (.v (.bool false)), h) := by
  have hlt := lt_f (n := n)
  simp only [V74, code19, c100_7, hlt, Q0, Q1, Q2, Q3, Q4, Q5, Q6, Q7, Q8, Q9, Q10, Q11, Q12, Q13, Q14, Q15, Q16, Q17, Q18, Q19, Q20, Q21, Q22, Q23, Q24, Q25, Q26, Q27, Q28, Q29, Q30, Q31, Q32, Q33, Q35, Q36, Q37, Q38, Q39, Q40, Q41, Q42, Q43, Q44, Q45, Q46, Q47, Q48, Q49, Q50, Q51, Q52, Q53, Q54, Q55, Q56, Q57, Q58, Q59, Q60, Q61, Q62, Q63, Q64, Q65, Q66, Q67, Q68, Q69, Q70, Q71, Q72, Q73, Q99, Q100, Q101, Q102, Q103, Q74, Q75, Q77, Q78, Q79, Q80, Q81, Q82, Q83, Q84, clr, List.length_nil, List.length_cons, List.getElem?_cons_zero, List.getElem?_cons_succ, Nat.reduceAdd, Nat.zero_add, Nat.add_zero, Nat.reduceLeDiff, Nat.reduceSub, ↓reduceIte, List.drop_succ_cons, List.drop_zero, List.take_succ_cons, List.take_zero, Bool.false_eq_true, List.nil_append, List.cons_append, Bool.not_true, Bool.not_false, cond_true, cond_false, bne, Q85, Q86, Q87, Q88, Q89, Q90, Q91, Q92, Q93, Q94, Q95, Q96, Q97, Q98, Q110, Q111, Q116, Q117, Q118, Q119, Q120, Q121, Q122, Q123, Option.map_some, Option.map_none, Q34]
theorem addS {x y z : List UInt8} (hl : x.length + y.length ≤ 1000000000) (e : x ++ y = z) : Q78 .add (.v (.string ⟨x.toArray⟩)) (.v (.string ⟨y.toArray⟩)) = some (.v (.string ⟨z.toArray⟩)) := by
  rw [← e]; exact add_str hl
theorem rwrite_loop {r : AV} {L : List Nat} (hr : Sl 1 r (L.map rv)) (hm : L.length ≤ 300) (v : List AV) (o : List UInt8) (ho : o.length ≤ 100) (hv : clr K74 v = V74 ⟨o.toArray⟩ r L.length 0 .junk) (K : Nat) (hK : L.length < K) (h : List AO) :
    loopN (exec (callW F) K c100_19) K74 K v h = some (.exit 0, V74 ⟨(o ++ L.flatMap escL).toArray⟩ r L.length L.length (.v (.bool false)), h) := by
  obtain ⟨e, v', h', g1, g2, g3⟩ := loop_rule0 (call := callW F) (K := K) (b := c100_19) (keep := K74)
    (fun i v h' => ∃ p : List UInt8, v = V74 ⟨p.toArray⟩ r L.length i .junk ∧ h' = h ∧ p.length ≤ 100 + 5 * i ∧ p ++ (L.drop i).flatMap escL = o ++ L.flatMap escL)
    (fun e v h' => e = .exit 0 ∧ h' = h ∧ v = V74 ⟨(o ++ L.flatMap escL).toArray⟩ r L.length L.length (.v (.bool false)))
    L.length (m := K) (v := v) (h := h) hK ⟨o, hv, rfl, by omega, rfl⟩ (by
      rintro i v h' hi ⟨p, rfl, rfl, hpl, hR⟩
      by_cases hil : i < L.length
      · have hlt := lt_t hil
        have he : (L.map rv)[i]? = some (rv L[i]) := by simp [hil]
        have hd : L.drop i = L[i] :: L.drop (i + 1) := List.drop_eq_getElem_cons hil
        have hw := wrap_succ hil (small_max (by omega : L.length ≤ 100000))
        rw [hd, List.flatMap_cons] at hR
        clear hd
        generalize L[i] = d at he hR
        have hel := escL_len d
        have hnl := encL_len d
        have hxl := hexL_len d
        have hE : escL d = escH ((d : Int) == 39 || (d : Int) == 92) ((d : Int) == 10) ((d : Int) == 9) (decide ((d : Int) < 32)) (encL d) (hexL d) := by unfold escL; exact Eq.refl _
        have hrs : rsV h' (.v (.int .i32 (d : Int))) = some (.v (.string ⟨(encL d).toArray⟩), h') := rsV_nat
        have hx : decide ((d : Int) < 32) = true → callW F 122 [.v (.int .i32 (d : Int))] [] = some (.v (.string ⟨(hexL d).toArray⟩), []) := fun q => rhex_ok (by simp at q; omega)
        have q2 := fun h : List AO => hr.ia he h
        simp only [rv, AV.cells] at q2
        generalize escL d = Z at hE hel hR
        generalize encL d = E at hE hnl hrs
        generalize hexL d = H at hE hxl hx
        generalize (d : Int) = c at hE hrs hx q2
        have w1 := addS (x := [92]) (y := E) (z := [92] ++ E) (by simp only [List.length_cons, List.length_nil, List.length_append]; omega) rfl
        have w2 := addS (x := p) (y := [92] ++ E) (z := p ++ ([92] ++ E)) (by simp only [List.length_cons, List.length_nil, List.length_append]; omega) rfl
        have w3 := addS (x := p) (y := [92, 110]) (z := p ++ [92, 110]) (by simp only [List.length_cons, List.length_nil, List.length_append]; omega) rfl
        have w4 := addS (x := p) (y := [92, 116]) (z := p ++ [92, 116]) (by simp only [List.length_cons, List.length_nil, List.length_append]; omega) rfl
        have w5 := addS (x := [92, 120]) (y := H) (z := [92, 120] ++ H) (by simp only [List.length_cons, List.length_nil, List.length_append]; omega) rfl
        have w6 := addS (x := [92, 120] ++ H) (y := [92]) (z := ([92, 120] ++ H) ++ [92]) (by simp only [List.length_cons, List.length_nil, List.length_append]; omega) rfl
        have w7 := addS (x := p) (y := ([92, 120] ++ H) ++ [92]) (z := p ++ (([92, 120] ++ H) ++ [92])) (by simp only [List.length_cons, List.length_nil, List.length_append]; omega) rfl
        have w8 := addS (x := p) (y := E) (z := p ++ E) (by omega) rfl
        have z1 : (c == 39 || c == 92) = true → Z = [92] ++ E := fun a => by rw [hE, a]; rfl
        have z2 : (c == 39 || c == 92) = false → (c == 10) = true → Z = [92, 110] := fun a b => by rw [hE, a, b]; rfl
        have z3 : (c == 39 || c == 92) = false → (c == 10) = false → (c == 9) = true → Z = [92, 116] := fun a b d => by rw [hE, a, b, d]; rfl
        have z4 : (c == 39 || c == 92) = false → (c == 10) = false → (c == 9) = false → decide (c < 32) = true → Z = ([92, 120] ++ H) ++ [92] := fun a b d f => by rw [hE, a, b, d, f]; rfl
        have z5 : (c == 39 || c == 92) = false → (c == 10) = false → (c == 9) = false → decide (c < 32) = false → Z = E := fun a b d f => by rw [hE, a, b, d, f]; rfl
        obtain ⟨x9, x10, x11, x12, x13, hs⟩ := step74 (call := callW F) (r := r) (P := ⟨p.toArray⟩) (R := ⟨(p ++ Z).toArray⟩) (n := L.length) (K := K) (h := h') (X10 := .region [] [] c100_10) (X12 := .region [] [] c100_12) (X14 := .region [] [] c100_14) (X16 := .region [] [] c100_16) (X17 := .region [] [] c100_17) hlt hw q2
          (fun a _ _ _ _ _ _ _ _ _ _ _ _ => by rw [z1 a]; exact r10 hrs w1 w2)
          (fun a b _ _ _ _ _ _ _ _ _ _ _ _ => by rw [z2 a b]; exact r12 w3)
          (fun a b d _ _ _ _ _ _ _ _ _ _ _ _ => by rw [z3 a b d]; exact r14 w4)
          (fun a b d f _ _ _ _ _ _ _ _ _ _ _ _ => by rw [z4 a b d f]; exact r16 (hx f) w5 w6 w7)
          (fun a b d f _ _ _ _ _ _ _ _ _ _ _ _ => by rw [z5 a b d f]; exact r17 hrs w8)
        rw [← code_eq] at hs
        exact ⟨_, _, _, hs, hil, p ++ Z, rfl, rfl, by rw [List.length_append]; omega, by rw [List.append_assoc]; exact hR⟩
      · have hie : i = L.length := by omega
        subst hie
        have hlt := lt_f (n := L.length)
        rw [List.drop_of_length_le (Nat.le_refl _), List.flatMap_nil, List.append_nil] at hR
        subst hR
        refine ⟨.exit 0, V74 ⟨(o ++ L.flatMap escL).toArray⟩ r L.length L.length (.v (.bool false)), h', ?_, rfl, rfl, rfl⟩
        rw [code_eq]; exact exit74)
  obtain ⟨rfl, rfl, rfl⟩ := g3
  exact g1
theorem g20 {call : CallF} {K : Nat} {h : List AO} {P R Y : ByteArray} {v0 v1 v3 v4 v5 v6 v7 v8 v9 v10 v11 v12 v13 : AV} (a2 : Q78 .add (.v (.string P)) (.v (.string Y)) = some (.v (.string R))) : exec call K (.region [] [] [⟨(.mov (.var 2)), none, none⟩, ⟨(.bin .add (.loc 0) (.k (.string Y))), none, none⟩, ⟨(.mov (.loc 0)), (some 1), none⟩]) [v0, v1, .v (.string P), v3, v4, v5, v6, v7, v8, v9, v10, v11, v12, v13] h = some (.normal, [v0, .v (.string R), .v (.string P), v3, v4, v5, v6, v7, v8, v9, v10, v11, v12, v13], h) := by
  simp only [a2, Q0, Q1, Q2, Q3, Q4, Q5, Q6, Q7, Q8, Q9, Q10, Q11, Q12, Q13, Q14, Q15, Q16, Q17, Q18, Q19, Q20, Q21, Q22, Q23, Q24, Q25, Q26, Q27, Q28, Q29, Q30, Q31, Q32, Q33, Q35, Q36, Q37, Q38, Q39, Q40, Q41, Q42, Q43, Q44, Q45, Q46, Q47, Q48, Q49, Q50, Q51, Q52, Q53, Q54, Q55, Q56, Q57, Q58, Q59, Q60, Q61, Q62, Q63, Q64, Q65, Q66, Q67, Q68, Q69, Q70, Q71, Q72, Q73, Q99, Q100, Q101, Q102, Q103, Q74, Q75, Q77, Q78, Q79, Q80, Q81, Q82, Q83, Q84, clr, List.length_nil, List.length_cons, List.getElem?_cons_zero, List.getElem?_cons_succ, Nat.reduceAdd, Nat.zero_add, Nat.add_zero, Nat.reduceLeDiff, Nat.reduceSub, ↓reduceIte, List.drop_succ_cons, List.drop_zero, List.take_succ_cons, List.take_zero, Bool.false_eq_true, List.nil_append, List.cons_append, Bool.not_true, Bool.not_false, cond_true, cond_false, bne, Q85, Q86, Q87, Q88, Q89, Q90, Q91, Q92, Q93, Q94, Q95, Q96, Q97, Q98, Q110, Q111, Q116, Q117, Q118, Q119, Q120, Q121, Q122, Q123, Option.map_some, Option.map_none, Q34, -Q78]
theorem rw_false {call : CallF} {K n : Nat} {s S T W : ByteArray} {r : AV} {X5 X20 bb : CC} (hk : call 70 [.v (.string s)] [] = some (.v (.bool true), [])) (hb : call 120 [.v (.string s)] [] = some (.v (.bool false), [])) (cr : call 121 [.v (.string s)] [] = some (r, [])) (l0 : ∀ h : List AO, evLen h .slice r = some n)
    (hX5 : ∀ v0 v1 v2 v3 v4 v5 v6 v7 v8 v9 v10 v11 v12 v13 : AV, exec call K X5 [v0, v1, v2, v3, v4, v5, v6, v7, v8, v9, v10, v11, v12, v13] [] = some (.normal, [v0, v1, .v (.string T), v3, v4, v5, v6, v7, v8, v9, v10, v11, v12, v13], []))
    (lp : loopN (exec call K bb) K74 K [.v (.string s), .v (.string ⟨#[]⟩), .v (.string T), .v undef, .v (.bool false), .v (.bool false), r, .v (.int .i64 n), .v (.int .i64 0), .v undef, .v undef, .v undef, .v undef, .v undef] [] = some (.exit 0, V74 S r n n (.v (.bool false)), []))
    (hX0 : ∀ v0 v1 v3 v4 v5 v6 v7 v8 v9 v10 v11 v12 v13 : AV, exec call K X20 [v0, v1, .v (.string S), v3, v4, v5, v6, v7, v8, v9, v10, v11, v12, v13] [] = some (.normal, [v0, .v (.string W), .v (.string S), v3, v4, v5, v6, v7, v8, v9, v10, v11, v12, v13], [])) :
    lv [.var 1] (exec call K (.seq (.region [] [] c100_0) (.seq (.seq (.region [] [] c100_1) (.cond (.var 4) (.seq (.region [] [] c100_2) .ret) .skip)) (.seq (.seq (.region [] [] c100_3) (.cond (.var 5) (.seq (.region [] [] c100_4) .ret) .skip)) (.seq X5 (.seq (.seq (.region [] [] c100_6) (.block 0 (.loop K74 [] bb))) (.seq X20 .ret)))))) [.v (.string s), .v undef, .v undef, .v undef, .v undef, .v undef, .v undef, .v undef, .v undef, .v undef, .v undef, .v undef, .v undef, .v undef] []) = some (.v (.string W), []) := by
  simp only [V74, c100_0, c100_1, c100_3, c100_6, hk, hb, cr, l0, hX5, lp, hX0, snap_str, Bool.not_true, Q0, Q1, Q2, Q3, Q4, Q5, Q6, Q7, Q8, Q9, Q10, Q11, Q12, Q13, Q14, Q15, Q16, Q17, Q18, Q19, Q20, Q21, Q22, Q23, Q24, Q25, Q26, Q27, Q28, Q29, Q30, Q31, Q32, Q33, Q35, Q36, Q37, Q38, Q39, Q40, Q41, Q42, Q43, Q44, Q45, Q46, Q47, Q48, Q49, Q50, Q51, Q52, Q53, Q54, Q55, Q56, Q57, Q58, Q59, Q60, Q61, Q62, Q63, Q64, Q65, Q66, Q67, Q68, Q69, Q70, Q71, Q72, Q73, Q99, Q100, Q101, Q102, Q103, Q74, Q75, Q77, Q78, Q79, Q80, Q81, Q82, Q83, Q84, clr, List.length_nil, List.length_cons, List.getElem?_cons_zero, List.getElem?_cons_succ, Nat.reduceAdd, Nat.zero_add, Nat.add_zero, Nat.reduceLeDiff, Nat.reduceSub, ↓reduceIte, List.drop_succ_cons, List.drop_zero, List.take_succ_cons, List.take_zero, Bool.false_eq_true, List.nil_append, List.cons_append, Bool.not_true, Bool.not_false, cond_true, cond_false, bne, Q85, Q86, Q87, Q88, Q89, Q90, Q91, Q92, Q93, Q94, Q95, Q96, Q97, Q98, Q110, Q111, Q116, Q117, Q118, Q119, Q120, Q121, Q122, Q123, Option.map_some, Option.map_none]
theorem rwrite_ok {s : ByteArray} (hchk : chkS s = true) : callW F 100 [.v (.string s)] [] = some (.v (.string ⟨(writeL s).toArray⟩), []) := by
  have hk := rchk_ok s
  rw [hchk] at hk
  have hb := rbareS_ok hchk
  have h255 : s.size ≤ 255 := by
    simp only [chkS, Bool.and_eq_true, decide_eq_true_eq] at hchk
    omega
  obtain ⟨r, hr, cr⟩ := runes_ok (s := s) (by omega)
  have hlen := rns_len s s.size 0
  rw [show rns s s.size 0 = runesOf s from rfl] at hlen
  have hfl : ∀ L : List Nat, (L.flatMap escL).length ≤ 5 * L.length := by
    intro L
    induction L with
    | nil => simp
    | cons c L ih =>
      have := escL_len c
      rw [List.flatMap_cons, List.length_append, List.length_cons]; omega
  have hfl := hfl (runesOf s)
  have lp := rwrite_loop hr (by omega) [.v (.string s), .v (.string ⟨#[]⟩), .v (.string ⟨[39].toArray⟩), .v undef, .v (.bool false), .v (.bool false), r, .v (.int .i64 (runesOf s).length), .v (.int .i64 0), .v undef, .v undef, .v undef, .v undef, .v undef] [39] (by decide) rfl ((runesOf s).length + 1) (by omega) []
  have l0 := fun h : List AO => hr.len h
  rw [List.length_map] at l0
  have w := addS (x := [39] ++ (runesOf s).flatMap escL) (y := [39]) (z := 39 :: ((runesOf s).flatMap escL ++ [39])) (by simp only [List.length_cons, List.length_nil, List.length_append]; omega) rfl
  have hX0 : ∀ v0 v1 v3 v4 v5 v6 v7 v8 v9 v10 v11 v12 v13 : AV, exec (callW F) ((runesOf s).length + 1) (.region [] [] c100_20) [v0, v1, .v (.string ⟨([39] ++ (runesOf s).flatMap escL).toArray⟩), v3, v4, v5, v6, v7, v8, v9, v10, v11, v12, v13] [] = some (.normal, [v0, .v (.string ⟨(39 :: ((runesOf s).flatMap escL ++ [39])).toArray⟩), .v (.string ⟨([39] ++ (runesOf s).flatMap escL).toArray⟩), v3, v4, v5, v6, v7, v8, v9, v10, v11, v12, v13], []) := fun _ _ _ _ _ _ _ _ _ _ _ _ _ => g20 w
  refine callW_pure (c := c100) rfl rfl ((runesOf s).length + 1) ?_
  rw [show c100.body = (.seq (.region [] [] c100_0) (.seq (.seq (.region [] [] c100_1) (.cond (.var 4) (.seq (.region [] [] c100_2) .ret) .skip)) (.seq (.seq (.region [] [] c100_3) (.cond (.var 5) (.seq (.region [] [] c100_4) .ret) .skip)) (.seq (.region [] [] c100_5) (.seq (.seq (.region [] [] c100_6) (.block 0 (.loop K74 [] c100_19))) (.seq (.region [] [] c100_20) .ret)))))) from rfl, show c100.res = [.var 1] from rfl]
  rw [show start c100 [.v (.string s)] = [.v (.string s), .v undef, .v undef, .v undef, .v undef, .v undef, .v undef, .v undef, .v undef, .v undef, .v undef, .v undef, .v undef, .v undef] from rfl]
  have hs : ⟨(bl s).toArray⟩ = s := (bl_eta s).symm
  unfold writeL
  clear w hfl hlen
  have hX5 : ∀ v0 v1 v2 v3 v4 v5 v6 v7 v8 v9 v10 v11 v12 v13 : AV, exec (callW F) ((runesOf s).length + 1) (.region [] [] c100_5) [v0, v1, v2, v3, v4, v5, v6, v7, v8, v9, v10, v11, v12, v13] [] = some (.normal, [v0, v1, .v (.string ⟨[39].toArray⟩), v3, v4, v5, v6, v7, v8, v9, v10, v11, v12, v13], []) := by
    intro v0 v1 v2 v3 v4 v5 v6 v7 v8 v9 v10 v11 v12 v13
    simp only [c100_5, Q0, Q1, Q2, Q3, Q4, Q5, Q6, Q7, Q8, Q9, Q10, Q11, Q12, Q13, Q14, Q15, Q16, Q17, Q18, Q19, Q20, Q21, Q22, Q23, Q24, Q25, Q26, Q27, Q28, Q29, Q30, Q31, Q32, Q33, Q35, Q36, Q37, Q38, Q39, Q40, Q41, Q42, Q43, Q44, Q45, Q46, Q47, Q48, Q49, Q50, Q51, Q52, Q53, Q54, Q55, Q56, Q57, Q58, Q59, Q60, Q61, Q62, Q63, Q64, Q65, Q66, Q67, Q68, Q69, Q70, Q71, Q72, Q73, Q99, Q100, Q101, Q102, Q103, Q74, Q75, Q77, Q78, Q79, Q80, Q81, Q82, Q83, Q84, clr, List.length_nil, List.length_cons, List.getElem?_cons_zero, List.getElem?_cons_succ, Nat.reduceAdd, Nat.zero_add, Nat.add_zero, Nat.reduceLeDiff, Nat.reduceSub, ↓reduceIte, List.drop_succ_cons, List.drop_zero, List.take_succ_cons, List.take_zero, Bool.false_eq_true, List.nil_append, List.cons_append, Bool.not_true, Bool.not_false, cond_true, cond_false, bne, Q85, Q86, Q87, Q88, Q89, Q90, Q91, Q92, Q93, Q94, Q95, Q96, Q97, Q98, Q110, Q111, Q116, Q117, Q118, Q119, Q120, Q121, Q122, Q123, Option.map_some, Option.map_none]
  generalize (CC.region [] [] c100_20) = X20 at hX0 ⊢
  generalize (CC.region [] [] c100_5) = X5 at hX5 ⊢
  generalize c100_19 = bb at lp ⊢
  generalize (⟨([39] ++ (runesOf s).flatMap escL).toArray⟩ : ByteArray) = S at hX0 lp
  generalize (⟨[39].toArray⟩ : ByteArray) = T at hX5 lp
  cases q : bareS s with
  | true =>
    rw [q] at hb
    rw [if_pos rfl, hs]
    simp only [c100_0, c100_1, c100_3, c100_4, hk, hb, snap_str, Bool.not_true, Q0, Q1, Q2, Q3, Q4, Q5, Q6, Q7, Q8, Q9, Q10, Q11, Q12, Q13, Q14, Q15, Q16, Q17, Q18, Q19, Q20, Q21, Q22, Q23, Q24, Q25, Q26, Q27, Q28, Q29, Q30, Q31, Q32, Q33, Q35, Q36, Q37, Q38, Q39, Q40, Q41, Q42, Q43, Q44, Q45, Q46, Q47, Q48, Q49, Q50, Q51, Q52, Q53, Q54, Q55, Q56, Q57, Q58, Q59, Q60, Q61, Q62, Q63, Q64, Q65, Q66, Q67, Q68, Q69, Q70, Q71, Q72, Q73, Q99, Q100, Q101, Q102, Q103, Q74, Q75, Q77, Q78, Q79, Q80, Q81, Q82, Q83, Q84, clr, List.length_nil, List.length_cons, List.getElem?_cons_zero, List.getElem?_cons_succ, Nat.reduceAdd, Nat.zero_add, Nat.add_zero, Nat.reduceLeDiff, Nat.reduceSub, ↓reduceIte, List.drop_succ_cons, List.drop_zero, List.take_succ_cons, List.take_zero, Bool.false_eq_true, List.nil_append, List.cons_append, Bool.not_true, Bool.not_false, cond_true, cond_false, bne, Q85, Q86, Q87, Q88, Q89, Q90, Q91, Q92, Q93, Q94, Q95, Q96, Q97, Q98, Q110, Q111, Q116, Q117, Q118, Q119, Q120, Q121, Q122, Q123, Option.map_some, Option.map_none]
  | false =>
    rw [q] at hb
    rw [if_neg (by simp)]
    generalize (⟨(39 :: ((runesOf s).flatMap escL ++ [39])).toArray⟩ : ByteArray) = W at hX0 ⊢
    exact rw_false hk hb cr l0 hX5 lp hX0
end Go.AE.YtinhjhkmpknbbaaDoor
end

/-! A builder that lies in a caller's memory: a byte, a text laid behind. -/
section
set_option linter.unusedVariables false
set_option linter.unusedSimpArgs false
namespace Go.AE.YtinhjhkmpknbbaaDoor
open Go Go.AE Go.Proofs.YtinhjhkmpknbbaaDoor

structure BdP (p : AV) (H : List AO) (b rid ver : Nat) (l : List UInt8) : Prop where
  box : H[b]? = some (.box 103 [p, .own 1 rid ver 0 l.length])
  row : H[rid]? = some (.row 5 1 ver (l.map u8v) 0)
def Bd (H : List AO) (b rid : Nat) (l : List UInt8) : Prop := ∃ p ver, (p = .v (.pointer none) ∨ p = .ptr b 0) ∧ BdP p H b rid ver l
def Rst (b rid : Nat) (H H' : List AO) : Prop := H'.length = H.length ∧ ∀ j, j ≠ b → j ≠ rid → H'[j]? = H[j]?
theorem Rst.refl {b rid : Nat} (H : List AO) : Rst b rid H H := ⟨rfl, fun _ _ _ => rfl⟩
theorem Rst.trans {b rid : Nat} {H H' H'' : List AO} (a : Rst b rid H H') (c : Rst b rid H' H'') : Rst b rid H H'' := ⟨c.1.trans a.1, fun j h1 h2 => (c.2 j h1 h2).trans (a.2 j h1 h2)⟩
theorem BdP.ne {p : AV} {H : List AO} {b rid ver : Nat} {l : List UInt8} (h : BdP p H b rid ver l) : b ≠ rid := by
  rintro rfl
  have h1 := h.box
  rw [h.row] at h1; cases h1
theorem set_rst {b rid : Nat} {H : List AO} {x : AO} {j : Nat} (h : j = b ∨ j = rid) : Rst b rid H (H.set j x) := by
  refine ⟨by simp, fun k h1 h2 => ?_⟩
  rw [List.getElem?_set_ne]
  rcases h with rfl | rfl
  · exact fun e => h1 e.symm
  · exact fun e => h2 e.symm
theorem Bd.copy {H : List AO} {b rid : Nat} {l : List UInt8} (h : Bd H b rid l) : ∃ H1 ver, callW F 97 [.ptr b 0] H = some (.tup [], H1) ∧ BdP (.ptr b 0) H1 b rid ver l ∧ Rst b rid H H1 := by
  obtain ⟨p, ver, hp, hB⟩ := h
  have hne := hB.ne
  have hlt : b < H.length := (List.getElem?_eq_some_iff.1 hB.box).1
  rcases hp with rfl | rfl
  · refine ⟨H.set b (.box 103 [.ptr b 0, .own 1 rid ver 0 l.length]), ver, callW_oracle (g := copyG 103) rfl ?_, ⟨by simp [hlt], by rw [List.getElem?_set_ne hne]; exact hB.row⟩, set_rst (.inl rfl)⟩
    simp only [copyG, hB.box, if_true]
  · refine ⟨H, ver, callW_oracle (g := copyG 103) rfl ?_, hB, .refl H⟩
    simp only [copyG, hB.box, if_true]
theorem BdP.add {H : List AO} {b rid ver : Nat} {l : List UInt8} (h : BdP (.ptr b 0) H b rid ver l) {ys : List UInt8} (hy : ys ≠ []) (hl : l.length + ys.length ≤ 100000000) : ∃ H2 H3, evAppendL H 5 1 1 (.own 1 rid ver 0 l.length) (ys.map u8v) = some (.own 1 rid (ver + 1) 0 (l.length + ys.length), H2) ∧
    Q113 H2 1 (.ptr b 1) (.own 1 rid (ver + 1) 0 (l.length + ys.length)) = some H3 ∧ BdP (.ptr b 0) H3 b rid (ver + 1) (l ++ ys) ∧ Rst b rid H H3 := by
  have hne := h.ne
  have hlt : b < H.length := (List.getElem?_eq_some_iff.1 h.box).1
  have hlr : rid < H.length := (List.getElem?_eq_some_iff.1 h.row).1
  have hf : fits (l.length + ys.length) 1 = true := by
    unfold fits room
    rw [decide_eq_true_eq]
    constructor <;> omega
  have e1 : evAppendL H 5 1 1 (.own 1 rid ver 0 l.length) (ys.map u8v) = some (.own 1 rid (ver + 1) 0 (l.length + ys.length), H.set rid (.row 5 1 (ver + 1) ((l ++ ys).map u8v) 0)) := by
    have hys : ¬ ys.map u8v = [] := by simpa using hy
    have htk : ((l.map u8v).drop 0).take l.length = l.map u8v := by rw [List.drop_zero, List.take_of_length_le (by simp)]
    simp only [evAppendL, if_true, Nat.zero_add, rowAt, h.row, List.length_map, Nat.le_refl, and_self, rowT, Nat.zero_le, if_neg hys, hf, htk, Nat.zero_sub, List.map_append]
  have bx1 : (H.set rid (.row 5 1 (ver + 1) ((l ++ ys).map u8v) 0))[b]? = some (.box 103 [.ptr b 0, .own 1 rid ver 0 l.length]) := by
    rw [List.getElem?_set_ne (Ne.symm hne)]; exact h.box
  refine ⟨_, _, e1, bx_st bx1 (xs := [.own 1 rid (ver + 1) 0 (l.length + ys.length)]) rfl rfl (by simp), ⟨?_, ?_⟩, (set_rst (.inr rfl)).trans (set_rst (.inl rfl))⟩
  · simp [hlt, Q112]
  · rw [List.getElem?_set_ne hne]
    simp [hlr]
theorem Rst.below {H H' : List AO} {b rid ver : Nat} {l : List UInt8} (h : H.all (AO.below H.length) = true) (r : Rst b rid H H') (hB : BdP (.ptr b 0) H' b rid ver l) : H'.all (AO.below H'.length) = true := by
  have hlb : b < H'.length := (List.getElem?_eq_some_iff.1 hB.box).1
  have hlr : rid < H'.length := (List.getElem?_eq_some_iff.1 hB.row).1
  rw [List.all_eq_true] at h ⊢
  intro o ho
  obtain ⟨j, hj⟩ := List.getElem?_of_mem ho
  by_cases e1 : j = b
  · subst e1
    rw [hB.box] at hj; cases hj
    simp [AO.below, AV.below1, AV.below0, hlb, hlr]
  · by_cases e2 : j = rid
    · subst e2
      rw [hB.row] at hj; cases hj; rfl
    · rw [r.2 j e1 e2] at hj
      rw [r.1]
      exact h o (List.mem_of_getElem? hj)
theorem leave0 {c : CFun} {vars : List AV} {H : List AO} {B : Nat} (hB : H.length = B) (hb : H.all (AO.below B) = true) {a : CRes} {x : AV} (hc : c.res = [a]) (hr : resOf vars H a = some x) (hf : x.frz2 B H = some x) : leave B c (some (.ret, vars, H)) = some (x, H) := by
  have h1 := leave_own (c := c) (vars := vars) (H := H) (l := []) hB hb
  rw [List.append_nil] at h1
  rw [h1, hc, show [a].mapM (resOf vars H) = some [x] by simp [hr]]
  exact lvo_one (by rw [List.append_nil]; exact hf)
theorem g_nilI {vars env : List AV} : getO vars env (.k .nilIface) = .v .nilIface := rfl
theorem wbyte_ok {H : List AO} {b rid : Nat} {l : List UInt8} (h : Bd H b rid l) (hb : H.all (AO.below H.length) = true) (x : UInt8) (hl : l.length ≤ 90000000) :
    ∃ H', callW F 67 [.ptr b 0, .v (.int .u8 x.toNat)] H = some (.v .nilIface, H') ∧ Bd H' b rid (l ++ [x]) ∧ Rst b rid H H' ∧ H'.all (AO.below H'.length) = true := by
  obtain ⟨H1, ver, hc, hB1, hr1⟩ := h.copy
  obtain ⟨H2, H3, ha, hs, hB3, hr3⟩ := hB1.add (ys := [x]) (by simp) (by simp; omega)
  rw [show [x].length = 1 from rfl] at hs
  have hr := hr1.trans hr3
  have hb3 := hr.below hb hB3
  refine ⟨H3, callW_code (c := c67) rfl rfl 0 ?_, ⟨_, _, .inr rfl, hB3⟩, hr, hb3⟩
  have ld : Q76 H1 false 1 (.ptr b 1) = some (.own 1 rid ver 0 l.length) := by rw [bx_ld hB1.box]; rfl
  have sn : ∀ h : List AO, (AV.v (.int .u8 x.toNat)).snap1 h = some (.v (.int .u8 x.toNat)) := fun _ => rfl
  have b1 : ∀ h : List AO, bs1 h 1 (some (.v (.int .u8 x.toNat))) = some (.slc 1 true true [u8v x], h) := fun h => bs1_some rfl rfl
  have ap : evAppend H1 5 1 1 (.own 1 rid ver 0 l.length) (.slc 1 true true [u8v x]) = some (.own 1 rid (ver + 1) 0 (l.length + 1), H2) := by
    rw [evAppend, elems_one]; exact ha
  have lvv : leave H.length c67 (some (.ret, [.ptr b 0, .v (.int .u8 x.toNat), .v .nilIface], H3)) = some (.v .nilIface, H3) := leave0 hr.1 (by rw [← hr.1]; exact hb3) (a := .var 2) rfl rfl rfl
  rw [← lvv]
  congr 1
  simp only [c67, start, List.replicate, c67_0, c67_1, c67_2, c67_3, g_nilI, hc, e_callh, List.map_cons, List.map_nil, ld, sn, b1, Q104, e_append, ap, hs, Q0, Q1, Q2, Q3, Q4, Q5, Q6, Q7, Q8, Q9, Q10, Q11, Q12, Q13, Q14, Q15, Q16, Q17, Q18, Q19, Q20, Q21, Q22, Q23, Q24, Q25, Q26, Q27, Q28, Q29, Q30, Q31, Q32, Q33, Q35, Q36, Q37, Q38, Q39, Q40, Q41, Q42, Q43, Q44, Q45, Q46, Q47, Q48, Q49, Q50, Q51, Q52, Q53, Q54, Q55, Q56, Q57, Q58, Q59, Q60, Q61, Q62, Q63, Q64, Q65, Q66, Q67, Q68, Q69, Q70, Q71, Q72, Q73, Q99, Q100, Q101, Q102, Q103, Q74, Q75, Q77, Q78, Q79, Q80, Q81, Q82, Q83, Q84, clr, List.length_nil, List.length_cons, List.getElem?_cons_zero, List.getElem?_cons_succ, Nat.reduceAdd, Nat.zero_add, Nat.add_zero, Nat.reduceLeDiff, Nat.reduceSub, ↓reduceIte, List.drop_succ_cons, List.drop_zero, List.take_succ_cons, List.take_zero, Bool.false_eq_true, List.nil_append, List.cons_append, Bool.not_true, Bool.not_false, cond_true, cond_false, bne, Q85, Q86, Q87, Q88, Q89, Q90, Q91, Q92, Q93, Q94, Q95, Q96, Q97, Q98, Q110, Q111, Q116, Q117, Q118, Q119, Q120, Q121, Q122, Q123, Option.map_some, Option.map_none]
theorem e_apps {call : CallF} {vars env : List AV} {h : List AO} {ty : TypeId} {n : Nat} {s x : Opd} : evOp call vars env h (.apps ty n s x) = evAppS h ty n (getO vars env s) (getO vars env x) := rfl
theorem bytesL_bl (s : ByteArray) : bytesL s = (bl s).map u8v := rfl
theorem leave2 {c : CFun} {vars : List AV} {H : List AO} {B : Nat} (hB : H.length = B) (hb : H.all (AO.below B) = true) {a a' : CRes} {x x' : Value} (hc : c.res = [a, a']) (hr : resOf vars H a = some (.v x)) (hr' : resOf vars H a' = some (.v x')) : leave B c (some (.ret, vars, H)) = some (.tup [.v x, .v x'], H) := by
  have h1 := leave_own (c := c) (vars := vars) (H := H) (l := []) hB hb
  rw [List.append_nil] at h1
  rw [h1, hc, show [a, a'].mapM (resOf vars H) = some [.v x, .v x'] by simp [hr, hr']]
  exact lvo_two rfl rfl
theorem wstr_ok {H : List AO} {b rid : Nat} {l : List UInt8} (h : Bd H b rid l) (hb : H.all (AO.below H.length) = true) (s : ByteArray) (hs0 : bl s ≠ []) (hl : l.length + (bl s).length ≤ 100000000) :
    ∃ H', callW F 92 [.ptr b 0, .v (.string s)] H = some (.tup [.v (.int .i64 s.size), .v .nilIface], H') ∧ Bd H' b rid (l ++ bl s) ∧ Rst b rid H H' ∧ H'.all (AO.below H'.length) = true := by
  obtain ⟨H1, ver, hc, hB1, hr1⟩ := h.copy
  obtain ⟨H2, H3, ha, hs, hB3, hr3⟩ := hB1.add (ys := bl s) hs0 hl
  have hr := hr1.trans hr3
  have hb3 := hr.below hb hB3
  refine ⟨H3, callW_code (c := c92) rfl rfl 0 ?_, ⟨_, _, .inr rfl, hB3⟩, hr, hb3⟩
  have ld : Q76 H1 false 1 (.ptr b 1) = some (.own 1 rid ver 0 l.length) := by rw [bx_ld hB1.box]; rfl
  have ap : evAppS H1 5 1 (.own 1 rid ver 0 l.length) (.v (.string s)) = some (.own 1 rid (ver + 1) 0 (l.length + (bl s).length), H2) := ha
  have lvv : leave H.length c92 (some (.ret, [.ptr b 0, .v (.string s), .v (.int .i64 s.size), .v .nilIface], H3)) = some (.tup [.v (.int .i64 s.size), .v .nilIface], H3) := leave2 hr.1 (by rw [← hr.1]; exact hb3) (a := .var 2) (a' := .var 3) rfl rfl rfl
  rw [← lvv]
  congr 1
  simp only [c92, start, List.replicate, c92_0, c92_1, c92_2, c92_3, g_nilI, hc, e_callh, List.map_cons, List.map_nil, ld, e_apps, ap, hs, Q0, Q1, Q2, Q3, Q4, Q5, Q6, Q7, Q8, Q9, Q10, Q11, Q12, Q13, Q14, Q15, Q16, Q17, Q18, Q19, Q20, Q21, Q22, Q23, Q24, Q25, Q26, Q27, Q28, Q29, Q30, Q31, Q32, Q33, Q35, Q36, Q37, Q38, Q39, Q40, Q41, Q42, Q43, Q44, Q45, Q46, Q47, Q48, Q49, Q50, Q51, Q52, Q53, Q54, Q55, Q56, Q57, Q58, Q59, Q60, Q61, Q62, Q63, Q64, Q65, Q66, Q67, Q68, Q69, Q70, Q71, Q72, Q73, Q99, Q100, Q101, Q102, Q103, Q74, Q75, Q77, Q78, Q79, Q80, Q81, Q82, Q83, Q84, clr, List.length_nil, List.length_cons, List.getElem?_cons_zero, List.getElem?_cons_succ, Nat.reduceAdd, Nat.zero_add, Nat.add_zero, Nat.reduceLeDiff, Nat.reduceSub, ↓reduceIte, List.drop_succ_cons, List.drop_zero, List.take_succ_cons, List.take_zero, Bool.false_eq_true, List.nil_append, List.cons_append, Bool.not_true, Bool.not_false, cond_true, cond_false, bne, Q85, Q86, Q87, Q88, Q89, Q90, Q91, Q92, Q93, Q94, Q95, Q96, Q97, Q98, Q110, Q111, Q116, Q117, Q118, Q119, Q120, Q121, Q122, Q123, Option.map_some, Option.map_none]
end Go.AE.YtinhjhkmpknbbaaDoor
end

/-! A rune laid behind a builder's bytes. -/
section
set_option linter.unusedVariables false
set_option linter.unusedSimpArgs false
namespace Go.AE.YtinhjhkmpknbbaaDoor
open Go Go.AE Go.Proofs.YtinhjhkmpknbbaaDoor

def orW (a b : Int) : Int := IntKind.u8.wrap ((BitVec.ofInt 8 a ||| BitVec.ofInt 8 b).toNat : Int)
def andW (a b : Int) : Int := IntKind.u8.wrap ((BitVec.ofInt 8 a &&& BitVec.ofInt 8 b).toNat : Int)
theorem or_tab : (∀ x : Fin 32, orW 192 (x.val : Int) = ((192 + x.val : Nat) : Int)) ∧ (∀ x : Fin 16, orW 224 (x.val : Int) = ((224 + x.val : Nat) : Int)) ∧ (∀ x : Fin 8, orW 240 (x.val : Int) = ((240 + x.val : Nat) : Int)) ∧ (∀ x : Fin 64, orW 128 (x.val : Int) = ((128 + x.val : Nat) : Int)) ∧ (∀ x : Fin 256, andW (x.val : Int) 63 = ((x.val % 64 : Nat) : Int)) := by
  refine ⟨?_, ?_, ?_, ?_, ?_⟩ <;> decide +kernel
theorem e_shf {call : CallF} {vars env : List AV} {h : List AO} {l : Bool} {x y : Opd} : evOp call vars env h (.shf l x y) = withH h (evShf l (getO vars env x) (getO vars env y)) := by
  simp only [evOp]; cases evShf l (getO vars env x) (getO vars env y) <;> rfl
theorem shr_nat (c n : Nat) (hn : n ≤ 32) : evShf false (.v (.int .i32 (c : Int))) (.v (.int .u64 (n : Int))) = some (.v (.int .i32 ((c / 2 ^ n : Nat) : Int))) := by
  simp only [evShf]
  rw [if_pos (by omega)]
  have h1 : min ((n : Int).toNat) IntKind.i32.bits = n := by
    have : IntKind.i32.bits = 32 := rfl
    rw [this, Int.toNat_natCast]; omega
  rw [h1]
  simp only [Bool.false_eq_true, if_false]
  rw [Int.fdiv_eq_ediv_of_nonneg _ (by exact_mod_cast Nat.zero_le _)]
  norm_cast
theorem u8_nat (c : Nat) : IntKind.u8.wrap (c : Int) = ((c % 256 : Nat) : Int) := by
  simp [IntKind.wrap, IntKind.bits, IntKind.signed]
theorem u8n {n : Nat} (h : n < 256) : AV.v (.int .u8 (n : Int)) = u8v (UInt8.ofNat n) := by
  have : (UInt8.ofNat n).toNat = n := by simp only [UInt8.toNat_ofNat']; omega
  rw [u8v, this]
theorem enc_arg {c : Nat} (hv : Utf8.valid (c : Int) = true) : (if Utf8.valid (c : Int) = true then (c : Int).toNat else Utf8.runeError) = c := by
  rw [if_pos hv, Int.toNat_natCast]
theorem enc1 {c : Nat} (hv : Utf8.valid (c : Int) = true) (h1 : c < 128) : bl (Utf8.encode (c : Int)) = [UInt8.ofNat c] := by
  have hm := enc_arg hv
  unfold Utf8.encode
  generalize (if Utf8.valid (c : Int) = true then (c : Int).toNat else Utf8.runeError) = m at hm ⊢
  subst hm
  simp only
  rw [if_pos h1]; exact Eq.refl _
theorem enc2 {c : Nat} (hv : Utf8.valid (c : Int) = true) (h1 : ¬ c < 128) (h2 : c < 2048) : bl (Utf8.encode (c : Int)) = [UInt8.ofNat (192 + c / 64), UInt8.ofNat (128 + c % 64)] := by
  have hm := enc_arg hv
  unfold Utf8.encode
  generalize (if Utf8.valid (c : Int) = true then (c : Int).toNat else Utf8.runeError) = m at hm ⊢
  subst hm
  simp only
  rw [if_neg h1, if_pos h2]; exact Eq.refl _
theorem enc3 {c : Nat} (hv : Utf8.valid (c : Int) = true) (h1 : ¬ c < 128) (h2 : ¬ c < 2048) (h3 : c < 65536) : bl (Utf8.encode (c : Int)) = [UInt8.ofNat (224 + c / 4096), UInt8.ofNat (128 + c / 64 % 64), UInt8.ofNat (128 + c % 64)] := by
  have hm := enc_arg hv
  unfold Utf8.encode
  generalize (if Utf8.valid (c : Int) = true then (c : Int).toNat else Utf8.runeError) = m at hm ⊢
  subst hm
  simp only
  rw [if_neg h1, if_neg h2, if_pos h3]; exact Eq.refl _
theorem enc4 {c : Nat} (hv : Utf8.valid (c : Int) = true) (h1 : ¬ c < 128) (h2 : ¬ c < 2048) (h3 : ¬ c < 65536) : bl (Utf8.encode (c : Int)) = [UInt8.ofNat (240 + c / 262144), UInt8.ofNat (128 + c / 4096 % 64), UInt8.ofNat (128 + c / 64 % 64), UInt8.ofNat (128 + c % 64)] := by
  have hm := enc_arg hv
  unfold Utf8.encode
  generalize (if Utf8.valid (c : Int) = true then (c : Int).toNat else Utf8.runeError) = m at hm ⊢
  subst hm
  simp only
  rw [if_neg h1, if_neg h2, if_neg h3]; exact Eq.refl _
theorem radd {H : List AO} {rid ver : Nat} {l : List UInt8} (hrow : H[rid]? = some (.row 5 1 ver (l.map u8v) 0)) {ys : List UInt8} (hy : ys ≠ []) (hl : l.length + ys.length ≤ 100000000) (ex nn : Bool) : evAppend H 5 1 1 (.own 1 rid ver 0 l.length) (.slc 1 ex nn (ys.map u8v)) = some (.own 1 rid (ver + 1) 0 (l.length + ys.length), H.set rid (.row 5 1 (ver + 1) ((l ++ ys).map u8v) 0)) := by
  have hf : fits (l.length + ys.length) 1 = true := by
    unfold fits room
    rw [decide_eq_true_eq]
    constructor <;> omega
  have hys : ¬ ys.map u8v = [] := by simpa using hy
  have htk : ((l.map u8v).drop 0).take l.length = l.map u8v := by rw [List.drop_zero, List.take_of_length_le (by simp)]
  simp only [evAppend, elemsOf, evAppendL, if_true, Nat.zero_add, rowAt, hrow, List.length_map, Nat.le_refl, and_self, rowT, Nat.zero_le, if_neg hys, hf, htk, Nat.zero_sub, List.map_append]
theorem row_leave {H : List AO} {rid ver : Nat} {L : List UInt8} {c : CFun} {vars : List AV} {i : Nat} (hlt : rid < H.length) (hb : H.all (AO.below H.length) = true) (hc : c.res = [.var i]) (hv : vars.getD i .junk = .own 1 rid (ver + 1) 0 L.length) : leave H.length c (some (.ret, vars, H.set rid (.row 5 1 (ver + 1) (L.map u8v) 0))) = some (.own 1 rid (ver + 1) 0 L.length, H.set rid (.row 5 1 (ver + 1) (L.map u8v) 0)) := by
  have hb2 : (H.set rid (.row 5 1 (ver + 1) (L.map u8v) 0)).all (AO.below H.length) = true := by
    rw [List.all_eq_true] at hb ⊢
    intro o ho
    rcases List.mem_or_eq_of_mem_set ho with h | rfl
    · exact hb o h
    · rfl
  refine leave0 (by simp) hb2 hc (by simp only [resOf, hv]) ?_
  simp [AV.frz2, AV.frz1, AV.frz0, rowAt, hlt]
theorem fo192 {x : Nat} (h : x < 32) : Q78 .or (.v (.int .u8 192)) (.v (.int .u8 (x : Int))) = some (.v (.int .u8 ((192 + x : Nat) : Int))) := by
  show some (AV.v (.int .u8 (orW 192 (x : Int)))) = _
  rw [or_tab.1 ⟨x, h⟩]
theorem fo224 {x : Nat} (h : x < 16) : Q78 .or (.v (.int .u8 224)) (.v (.int .u8 (x : Int))) = some (.v (.int .u8 ((224 + x : Nat) : Int))) := by
  show some (AV.v (.int .u8 (orW 224 (x : Int)))) = _
  rw [or_tab.2.1 ⟨x, h⟩]
theorem fo240 {x : Nat} (h : x < 8) : Q78 .or (.v (.int .u8 240)) (.v (.int .u8 (x : Int))) = some (.v (.int .u8 ((240 + x : Nat) : Int))) := by
  show some (AV.v (.int .u8 (orW 240 (x : Int)))) = _
  rw [or_tab.2.2.1 ⟨x, h⟩]
theorem fo128 {x : Nat} (h : x < 64) : Q78 .or (.v (.int .u8 128)) (.v (.int .u8 (x : Int))) = some (.v (.int .u8 ((128 + x : Nat) : Int))) := by
  show some (AV.v (.int .u8 (orW 128 (x : Int)))) = _
  rw [or_tab.2.2.2.1 ⟨x, h⟩]
theorem fa63 {x : Nat} (h : x < 256) : Q78 .and (.v (.int .u8 (x : Int))) (.v (.int .u8 63)) = some (.v (.int .u8 ((x % 64 : Nat) : Int))) := by
  show some (AV.v (.int .u8 (andW (x : Int) 63))) = _
  rw [or_tab.2.2.2.2 ⟨x, h⟩]
def bu3 (h : List AO) (a b c : AV) : Option (AV × List AO) := (evElems [] [a, b, c] h 1 (List.replicate 3 (zeroEl [.int .u8 0])) [(0, .loc 0), (1, .loc 1), (2, .loc 2)]).map fun l => (.slc 1 true true l, h)
theorem e_bu3 {call : CallF} {vars env : List AV} {h : List AO} {x0 x1 x2 : Opd} : evOp call vars env h (.bslice 1 [(.int .u8 0)] 3 [(0, x0), (1, x1), (2, x2)]) = bu3 h (getO vars env x0) (getO vars env x1) (getO vars env x2) := by
  simp only [evOp, bu3, evElems, getO]
  rfl
theorem bu3_some {h : List AO} {a b c : Int} : bu3 h (.v (.int .u8 a)) (.v (.int .u8 b)) (.v (.int .u8 c)) = some (.slc 1 true true [.v (.int .u8 a), .v (.int .u8 b), .v (.int .u8 c)], h) := rfl
def bu4 (h : List AO) (a b c d : AV) : Option (AV × List AO) := (evElems [] [a, b, c, d] h 1 (List.replicate 4 (zeroEl [.int .u8 0])) [(0, .loc 0), (1, .loc 1), (2, .loc 2), (3, .loc 3)]).map fun l => (.slc 1 true true l, h)
theorem e_bu4 {call : CallF} {vars env : List AV} {h : List AO} {x0 x1 x2 x3 : Opd} : evOp call vars env h (.bslice 1 [(.int .u8 0)] 4 [(0, x0), (1, x1), (2, x2), (3, x3)]) = bu4 h (getO vars env x0) (getO vars env x1) (getO vars env x2) (getO vars env x3) := by
  simp only [evOp, bu4, evElems, getO]
  rfl
theorem bu4_some {h : List AO} {a b c d : Int} : bu4 h (.v (.int .u8 a)) (.v (.int .u8 b)) (.v (.int .u8 c)) (.v (.int .u8 d)) = some (.slc 1 true true [.v (.int .u8 a), .v (.int .u8 b), .v (.int .u8 c), .v (.int .u8 d)], h) := rfl
theorem run95_2 {call : CallF} {K : Nat} {H H' : List AO} {O O' : AV} {c d q e m x y : Int} (w32 : IntKind.u32.wrap c = d) (f1 : Q78 .leq (.v (.int .u32 d)) (.v (.int .u32 2047)) = some (.v (.bool true)))
    (s6 : evShf false (.v (.int .i32 c)) (.v (.int .u64 6)) = some (.v (.int .i32 q))) (m1 : IntKind.u8.wrap q = e) (o1 : Q78 .or (.v (.int .u8 192)) (.v (.int .u8 e)) = some (.v (.int .u8 x)))
    (m2 : IntKind.u8.wrap c = m) {r : Int} (a1 : Q78 .and (.v (.int .u8 m)) (.v (.int .u8 63)) = some (.v (.int .u8 r))) (o2 : Q78 .or (.v (.int .u8 128)) (.v (.int .u8 r)) = some (.v (.int .u8 y)))
    (ap : evAppend H 5 1 1 O (.slc 1 true true [.v (.int .u8 x), .v (.int .u8 y)]) = some (O', H')) :
    exec call K c138.body [O, .v (.int .i32 c), .v undef, .v undef, .v undef, .v undef, .v undef] H = some (.ret, [O, .v (.int .i32 c), O', .v (.int .u32 d), .v (.bool true), .v undef, .v undef], H') := by
  have b2 : ∀ (h : List AO) (a b : Int), bs2 h 1 (some (.v (.int .u8 a))) (some (.v (.int .u8 b))) = some (.slc 1 true true [.v (.int .u8 a), .v (.int .u8 b)], h) := fun _ _ _ => rfl
  have sn : ∀ (h : List AO) (k : IntKind) (x : Int), (AV.v (.int k x)).snap1 h = some (.v (.int k x)) := fun _ _ _ => rfl
  simp only [c138, c138_0, c138_1, c138_2, c138_3, e_conv, cvK_int, w32, f1, e_shf, s6, m1, m2, o1, a1, o2, sn, Q105, b2, e_append, ap, Q0, Q1, Q2, Q3, Q4, Q5, Q6, Q7, Q8, Q9, Q10, Q11, Q12, Q13, Q14, Q15, Q16, Q17, Q18, Q19, Q20, Q21, Q22, Q23, Q24, Q25, Q26, Q27, Q28, Q29, Q30, Q31, Q32, Q33, Q35, Q36, Q37, Q38, Q39, Q40, Q41, Q42, Q43, Q44, Q45, Q46, Q47, Q48, Q49, Q50, Q51, Q52, Q53, Q54, Q55, Q56, Q57, Q58, Q59, Q60, Q61, Q62, Q63, Q64, Q65, Q66, Q67, Q68, Q69, Q70, Q71, Q72, Q73, Q99, Q100, Q101, Q102, Q103, Q74, Q75, Q77, Q78, Q79, Q80, Q81, Q82, Q83, Q84, clr, List.length_nil, List.length_cons, List.getElem?_cons_zero, List.getElem?_cons_succ, Nat.reduceAdd, Nat.zero_add, Nat.add_zero, Nat.reduceLeDiff, Nat.reduceSub, ↓reduceIte, List.drop_succ_cons, List.drop_zero, List.take_succ_cons, List.take_zero, Bool.false_eq_true, List.nil_append, List.cons_append, Bool.not_true, Bool.not_false, cond_true, cond_false, bne, Q85, Q86, Q87, Q88, Q89, Q90, Q91, Q92, Q93, Q94, Q95, Q96, Q97, Q98, Q110, Q111, Q116, Q117, Q118, Q119, Q120, Q121, Q122, Q123, Option.map_some, Option.map_none, -Q78]
theorem far2 {H : List AO} {rid ver : Nat} {l : List UInt8} {c : Nat} (hrow : H[rid]? = some (.row 5 1 ver (l.map u8v) 0)) (hb : H.all (AO.below H.length) = true) (hl : l.length ≤ 90000000) (hv : Utf8.valid (c : Int) = true) (h1 : ¬ c < 128) (h2 : c < 2048) :
    callW F 138 [.own 1 rid ver 0 l.length, .v (.int .i32 (c : Int))] H = some (.own 1 rid (ver + 1) 0 (l ++ encL c).length, H.set rid (.row 5 1 (ver + 1) ((l ++ encL c).map u8v) 0)) := by
  have hlt : rid < H.length := (List.getElem?_eq_some_iff.1 hrow).1
  have he : encL c = [UInt8.ofNat (192 + c / 64), UInt8.ofNat (128 + c % 64)] := enc2 hv h1 h2
  have w32 : IntKind.u32.wrap (c : Int) = (c : Int) := by
    simp [IntKind.wrap, IntKind.bits, IntKind.signed]; omega
  have f1 : Q78 .leq (.v (.int .u32 (c : Int))) (.v (.int .u32 2047)) = some (.v (.bool true)) := by
    show some (AV.v (.bool (decide ((c : Int) ≤ 2047)))) = _
    rw [decide_eq_true (by omega)]
  have s6 : evShf false (.v (.int .i32 (c : Int))) (.v (.int .u64 6)) = some (.v (.int .i32 ((c / 64 : Nat) : Int))) := shr_nat c 6 (by decide)
  have m1 : IntKind.u8.wrap ((c / 64 : Nat) : Int) = ((c / 64 : Nat) : Int) := by rw [u8_nat, Nat.mod_eq_of_lt (by omega)]
  have m2 := u8_nat c
  have o1 := fo192 (x := c / 64) (by omega)
  have a1 := fa63 (x := c % 256) (by omega)
  have o2 := fo128 (x := c % 256 % 64) (by omega)
  have ap := radd hrow (ys := encL c) (by rw [he]; simp) (by rw [he]; simp only [List.length_cons, List.length_nil]; omega) true true
  rw [← List.length_append] at ap
  have hm : (encL c).map u8v = [.v (.int .u8 ((192 + c / 64 : Nat) : Int)), .v (.int .u8 ((128 + c % 256 % 64 : Nat) : Int))] := by
    rw [he, u8n (by omega), u8n (by omega), show c % 256 % 64 = c % 64 by omega]; rfl
  rw [hm] at ap
  generalize l ++ encL c = L at ap ⊢
  refine callW_code (c := c138) rfl rfl 0 ?_
  have lvv : leave H.length c138 (some (.ret, [.own 1 rid ver 0 l.length, .v (.int .i32 (c : Int)), .own 1 rid (ver + 1) 0 L.length, .v (.int .u32 (c : Int)), .v (.bool true), .v undef, .v undef], H.set rid (.row 5 1 (ver + 1) (L.map u8v) 0))) = _ := row_leave (c := c138) (i := 2) hlt hb rfl rfl
  rw [← lvv]
  exact congrArg (leave H.length c138) (run95_2 w32 f1 s6 m1 o1 m2 a1 o2 ap)
theorem run95_3 {call : CallF} {K : Nat} {H H' : List AO} {O O' : AV} {c d q1 q2 e1 e2 m r1 r2 x y z : Int} {b : Bool} (w32 : IntKind.u32.wrap c = d) (f1 : Q78 .leq (.v (.int .u32 d)) (.v (.int .u32 2047)) = some (.v (.bool false)))
    (f2 : Q78 .lss (.v (.int .u32 d)) (.v (.int .u32 55296)) = some (.v (.bool b))) (f3 : b = false → Q78 .lss (.v (.int .u32 57343)) (.v (.int .u32 d)) = some (.v (.bool true))) (f4 : b = false → Q78 .leq (.v (.int .u32 d)) (.v (.int .u32 65535)) = some (.v (.bool true)))
    (s12 : evShf false (.v (.int .i32 c)) (.v (.int .u64 12)) = some (.v (.int .i32 q1))) (n1 : IntKind.u8.wrap q1 = e1) (o1 : Q78 .or (.v (.int .u8 224)) (.v (.int .u8 e1)) = some (.v (.int .u8 x)))
    (s6 : evShf false (.v (.int .i32 c)) (.v (.int .u64 6)) = some (.v (.int .i32 q2))) (n2 : IntKind.u8.wrap q2 = e2) (a1 : Q78 .and (.v (.int .u8 e2)) (.v (.int .u8 63)) = some (.v (.int .u8 r1))) (o2 : Q78 .or (.v (.int .u8 128)) (.v (.int .u8 r1)) = some (.v (.int .u8 y)))
    (m2 : IntKind.u8.wrap c = m) (a2 : Q78 .and (.v (.int .u8 m)) (.v (.int .u8 63)) = some (.v (.int .u8 r2))) (o3 : Q78 .or (.v (.int .u8 128)) (.v (.int .u8 r2)) = some (.v (.int .u8 z)))
    (ap : evAppend H 5 1 1 O (.slc 1 true true [.v (.int .u8 x), .v (.int .u8 y), .v (.int .u8 z)]) = some (O', H')) :
    exec call K c138.body [O, .v (.int .i32 c), .v undef, .v undef, .v undef, .v undef, .v undef] H = some (.ret, [O, .v (.int .i32 c), O', .v (.int .u32 d), .v (.bool false), .v (.bool true), .v undef], H') := by
  cases b with
  | true => simp only [c138, c138_0, c138_1, c138_2, c138_4, c138_6, e_conv, cvK_int, w32, f1, f2, e_shf, s12, s6, n1, n2, m2, o1, a1, o2, a2, o3, e_bu3, bu3_some, e_append, ap, Q0, Q1, Q2, Q3, Q4, Q5, Q6, Q7, Q8, Q9, Q10, Q11, Q12, Q13, Q14, Q15, Q16, Q17, Q18, Q19, Q20, Q21, Q22, Q23, Q24, Q25, Q26, Q27, Q28, Q29, Q30, Q31, Q32, Q33, Q35, Q36, Q37, Q38, Q39, Q40, Q41, Q42, Q43, Q44, Q45, Q46, Q47, Q48, Q49, Q50, Q51, Q52, Q53, Q54, Q55, Q56, Q57, Q58, Q59, Q60, Q61, Q62, Q63, Q64, Q65, Q66, Q67, Q68, Q69, Q70, Q71, Q72, Q73, Q99, Q100, Q101, Q102, Q103, Q74, Q75, Q77, Q78, Q79, Q80, Q81, Q82, Q83, Q84, clr, List.length_nil, List.length_cons, List.getElem?_cons_zero, List.getElem?_cons_succ, Nat.reduceAdd, Nat.zero_add, Nat.add_zero, Nat.reduceLeDiff, Nat.reduceSub, ↓reduceIte, List.drop_succ_cons, List.drop_zero, List.take_succ_cons, List.take_zero, Bool.false_eq_true, List.nil_append, List.cons_append, Bool.not_true, Bool.not_false, cond_true, cond_false, bne, Q85, Q86, Q87, Q88, Q89, Q90, Q91, Q92, Q93, Q94, Q95, Q96, Q97, Q98, Q110, Q111, Q116, Q117, Q118, Q119, Q120, Q121, Q122, Q123, Option.map_some, Option.map_none, -Q78]
  | false =>
    have f3 := f3 rfl
    have f4 := f4 rfl
    simp only [c138, c138_0, c138_1, c138_2, c138_4, c138_5, c138_6, e_conv, cvK_int, w32, f1, f2, f3, f4, e_shf, s12, s6, n1, n2, m2, o1, a1, o2, a2, o3, e_bu3, bu3_some, e_append, ap, Q0, Q1, Q2, Q3, Q4, Q5, Q6, Q7, Q8, Q9, Q10, Q11, Q12, Q13, Q14, Q15, Q16, Q17, Q18, Q19, Q20, Q21, Q22, Q23, Q24, Q25, Q26, Q27, Q28, Q29, Q30, Q31, Q32, Q33, Q35, Q36, Q37, Q38, Q39, Q40, Q41, Q42, Q43, Q44, Q45, Q46, Q47, Q48, Q49, Q50, Q51, Q52, Q53, Q54, Q55, Q56, Q57, Q58, Q59, Q60, Q61, Q62, Q63, Q64, Q65, Q66, Q67, Q68, Q69, Q70, Q71, Q72, Q73, Q99, Q100, Q101, Q102, Q103, Q74, Q75, Q77, Q78, Q79, Q80, Q81, Q82, Q83, Q84, clr, List.length_nil, List.length_cons, List.getElem?_cons_zero, List.getElem?_cons_succ, Nat.reduceAdd, Nat.zero_add, Nat.add_zero, Nat.reduceLeDiff, Nat.reduceSub, ↓reduceIte, List.drop_succ_cons, List.drop_zero, List.take_succ_cons, List.take_zero, Bool.false_eq_true, List.nil_append, List.cons_append, Bool.not_true, Bool.not_false, cond_true, cond_false, bne, Q85, Q86, Q87, Q88, Q89, Q90, Q91, Q92, Q93, Q94, Q95, Q96, Q97, Q98, Q110, Q111, Q116, Q117, Q118, Q119, Q120, Q121, Q122, Q123, Option.map_some, Option.map_none, -Q78]
theorem far3 {H : List AO} {rid ver : Nat} {l : List UInt8} {c : Nat} (hrow : H[rid]? = some (.row 5 1 ver (l.map u8v) 0)) (hb : H.all (AO.below H.length) = true) (hl : l.length ≤ 90000000) (hv : Utf8.valid (c : Int) = true) (h2 : ¬ c < 2048) (h3 : c < 65536) (h4 : c < 55296 ∨ 57343 < c) :
    callW F 138 [.own 1 rid ver 0 l.length, .v (.int .i32 (c : Int))] H = some (.own 1 rid (ver + 1) 0 (l ++ encL c).length, H.set rid (.row 5 1 (ver + 1) ((l ++ encL c).map u8v) 0)) := by
  have hlt : rid < H.length := (List.getElem?_eq_some_iff.1 hrow).1
  have he : encL c = [UInt8.ofNat (224 + c / 4096), UInt8.ofNat (128 + c / 64 % 64), UInt8.ofNat (128 + c % 64)] := enc3 hv (by omega) h2 h3
  have w32 : IntKind.u32.wrap (c : Int) = (c : Int) := by
    simp [IntKind.wrap, IntKind.bits, IntKind.signed]; omega
  have f1 : Q78 .leq (.v (.int .u32 (c : Int))) (.v (.int .u32 2047)) = some (.v (.bool false)) := by
    show some (AV.v (.bool (decide ((c : Int) ≤ 2047)))) = _
    rw [decide_eq_false (by omega)]
  have f2 : Q78 .lss (.v (.int .u32 (c : Int))) (.v (.int .u32 55296)) = some (.v (.bool (decide (c < 55296)))) := by
    show some (AV.v (.bool (decide ((c : Int) < 55296)))) = _
    by_cases e : c < 55296
    · rw [decide_eq_true e, decide_eq_true (by omega)]
    · rw [decide_eq_false e, decide_eq_false (by omega)]
  have f3 : decide (c < 55296) = false → Q78 .lss (.v (.int .u32 57343)) (.v (.int .u32 (c : Int))) = some (.v (.bool true)) := by
    intro e
    have e := of_decide_eq_false e
    show some (AV.v (.bool (decide ((57343 : Int) < (c : Int))))) = _
    rw [decide_eq_true (by omega)]
  have f4 : decide (c < 55296) = false → Q78 .leq (.v (.int .u32 (c : Int))) (.v (.int .u32 65535)) = some (.v (.bool true)) := by
    intro e
    show some (AV.v (.bool (decide ((c : Int) ≤ 65535)))) = _
    rw [decide_eq_true (by omega)]
  have s6 : evShf false (.v (.int .i32 (c : Int))) (.v (.int .u64 6)) = some (.v (.int .i32 ((c / 64 : Nat) : Int))) := shr_nat c 6 (by decide)
  have s12 : evShf false (.v (.int .i32 (c : Int))) (.v (.int .u64 12)) = some (.v (.int .i32 ((c / 4096 : Nat) : Int))) := shr_nat c 12 (by decide)
  have n1 : IntKind.u8.wrap ((c / 4096 : Nat) : Int) = ((c / 4096 : Nat) : Int) := by rw [u8_nat, Nat.mod_eq_of_lt (by omega)]
  have n2 := u8_nat (c / 64)
  have m2 := u8_nat c
  have o1 := fo224 (x := c / 4096) (by omega)
  have a1 := fa63 (x := c / 64 % 256) (by omega)
  have o2 := fo128 (x := c / 64 % 256 % 64) (by omega)
  have a2 := fa63 (x := c % 256) (by omega)
  have o3 := fo128 (x := c % 256 % 64) (by omega)
  have ap := radd hrow (ys := encL c) (by rw [he]; simp) (by rw [he]; simp only [List.length_cons, List.length_nil]; omega) true true
  rw [← List.length_append] at ap
  have hm : (encL c).map u8v = [.v (.int .u8 ((224 + c / 4096 : Nat) : Int)), .v (.int .u8 ((128 + c / 64 % 256 % 64 : Nat) : Int)), .v (.int .u8 ((128 + c % 256 % 64 : Nat) : Int))] := by
    rw [he, u8n (by omega), u8n (by omega), u8n (by omega), show c % 256 % 64 = c % 64 by omega, show c / 64 % 256 % 64 = c / 64 % 64 by omega]; rfl
  rw [hm] at ap
  generalize l ++ encL c = L at ap ⊢
  refine callW_code (c := c138) rfl rfl 0 ?_
  have lvv : leave H.length c138 (some (.ret, [.own 1 rid ver 0 l.length, .v (.int .i32 (c : Int)), .own 1 rid (ver + 1) 0 L.length, .v (.int .u32 (c : Int)), .v (.bool false), .v (.bool true), .v undef], H.set rid (.row 5 1 (ver + 1) (L.map u8v) 0))) = _ := row_leave (c := c138) (i := 2) hlt hb rfl rfl
  rw [← lvv]
  exact congrArg (leave H.length c138) (run95_3 w32 f1 f2 f3 f4 s12 n1 o1 s6 n2 a1 o2 m2 a2 o3 ap)
theorem run95_4 {call : CallF} {K : Nat} {H H' : List AO} {O O' : AV} {c d q0 q1 q2 e0 e1 e2 m r0 r1 r2 x y z w : Int} (w32 : IntKind.u32.wrap c = d) (f1 : Q78 .leq (.v (.int .u32 d)) (.v (.int .u32 2047)) = some (.v (.bool false)))
    (f2 : Q78 .lss (.v (.int .u32 d)) (.v (.int .u32 55296)) = some (.v (.bool false))) (f3 : Q78 .lss (.v (.int .u32 57343)) (.v (.int .u32 d)) = some (.v (.bool true))) (f4 : Q78 .leq (.v (.int .u32 d)) (.v (.int .u32 65535)) = some (.v (.bool false)))
    (f5 : Q78 .gtr (.v (.int .u32 d)) (.v (.int .u32 65535)) = some (.v (.bool true))) (f6 : Q78 .leq (.v (.int .u32 d)) (.v (.int .u32 1114111)) = some (.v (.bool true)))
    (s18 : evShf false (.v (.int .i32 c)) (.v (.int .u64 18)) = some (.v (.int .i32 q0))) (n0 : IntKind.u8.wrap q0 = e0) (o0 : Q78 .or (.v (.int .u8 240)) (.v (.int .u8 e0)) = some (.v (.int .u8 x)))
    (s12 : evShf false (.v (.int .i32 c)) (.v (.int .u64 12)) = some (.v (.int .i32 q1))) (n1 : IntKind.u8.wrap q1 = e1) (a0 : Q78 .and (.v (.int .u8 e1)) (.v (.int .u8 63)) = some (.v (.int .u8 r0))) (o1 : Q78 .or (.v (.int .u8 128)) (.v (.int .u8 r0)) = some (.v (.int .u8 y)))
    (s6 : evShf false (.v (.int .i32 c)) (.v (.int .u64 6)) = some (.v (.int .i32 q2))) (n2 : IntKind.u8.wrap q2 = e2) (a1 : Q78 .and (.v (.int .u8 e2)) (.v (.int .u8 63)) = some (.v (.int .u8 r1))) (o2 : Q78 .or (.v (.int .u8 128)) (.v (.int .u8 r1)) = some (.v (.int .u8 z)))
    (m2 : IntKind.u8.wrap c = m) (a2 : Q78 .and (.v (.int .u8 m)) (.v (.int .u8 63)) = some (.v (.int .u8 r2))) (o3 : Q78 .or (.v (.int .u8 128)) (.v (.int .u8 r2)) = some (.v (.int .u8 w)))
    (ap : evAppend H 5 1 1 O (.slc 1 true true [.v (.int .u8 x), .v (.int .u8 y), .v (.int .u8 z), .v (.int .u8 w)]) = some (O', H')) :
    exec call K c138.body [O, .v (.int .i32 c), .v undef, .v undef, .v undef, .v undef, .v undef] H = some (.ret, [O, .v (.int .i32 c), O', .v (.int .u32 d), .v (.bool false), .v (.bool false), .v (.bool true)], H') := by
  simp only [c138, c138_0, c138_1, c138_2, c138_4, c138_5, c138_7, c138_8, e_conv, cvK_int, w32, f1, f2, f3, f4, f5, f6, e_shf, s18, s12, s6, n0, n1, n2, m2, o0, o1, a0, a1, o2, a2, o3, e_bu4, bu4_some, e_append, ap, Q0, Q1, Q2, Q3, Q4, Q5, Q6, Q7, Q8, Q9, Q10, Q11, Q12, Q13, Q14, Q15, Q16, Q17, Q18, Q19, Q20, Q21, Q22, Q23, Q24, Q25, Q26, Q27, Q28, Q29, Q30, Q31, Q32, Q33, Q35, Q36, Q37, Q38, Q39, Q40, Q41, Q42, Q43, Q44, Q45, Q46, Q47, Q48, Q49, Q50, Q51, Q52, Q53, Q54, Q55, Q56, Q57, Q58, Q59, Q60, Q61, Q62, Q63, Q64, Q65, Q66, Q67, Q68, Q69, Q70, Q71, Q72, Q73, Q99, Q100, Q101, Q102, Q103, Q74, Q75, Q77, Q78, Q79, Q80, Q81, Q82, Q83, Q84, clr, List.length_nil, List.length_cons, List.getElem?_cons_zero, List.getElem?_cons_succ, Nat.reduceAdd, Nat.zero_add, Nat.add_zero, Nat.reduceLeDiff, Nat.reduceSub, ↓reduceIte, List.drop_succ_cons, List.drop_zero, List.take_succ_cons, List.take_zero, Bool.false_eq_true, List.nil_append, List.cons_append, Bool.not_true, Bool.not_false, cond_true, cond_false, bne, Q85, Q86, Q87, Q88, Q89, Q90, Q91, Q92, Q93, Q94, Q95, Q96, Q97, Q98, Q110, Q111, Q116, Q117, Q118, Q119, Q120, Q121, Q122, Q123, Option.map_some, Option.map_none, -Q78]
theorem far4 {H : List AO} {rid ver : Nat} {l : List UInt8} {c : Nat} (hrow : H[rid]? = some (.row 5 1 ver (l.map u8v) 0)) (hb : H.all (AO.below H.length) = true) (hl : l.length ≤ 90000000) (hv : Utf8.valid (c : Int) = true) (h3 : ¬ c < 65536) (h4 : c ≤ 1114111) :
    callW F 138 [.own 1 rid ver 0 l.length, .v (.int .i32 (c : Int))] H = some (.own 1 rid (ver + 1) 0 (l ++ encL c).length, H.set rid (.row 5 1 (ver + 1) ((l ++ encL c).map u8v) 0)) := by
  have hlt : rid < H.length := (List.getElem?_eq_some_iff.1 hrow).1
  have he : encL c = [UInt8.ofNat (240 + c / 262144), UInt8.ofNat (128 + c / 4096 % 64), UInt8.ofNat (128 + c / 64 % 64), UInt8.ofNat (128 + c % 64)] := enc4 hv (by omega) (by omega) h3
  have w32 : IntKind.u32.wrap (c : Int) = (c : Int) := by
    simp [IntKind.wrap, IntKind.bits, IntKind.signed]; omega
  have f1 : Q78 .leq (.v (.int .u32 (c : Int))) (.v (.int .u32 2047)) = some (.v (.bool false)) := by
    show some (AV.v (.bool (decide ((c : Int) ≤ 2047)))) = _
    rw [decide_eq_false (by omega)]
  have f2 : Q78 .lss (.v (.int .u32 (c : Int))) (.v (.int .u32 55296)) = some (.v (.bool false)) := by
    show some (AV.v (.bool (decide ((c : Int) < 55296)))) = _
    rw [decide_eq_false (by omega)]
  have f3 : Q78 .lss (.v (.int .u32 57343)) (.v (.int .u32 (c : Int))) = some (.v (.bool true)) := by
    show some (AV.v (.bool (decide ((57343 : Int) < (c : Int))))) = _
    rw [decide_eq_true (by omega)]
  have f4 : Q78 .leq (.v (.int .u32 (c : Int))) (.v (.int .u32 65535)) = some (.v (.bool false)) := by
    show some (AV.v (.bool (decide ((c : Int) ≤ 65535)))) = _
    rw [decide_eq_false (by omega)]
  have f5 : Q78 .gtr (.v (.int .u32 (c : Int))) (.v (.int .u32 65535)) = some (.v (.bool true)) := by
    show some (AV.v (.bool (decide ((c : Int) > 65535)))) = _
    rw [decide_eq_true (by omega)]
  have f6 : Q78 .leq (.v (.int .u32 (c : Int))) (.v (.int .u32 1114111)) = some (.v (.bool true)) := by
    show some (AV.v (.bool (decide ((c : Int) ≤ 1114111)))) = _
    rw [decide_eq_true (by omega)]
  have s6 : evShf false (.v (.int .i32 (c : Int))) (.v (.int .u64 6)) = some (.v (.int .i32 ((c / 64 : Nat) : Int))) := shr_nat c 6 (by decide)
  have s12 : evShf false (.v (.int .i32 (c : Int))) (.v (.int .u64 12)) = some (.v (.int .i32 ((c / 4096 : Nat) : Int))) := shr_nat c 12 (by decide)
  have s18 : evShf false (.v (.int .i32 (c : Int))) (.v (.int .u64 18)) = some (.v (.int .i32 ((c / 262144 : Nat) : Int))) := shr_nat c 18 (by decide)
  have n0 : IntKind.u8.wrap ((c / 262144 : Nat) : Int) = ((c / 262144 : Nat) : Int) := by rw [u8_nat, Nat.mod_eq_of_lt (by omega)]
  have n1 := u8_nat (c / 4096)
  have n2 := u8_nat (c / 64)
  have m2 := u8_nat c
  have o0 := fo240 (x := c / 262144) (by omega)
  have a0 := fa63 (x := c / 4096 % 256) (by omega)
  have o1 := fo128 (x := c / 4096 % 256 % 64) (by omega)
  have a1 := fa63 (x := c / 64 % 256) (by omega)
  have o2 := fo128 (x := c / 64 % 256 % 64) (by omega)
  have a2 := fa63 (x := c % 256) (by omega)
  have o3 := fo128 (x := c % 256 % 64) (by omega)
  have ap := radd hrow (ys := encL c) (by rw [he]; simp) (by rw [he]; simp only [List.length_cons, List.length_nil]; omega) true true
  rw [← List.length_append] at ap
  have hm : (encL c).map u8v = [.v (.int .u8 ((240 + c / 262144 : Nat) : Int)), .v (.int .u8 ((128 + c / 4096 % 256 % 64 : Nat) : Int)), .v (.int .u8 ((128 + c / 64 % 256 % 64 : Nat) : Int)), .v (.int .u8 ((128 + c % 256 % 64 : Nat) : Int))] := by
    rw [he, u8n (by omega), u8n (by omega), u8n (by omega), u8n (by omega), show c % 256 % 64 = c % 64 by omega, show c / 64 % 256 % 64 = c / 64 % 64 by omega, show c / 4096 % 256 % 64 = c / 4096 % 64 by omega]; rfl
  rw [hm] at ap
  generalize l ++ encL c = L at ap ⊢
  refine callW_code (c := c138) rfl rfl 0 ?_
  have lvv : leave H.length c138 (some (.ret, [.own 1 rid ver 0 l.length, .v (.int .i32 (c : Int)), .own 1 rid (ver + 1) 0 L.length, .v (.int .u32 (c : Int)), .v (.bool false), .v (.bool false), .v (.bool true)], H.set rid (.row 5 1 (ver + 1) (L.map u8v) 0))) = _ := row_leave (c := c138) (i := 2) hlt hb rfl rfl
  rw [← lvv]
  exact congrArg (leave H.length c138) (run95_4 w32 f1 f2 f3 f4 f5 f6 s18 n0 o0 s12 n1 a0 o1 s6 n2 a1 o2 m2 a2 o3 ap)
theorem valid_at {c : Nat} (hv : Utf8.valid (c : Int) = true) : c < 55296 ∨ (57343 < c ∧ c ≤ 1114111) := by
  simp only [Utf8.valid, Bool.or_eq_true, Bool.and_eq_true, decide_eq_true_eq] at hv
  omega
theorem far_ok {H : List AO} {rid ver : Nat} {l : List UInt8} {c : Nat} (hrow : H[rid]? = some (.row 5 1 ver (l.map u8v) 0)) (hb : H.all (AO.below H.length) = true) (hl : l.length ≤ 90000000) (hv : Utf8.valid (c : Int) = true) (h1 : ¬ c < 128) :
    callW F 138 [.own 1 rid ver 0 l.length, .v (.int .i32 (c : Int))] H = some (.own 1 rid (ver + 1) 0 (l ++ encL c).length, H.set rid (.row 5 1 (ver + 1) ((l ++ encL c).map u8v) 0)) := by
  have h := valid_at hv
  by_cases h2 : c < 2048
  · exact far2 hrow hb hl hv h1 h2
  · by_cases h3 : c < 65536
    · exact far3 hrow hb hl hv h2 h3 (by omega)
    · exact far4 hrow hb hl hv h3 (by omega)
theorem run90_1 {call : CallF} {K : Nat} {H H' : List AO} {O O' : AV} {c d e : Int} (w32 : IntKind.u32.wrap c = d) (f1 : Q78 .leq (.v (.int .u32 d)) (.v (.int .u32 127)) = some (.v (.bool true))) (m1 : IntKind.u8.wrap c = e)
    (ap : evAppend H 5 1 1 O (.slc 1 true true [.v (.int .u8 e)]) = some (O', H')) :
    exec call K c132.body [O, .v (.int .i32 c), .v undef, .v undef] H = some (.ret, [O, .v (.int .i32 c), O', .v (.bool true)], H') := by
  have b1 : ∀ (h : List AO) (a : Int), bs1 h 1 (some (.v (.int .u8 a))) = some (.slc 1 true true [.v (.int .u8 a)], h) := fun _ _ => rfl
  have sn : ∀ (h : List AO) (k : IntKind) (x : Int), (AV.v (.int k x)).snap1 h = some (.v (.int k x)) := fun _ _ _ => rfl
  simp only [c132, c132_0, c132_1, c132_2, e_conv, cvK_int, w32, f1, m1, sn, b1, Q104, e_append, ap, Q0, Q1, Q2, Q3, Q4, Q5, Q6, Q7, Q8, Q9, Q10, Q11, Q12, Q13, Q14, Q15, Q16, Q17, Q18, Q19, Q20, Q21, Q22, Q23, Q24, Q25, Q26, Q27, Q28, Q29, Q30, Q31, Q32, Q33, Q35, Q36, Q37, Q38, Q39, Q40, Q41, Q42, Q43, Q44, Q45, Q46, Q47, Q48, Q49, Q50, Q51, Q52, Q53, Q54, Q55, Q56, Q57, Q58, Q59, Q60, Q61, Q62, Q63, Q64, Q65, Q66, Q67, Q68, Q69, Q70, Q71, Q72, Q73, Q99, Q100, Q101, Q102, Q103, Q74, Q75, Q77, Q78, Q79, Q80, Q81, Q82, Q83, Q84, clr, List.length_nil, List.length_cons, List.getElem?_cons_zero, List.getElem?_cons_succ, Nat.reduceAdd, Nat.zero_add, Nat.add_zero, Nat.reduceLeDiff, Nat.reduceSub, ↓reduceIte, List.drop_succ_cons, List.drop_zero, List.take_succ_cons, List.take_zero, Bool.false_eq_true, List.nil_append, List.cons_append, Bool.not_true, Bool.not_false, cond_true, cond_false, bne, Q85, Q86, Q87, Q88, Q89, Q90, Q91, Q92, Q93, Q94, Q95, Q96, Q97, Q98, Q110, Q111, Q116, Q117, Q118, Q119, Q120, Q121, Q122, Q123, Option.map_some, Option.map_none, -Q78]
theorem run90_2 {call : CallF} {K : Nat} {H H' : List AO} {O O' : AV} {c d : Int} (w32 : IntKind.u32.wrap c = d) (f1 : Q78 .leq (.v (.int .u32 d)) (.v (.int .u32 127)) = some (.v (.bool false)))
    (hc : call 138 [O, .v (.int .i32 c)] H = some (O', H')) :
    exec call K c132.body [O, .v (.int .i32 c), .v undef, .v undef] H = some (.ret, [O, .v (.int .i32 c), O', .v (.bool false)], H') := by
  simp only [c132, c132_0, c132_1, c132_3, e_conv, cvK_int, w32, f1, hc, e_callh, List.map_cons, List.map_nil, Q0, Q1, Q2, Q3, Q4, Q5, Q6, Q7, Q8, Q9, Q10, Q11, Q12, Q13, Q14, Q15, Q16, Q17, Q18, Q19, Q20, Q21, Q22, Q23, Q24, Q25, Q26, Q27, Q28, Q29, Q30, Q31, Q32, Q33, Q35, Q36, Q37, Q38, Q39, Q40, Q41, Q42, Q43, Q44, Q45, Q46, Q47, Q48, Q49, Q50, Q51, Q52, Q53, Q54, Q55, Q56, Q57, Q58, Q59, Q60, Q61, Q62, Q63, Q64, Q65, Q66, Q67, Q68, Q69, Q70, Q71, Q72, Q73, Q99, Q100, Q101, Q102, Q103, Q74, Q75, Q77, Q78, Q79, Q80, Q81, Q82, Q83, Q84, clr, List.length_nil, List.length_cons, List.getElem?_cons_zero, List.getElem?_cons_succ, Nat.reduceAdd, Nat.zero_add, Nat.add_zero, Nat.reduceLeDiff, Nat.reduceSub, ↓reduceIte, List.drop_succ_cons, List.drop_zero, List.take_succ_cons, List.take_zero, Bool.false_eq_true, List.nil_append, List.cons_append, Bool.not_true, Bool.not_false, cond_true, cond_false, bne, Q85, Q86, Q87, Q88, Q89, Q90, Q91, Q92, Q93, Q94, Q95, Q96, Q97, Q98, Q110, Q111, Q116, Q117, Q118, Q119, Q120, Q121, Q122, Q123, Option.map_some, Option.map_none, -Q78]
theorem arune_ok {H : List AO} {rid ver : Nat} {l : List UInt8} {c : Nat} (hrow : H[rid]? = some (.row 5 1 ver (l.map u8v) 0)) (hb : H.all (AO.below H.length) = true) (hl : l.length ≤ 90000000) (hv : Utf8.valid (c : Int) = true) :
    callW F 132 [.own 1 rid ver 0 l.length, .v (.int .i32 (c : Int))] H = some (.own 1 rid (ver + 1) 0 (l ++ encL c).length, H.set rid (.row 5 1 (ver + 1) ((l ++ encL c).map u8v) 0)) := by
  have hlt : rid < H.length := (List.getElem?_eq_some_iff.1 hrow).1
  have hva := valid_at hv
  have w32 : IntKind.u32.wrap (c : Int) = (c : Int) := by
    simp [IntKind.wrap, IntKind.bits, IntKind.signed]; omega
  refine callW_code (c := c132) rfl rfl 0 ?_
  by_cases h1 : c < 128
  · have he : encL c = [UInt8.ofNat c] := enc1 hv h1
    have f1 : Q78 .leq (.v (.int .u32 (c : Int))) (.v (.int .u32 127)) = some (.v (.bool true)) := by
      show some (AV.v (.bool (decide ((c : Int) ≤ 127)))) = _
      rw [decide_eq_true (by omega)]
    have m1 : IntKind.u8.wrap (c : Int) = (c : Int) := by rw [u8_nat, Nat.mod_eq_of_lt (by omega)]
    have ap := radd hrow (ys := encL c) (by rw [he]; simp) (by rw [he]; simp only [List.length_cons, List.length_nil]; omega) true true
    rw [← List.length_append] at ap
    have hm : (encL c).map u8v = [.v (.int .u8 (c : Int))] := by rw [he, u8n (by omega)]; rfl
    rw [hm] at ap
    generalize l ++ encL c = L at ap ⊢
    have lvv : leave H.length c132 (some (.ret, [.own 1 rid ver 0 l.length, .v (.int .i32 (c : Int)), .own 1 rid (ver + 1) 0 L.length, .v (.bool true)], H.set rid (.row 5 1 (ver + 1) (L.map u8v) 0))) = _ := row_leave (c := c132) (i := 2) hlt hb rfl rfl
    rw [← lvv]
    exact congrArg (leave H.length c132) (run90_1 w32 f1 m1 ap)
  · have f1 : Q78 .leq (.v (.int .u32 (c : Int))) (.v (.int .u32 127)) = some (.v (.bool false)) := by
      show some (AV.v (.bool (decide ((c : Int) ≤ 127)))) = _
      rw [decide_eq_false (by omega)]
    have hc := far_ok hrow hb hl hv h1
    generalize l ++ encL c = L at hc ⊢
    have lvv : leave H.length c132 (some (.ret, [.own 1 rid ver 0 l.length, .v (.int .i32 (c : Int)), .own 1 rid (ver + 1) 0 L.length, .v (.bool false)], H.set rid (.row 5 1 (ver + 1) (L.map u8v) 0))) = _ := row_leave (c := c132) (i := 2) hlt hb rfl rfl
    rw [← lvv]
    exact congrArg (leave H.length c132) (run90_2 w32 f1 hc)
theorem run80 {call : CallF} {K b n n' : Nat} {H H1 H2 H3 : List AO} {O O' : AV} {c k : Int} (hc : call 97 [.ptr b 0] H = some (.tup [], H1)) (l1 : Q76 H1 false 1 (.ptr b 1) = some O) (n1 : evLen H1 .slice O = some n)
    (ha : call 132 [O, .v (.int .i32 c)] H1 = some (O', H2)) (st : Q113 H2 1 (.ptr b 1) O' = some H3) (l3 : Q76 H3 false 1 (.ptr b 1) = some O') (n3 : evLen H3 .slice O' = some n')
    (sb : Q78 .sub (.v (.int .i64 (n' : Int))) (.v (.int .i64 (n : Int))) = some (.v (.int .i64 k))) :
    exec call K c115.body [.ptr b 0, .v (.int .i32 c), .v undef, .v undef, .v undef] H = some (.ret, [.ptr b 0, .v (.int .i32 c), .v (.int .i64 k), .v .nilIface, .v (.int .i64 (n : Int))], H3) := by
  simp only [c115, c115_0, c115_1, c115_2, c115_3, c115_4, g_nilI, hc, e_callh, List.map_cons, List.map_nil, l1, n1, ha, st, l3, n3, sb, Q0, Q1, Q2, Q3, Q4, Q5, Q6, Q7, Q8, Q9, Q10, Q11, Q12, Q13, Q14, Q15, Q16, Q17, Q18, Q19, Q20, Q21, Q22, Q23, Q24, Q25, Q26, Q27, Q28, Q29, Q30, Q31, Q32, Q33, Q35, Q36, Q37, Q38, Q39, Q40, Q41, Q42, Q43, Q44, Q45, Q46, Q47, Q48, Q49, Q50, Q51, Q52, Q53, Q54, Q55, Q56, Q57, Q58, Q59, Q60, Q61, Q62, Q63, Q64, Q65, Q66, Q67, Q68, Q69, Q70, Q71, Q72, Q73, Q99, Q100, Q101, Q102, Q103, Q74, Q75, Q77, Q78, Q79, Q80, Q81, Q82, Q83, Q84, clr, List.length_nil, List.length_cons, List.getElem?_cons_zero, List.getElem?_cons_succ, Nat.reduceAdd, Nat.zero_add, Nat.add_zero, Nat.reduceLeDiff, Nat.reduceSub, ↓reduceIte, List.drop_succ_cons, List.drop_zero, List.take_succ_cons, List.take_zero, Bool.false_eq_true, List.nil_append, List.cons_append, Bool.not_true, Bool.not_false, cond_true, cond_false, bne, Q85, Q86, Q87, Q88, Q89, Q90, Q91, Q92, Q93, Q94, Q95, Q96, Q97, Q98, Q110, Q111, Q116, Q117, Q118, Q119, Q120, Q121, Q122, Q123, Option.map_some, Option.map_none, -Q78]
theorem wrune_ok {H : List AO} {b rid : Nat} {l : List UInt8} (h : Bd H b rid l) (hb : H.all (AO.below H.length) = true) (c : Nat) (hv : Utf8.valid (c : Int) = true) (hl : l.length ≤ 90000000) :
    ∃ r H', callW F 115 [.ptr b 0, .v (.int .i32 (c : Int))] H = some (r, H') ∧ Bd H' b rid (l ++ encL c) ∧ Rst b rid H H' ∧ H'.all (AO.below H'.length) = true := by
  obtain ⟨H1, ver, hc, hB1, hr1⟩ := h.copy
  have hb1 := hr1.below hb hB1
  have ha := arune_ok hB1.row hb1 hl hv
  have hne := hB1.ne
  have hlr : rid < H1.length := (List.getElem?_eq_some_iff.1 hB1.row).1
  have hlb : b < H1.length := (List.getElem?_eq_some_iff.1 hB1.box).1
  generalize l ++ encL c = L at ha ⊢
  have bx2 : (H1.set rid (.row 5 1 (ver + 1) (L.map u8v) 0))[b]? = some (.box 103 [.ptr b 0, .own 1 rid ver 0 l.length]) := by
    rw [List.getElem?_set_ne (Ne.symm hne)]; exact hB1.box
  have st := bx_st bx2 (x := .own 1 rid (ver + 1) 0 L.length) (xs := [.own 1 rid (ver + 1) 0 L.length]) (n := 1) (o := 1) rfl rfl (by simp)
  have hB3 : BdP (.ptr b 0) ((H1.set rid (.row 5 1 (ver + 1) (L.map u8v) 0)).set b (.box 103 (Q112 [.ptr b 0, .own 1 rid ver 0 l.length] 1 [.own 1 rid (ver + 1) 0 L.length]))) b rid (ver + 1) L := by
    refine ⟨?_, ?_⟩
    · simp [hlb, Q112]
    · rw [List.getElem?_set_ne hne]
      simp [hlr]
  have hr : Rst b rid H _ := hr1.trans ((set_rst (H := H1) (x := .row 5 1 (ver + 1) (L.map u8v) 0) (.inr rfl)).trans (set_rst (x := .box 103 (Q112 [.ptr b 0, .own 1 rid ver 0 l.length] 1 [.own 1 rid (ver + 1) 0 L.length])) (.inl rfl)))
  have hb3 := hr.below hb hB3
  generalize ((H1.set rid (.row 5 1 (ver + 1) (L.map u8v) 0)).set b (.box 103 (Q112 [.ptr b 0, .own 1 rid ver 0 l.length] 1 [.own 1 rid (ver + 1) 0 L.length]))) = H3 at st hB3 hr hb3
  have l1 : Q76 H1 false 1 (.ptr b 1) = some (.own 1 rid ver 0 l.length) := by rw [bx_ld hB1.box]; rfl
  have l3 : Q76 H3 false 1 (.ptr b 1) = some (.own 1 rid (ver + 1) 0 L.length) := by rw [bx_ld hB3.box]; rfl
  have n1 : evLen H1 .slice (.own 1 rid ver 0 l.length) = some l.length := by simp [evLen, rowAt, hB1.row]
  have n3 : evLen H3 .slice (.own 1 rid (ver + 1) 0 L.length) = some L.length := by simp [evLen, rowAt, hB3.row]
  have sb : Q78 .sub (.v (.int .i64 (L.length : Int))) (.v (.int .i64 (l.length : Int))) = some (.v (.int .i64 (IntKind.i64.wrap ((L.length : Int) - l.length)))) := rfl
  refine ⟨.tup [.v (.int .i64 (IntKind.i64.wrap ((L.length : Int) - l.length))), .v .nilIface], H3, callW_code (c := c115) rfl rfl 0 ?_, ⟨_, _, .inr rfl, hB3⟩, hr, hb3⟩
  generalize IntKind.i64.wrap ((L.length : Int) - l.length) = k at sb ⊢
  have lvv : leave H.length c115 (some (.ret, [.ptr b 0, .v (.int .i32 (c : Int)), .v (.int .i64 k), .v .nilIface, .v (.int .i64 (l.length : Int))], H3)) = some (.tup [.v (.int .i64 k), .v .nilIface], H3) := leave2 hr.1 (by rw [← hr.1]; exact hb3) (a := .var 2) (a' := .var 3) rfl rfl rfl
  rw [← lvv]
  exact congrArg (leave H.length c115) (run80 hc l1 n1 ha st l3 n3 sb)
end Go.AE.YtinhjhkmpknbbaaDoor
end

/-! An atom's text, quoted: the program's. -/
section
set_option linter.unusedVariables false
set_option linter.unusedSimpArgs false
namespace Go.AE.YtinhjhkmpknbbaaDoor
open Go Go.AE Go.Proofs.YtinhjhkmpknbbaaDoor

def V69 (x8 : AV) (x7 : AV) : List AV := [.junk, .junk, .ptr 0 0, .junk, .junk, .junk, .it 2, x7, x8, .junk, .junk, .junk, .junk, .junk]
def K69 : List Bool := [false, false, true, false, false, false, true, false, false, false, false, false, false, false]
theorem blk_out2 {vs : List AV} {h : List AO} : blk 2 (some (.exit 1, vs, h)) = some (.exit 1, vs, h) := rfl
theorem step69 {call : CallF} {K : Nat} {H H0 HR : List AO} {p c : Int} {SH : ByteArray} (nx : evNext H (.it 2) = some (.tup [.v (.bool true), .v (.int .i64 p), .v (.int .i32 c)], H0)) (wz : IntKind.i64.wrap c = c)
    (k1 : (c == 39 || c == 92) = true → ∃ H1 r r', call 67 [.ptr 0 0, .v (.int .u8 92)] H0 = some (r, H1) ∧ call 115 [.ptr 0 0, .v (.int .i32 c)] H1 = some (r', HR))
    (k2 : (c == 39 || c == 92) = false → (c == 10) = true → ∃ r, call 92 [.ptr 0 0, .v (.string ⟨#[92, 110]⟩)] H0 = some (r, HR))
    (k3 : (c == 39 || c == 92) = false → (c == 10) = false → (c == 9) = true → ∃ r, call 92 [.ptr 0 0, .v (.string ⟨#[92, 116]⟩)] H0 = some (r, HR))
    (k4 : (c == 39 || c == 92) = false → (c == 10) = false → (c == 9) = false → decide (c < 32) = true → ∃ H1 H2 r r' r'', call 92 [.ptr 0 0, .v (.string ⟨#[92, 120]⟩)] H0 = some (r, H1) ∧ call 116 [.v (.int .i64 c), .v (.int .i64 16)] [] = some (.v (.string SH), []) ∧ call 92 [.ptr 0 0, .v (.string SH)] H1 = some (r', H2) ∧ call 67 [.ptr 0 0, .v (.int .u8 92)] H2 = some (r'', HR))
    (k5 : (c == 39 || c == 92) = false → (c == 10) = false → (c == 9) = false → decide (c < 32) = false → ∃ r, call 115 [.ptr 0 0, .v (.int .i32 c)] H0 = some (r, HR)) :
    ∃ v, exec call K c93_24 (V69 .junk .junk) H = some (.normal, v, HR) ∧ clr K69 v = V69 .junk .junk := by
  have sn : ∀ (h : List AO) (k : IntKind) (x : Int), (AV.v (.int k x)).snap1 h = some (.v (.int k x)) := fun _ _ _ => rfl
  have t1 := AV.tup [.v (.bool true), .v (.int .i64 p), .v (.int .i32 c)]
  cases q1 : (c == 39 || c == 92) with
  | true =>
    obtain ⟨H1, r, r', a1, a2⟩ := k1 q1
    refine ⟨[.junk, .junk, .ptr 0 0, .v (.int .i32 c), .junk, .junk, .it 2, .tup [.v (.bool true), .v (.int .i64 p), .v (.int .i32 c)], .v (.bool true), .v (.int .i32 c), .junk, .v (.bool true), .junk, .junk], ?_, rfl⟩
    cases q2' : (c == 39) with
    | true => simp only [V69, c93_24, c93_8, c93_9, c93_10, c93_11, c93_13, c93_14, e_next, nx, ex_2, q2', a1, a2, e_callh, List.map_cons, List.map_nil, sn, Q0, Q1, Q2, Q3, Q4, Q5, Q6, Q7, Q8, Q9, Q10, Q11, Q12, Q13, Q14, Q15, Q16, Q17, Q18, Q19, Q20, Q21, Q22, Q23, Q24, Q25, Q26, Q27, Q28, Q29, Q30, Q31, Q32, Q33, Q35, Q36, Q37, Q38, Q39, Q40, Q41, Q42, Q43, Q44, Q45, Q46, Q47, Q48, Q49, Q50, Q51, Q52, Q53, Q54, Q55, Q56, Q57, Q58, Q59, Q60, Q61, Q62, Q63, Q64, Q65, Q66, Q67, Q68, Q69, Q70, Q71, Q72, Q73, Q99, Q100, Q101, Q102, Q103, Q74, Q75, Q77, Q78, Q79, Q80, Q81, Q82, Q83, Q84, clr, List.length_nil, List.length_cons, List.getElem?_cons_zero, List.getElem?_cons_succ, Nat.reduceAdd, Nat.zero_add, Nat.add_zero, Nat.reduceLeDiff, Nat.reduceSub, ↓reduceIte, List.drop_succ_cons, List.drop_zero, List.take_succ_cons, List.take_zero, Bool.false_eq_true, List.nil_append, List.cons_append, Bool.not_true, Bool.not_false, cond_true, cond_false, bne, Q85, Q86, Q87, Q88, Q89, Q90, Q91, Q92, Q93, Q94, Q95, Q96, Q97, Q98, Q110, Q111, Q116, Q117, Q118, Q119, Q120, Q121, Q122, Q123, Option.map_some, Option.map_none, Q34]
    | false =>
      rw [q2', Bool.false_or] at q1
      simp only [V69, c93_24, c93_8, c93_9, c93_10, c93_11, c93_12, c93_13, c93_14, e_next, nx, ex_2, q2', q1, a1, a2, e_callh, List.map_cons, List.map_nil, sn, Q0, Q1, Q2, Q3, Q4, Q5, Q6, Q7, Q8, Q9, Q10, Q11, Q12, Q13, Q14, Q15, Q16, Q17, Q18, Q19, Q20, Q21, Q22, Q23, Q24, Q25, Q26, Q27, Q28, Q29, Q30, Q31, Q32, Q33, Q35, Q36, Q37, Q38, Q39, Q40, Q41, Q42, Q43, Q44, Q45, Q46, Q47, Q48, Q49, Q50, Q51, Q52, Q53, Q54, Q55, Q56, Q57, Q58, Q59, Q60, Q61, Q62, Q63, Q64, Q65, Q66, Q67, Q68, Q69, Q70, Q71, Q72, Q73, Q99, Q100, Q101, Q102, Q103, Q74, Q75, Q77, Q78, Q79, Q80, Q81, Q82, Q83, Q84, clr, List.length_nil, List.length_cons, List.getElem?_cons_zero, List.getElem?_cons_succ, Nat.reduceAdd, Nat.zero_add, Nat.add_zero, Nat.reduceLeDiff, Nat.reduceSub, ↓reduceIte, List.drop_succ_cons, List.drop_zero, List.take_succ_cons, List.take_zero, Bool.false_eq_true, List.nil_append, List.cons_append, Bool.not_true, Bool.not_false, cond_true, cond_false, bne, Q85, Q86, Q87, Q88, Q89, Q90, Q91, Q92, Q93, Q94, Q95, Q96, Q97, Q98, Q110, Q111, Q116, Q117, Q118, Q119, Q120, Q121, Q122, Q123, Option.map_some, Option.map_none, Q34]
  | false =>
    have q1a : (c == 39) = false := by simp only [Bool.or_eq_false_iff] at q1; exact q1.1
    have q1b : (c == 92) = false := by simp only [Bool.or_eq_false_iff] at q1; exact q1.2
    cases q5 : (c == 10) with
    | true =>
      obtain ⟨r, a1⟩ := k2 q1 q5
      refine ⟨[.junk, .junk, .ptr 0 0, .v (.int .i32 c), .junk, .junk, .it 2, .tup [.v (.bool true), .v (.int .i64 p), .v (.int .i32 c)], .v (.bool true), .v (.int .i32 c), .junk, .v (.bool false), .v (.bool true), .junk], ?_, rfl⟩
      simp only [V69, c93_24, c93_8, c93_9, c93_10, c93_11, c93_12, c93_15, c93_16, e_next, nx, ex_2, q1a, q1b, q5, a1, e_callh, List.map_cons, List.map_nil, sn, Q0, Q1, Q2, Q3, Q4, Q5, Q6, Q7, Q8, Q9, Q10, Q11, Q12, Q13, Q14, Q15, Q16, Q17, Q18, Q19, Q20, Q21, Q22, Q23, Q24, Q25, Q26, Q27, Q28, Q29, Q30, Q31, Q32, Q33, Q35, Q36, Q37, Q38, Q39, Q40, Q41, Q42, Q43, Q44, Q45, Q46, Q47, Q48, Q49, Q50, Q51, Q52, Q53, Q54, Q55, Q56, Q57, Q58, Q59, Q60, Q61, Q62, Q63, Q64, Q65, Q66, Q67, Q68, Q69, Q70, Q71, Q72, Q73, Q99, Q100, Q101, Q102, Q103, Q74, Q75, Q77, Q78, Q79, Q80, Q81, Q82, Q83, Q84, clr, List.length_nil, List.length_cons, List.getElem?_cons_zero, List.getElem?_cons_succ, Nat.reduceAdd, Nat.zero_add, Nat.add_zero, Nat.reduceLeDiff, Nat.reduceSub, ↓reduceIte, List.drop_succ_cons, List.drop_zero, List.take_succ_cons, List.take_zero, Bool.false_eq_true, List.nil_append, List.cons_append, Bool.not_true, Bool.not_false, cond_true, cond_false, bne, Q85, Q86, Q87, Q88, Q89, Q90, Q91, Q92, Q93, Q94, Q95, Q96, Q97, Q98, Q110, Q111, Q116, Q117, Q118, Q119, Q120, Q121, Q122, Q123, Option.map_some, Option.map_none, Q34]
    | false =>
      cases q6 : (c == 9) with
      | true =>
        obtain ⟨r, a1⟩ := k3 q1 q5 q6
        refine ⟨[.junk, .junk, .ptr 0 0, .v (.int .i32 c), .junk, .junk, .it 2, .tup [.v (.bool true), .v (.int .i64 p), .v (.int .i32 c)], .v (.bool true), .v (.int .i32 c), .junk, .v (.bool false), .v (.bool false), .v (.bool true)], ?_, rfl⟩
        simp only [V69, c93_24, c93_8, c93_9, c93_10, c93_11, c93_12, c93_15, c93_17, c93_18, e_next, nx, ex_2, q1a, q1b, q5, q6, a1, e_callh, List.map_cons, List.map_nil, sn, Q0, Q1, Q2, Q3, Q4, Q5, Q6, Q7, Q8, Q9, Q10, Q11, Q12, Q13, Q14, Q15, Q16, Q17, Q18, Q19, Q20, Q21, Q22, Q23, Q24, Q25, Q26, Q27, Q28, Q29, Q30, Q31, Q32, Q33, Q35, Q36, Q37, Q38, Q39, Q40, Q41, Q42, Q43, Q44, Q45, Q46, Q47, Q48, Q49, Q50, Q51, Q52, Q53, Q54, Q55, Q56, Q57, Q58, Q59, Q60, Q61, Q62, Q63, Q64, Q65, Q66, Q67, Q68, Q69, Q70, Q71, Q72, Q73, Q99, Q100, Q101, Q102, Q103, Q74, Q75, Q77, Q78, Q79, Q80, Q81, Q82, Q83, Q84, clr, List.length_nil, List.length_cons, List.getElem?_cons_zero, List.getElem?_cons_succ, Nat.reduceAdd, Nat.zero_add, Nat.add_zero, Nat.reduceLeDiff, Nat.reduceSub, ↓reduceIte, List.drop_succ_cons, List.drop_zero, List.take_succ_cons, List.take_zero, Bool.false_eq_true, List.nil_append, List.cons_append, Bool.not_true, Bool.not_false, cond_true, cond_false, bne, Q85, Q86, Q87, Q88, Q89, Q90, Q91, Q92, Q93, Q94, Q95, Q96, Q97, Q98, Q110, Q111, Q116, Q117, Q118, Q119, Q120, Q121, Q122, Q123, Option.map_some, Option.map_none, Q34]
      | false =>
        cases q7 : decide (c < 32) with
        | true =>
          obtain ⟨H1, H2, r, r', r'', a1, a2, a3, a4⟩ := k4 q1 q5 q6 q7
          refine ⟨[.junk, .junk, .ptr 0 0, .v (.int .i32 c), .junk, .junk, .it 2, .tup [.v (.bool true), .v (.int .i64 p), .v (.int .i32 c)], .v (.bool true), .v (.int .i32 c), .v (.bool true), .v (.bool false), .v (.bool false), .v (.bool false)], ?_, rfl⟩
          simp only [V69, c93_24, c93_8, c93_9, c93_10, c93_11, c93_12, c93_15, c93_17, c93_19, c93_20, c93_21, c93_22, e_next, nx, ex_2, q1a, q1b, q5, q6, q7, a1, a2, a3, a4, e_conv, cvK_int, wz, e_callh, List.map_cons, List.map_nil, sn, blk_out2, Q0, Q1, Q2, Q3, Q4, Q5, Q6, Q7, Q8, Q9, Q10, Q11, Q12, Q13, Q14, Q15, Q16, Q17, Q18, Q19, Q20, Q21, Q22, Q23, Q24, Q25, Q26, Q27, Q28, Q29, Q30, Q31, Q32, Q33, Q35, Q36, Q37, Q38, Q39, Q40, Q41, Q42, Q43, Q44, Q45, Q46, Q47, Q48, Q49, Q50, Q51, Q52, Q53, Q54, Q55, Q56, Q57, Q58, Q59, Q60, Q61, Q62, Q63, Q64, Q65, Q66, Q67, Q68, Q69, Q70, Q71, Q72, Q73, Q99, Q100, Q101, Q102, Q103, Q74, Q75, Q77, Q78, Q79, Q80, Q81, Q82, Q83, Q84, clr, List.length_nil, List.length_cons, List.getElem?_cons_zero, List.getElem?_cons_succ, Nat.reduceAdd, Nat.zero_add, Nat.add_zero, Nat.reduceLeDiff, Nat.reduceSub, ↓reduceIte, List.drop_succ_cons, List.drop_zero, List.take_succ_cons, List.take_zero, Bool.false_eq_true, List.nil_append, List.cons_append, Bool.not_true, Bool.not_false, cond_true, cond_false, bne, Q85, Q86, Q87, Q88, Q89, Q90, Q91, Q92, Q93, Q94, Q95, Q96, Q97, Q98, Q110, Q111, Q116, Q117, Q118, Q119, Q120, Q121, Q122, Q123, Option.map_some, Option.map_none, Q34]
        | false =>
          obtain ⟨r, a1⟩ := k5 q1 q5 q6 q7
          refine ⟨[.junk, .junk, .ptr 0 0, .v (.int .i32 c), .junk, .junk, .it 2, .tup [.v (.bool true), .v (.int .i64 p), .v (.int .i32 c)], .v (.bool true), .v (.int .i32 c), .v (.bool false), .v (.bool false), .v (.bool false), .v (.bool false)], ?_, rfl⟩
          simp only [V69, c93_24, c93_8, c93_9, c93_10, c93_11, c93_12, c93_15, c93_17, c93_19, c93_23, e_next, nx, ex_2, q1a, q1b, q5, q6, q7, a1, e_callh, List.map_cons, List.map_nil, sn, Q0, Q1, Q2, Q3, Q4, Q5, Q6, Q7, Q8, Q9, Q10, Q11, Q12, Q13, Q14, Q15, Q16, Q17, Q18, Q19, Q20, Q21, Q22, Q23, Q24, Q25, Q26, Q27, Q28, Q29, Q30, Q31, Q32, Q33, Q35, Q36, Q37, Q38, Q39, Q40, Q41, Q42, Q43, Q44, Q45, Q46, Q47, Q48, Q49, Q50, Q51, Q52, Q53, Q54, Q55, Q56, Q57, Q58, Q59, Q60, Q61, Q62, Q63, Q64, Q65, Q66, Q67, Q68, Q69, Q70, Q71, Q72, Q73, Q99, Q100, Q101, Q102, Q103, Q74, Q75, Q77, Q78, Q79, Q80, Q81, Q82, Q83, Q84, clr, List.length_nil, List.length_cons, List.getElem?_cons_zero, List.getElem?_cons_succ, Nat.reduceAdd, Nat.zero_add, Nat.add_zero, Nat.reduceLeDiff, Nat.reduceSub, ↓reduceIte, List.drop_succ_cons, List.drop_zero, List.take_succ_cons, List.take_zero, Bool.false_eq_true, List.nil_append, List.cons_append, Bool.not_true, Bool.not_false, cond_true, cond_false, bne, Q85, Q86, Q87, Q88, Q89, Q90, Q91, Q92, Q93, Q94, Q95, Q96, Q97, Q98, Q110, Q111, Q116, Q117, Q118, Q119, Q120, Q121, Q122, Q123, Option.map_some, Option.map_none, Q34]
theorem dec_valid (s : ByteArray) (p : Nat) : Utf8.valid ((Utf8.decode s p).1 : Int) = true := by
  have h := Lib.decodeN_valid (s.size - p) (s.get! p).toNat (s.get! (p + 1)).toNat (s.get! (p + 2)).toNat (s.get! (p + 3)).toNat (s.get! p).toNat_lt
  rw [Lib.decode_at]
  generalize (Lib.decodeN (s.size - p) (s.get! p).toNat (s.get! (p + 1)).toNat (s.get! (p + 2)).toNat (s.get! (p + 3)).toNat).1 = c at h
  simp only [Utf8.valid, Bool.or_eq_true, Bool.and_eq_true, decide_eq_true_eq]
  omega
theorem exit69 {call : CallF} {K : Nat} {H : List AO} (nx : evNext H (.it 2) = some (.tup [.v (.bool false)], H)) : exec call K c93_24 (V69 .junk .junk) H = some (.exit 0, V69 (.v (.bool false)) (.tup [.v (.bool false)]), H) := by
  simp only [V69, c93_24, c93_8, e_next, nx, Q0, Q1, Q2, Q3, Q4, Q5, Q6, Q7, Q8, Q9, Q10, Q11, Q12, Q13, Q14, Q15, Q16, Q17, Q18, Q19, Q20, Q21, Q22, Q23, Q24, Q25, Q26, Q27, Q28, Q29, Q30, Q31, Q32, Q33, Q35, Q36, Q37, Q38, Q39, Q40, Q41, Q42, Q43, Q44, Q45, Q46, Q47, Q48, Q49, Q50, Q51, Q52, Q53, Q54, Q55, Q56, Q57, Q58, Q59, Q60, Q61, Q62, Q63, Q64, Q65, Q66, Q67, Q68, Q69, Q70, Q71, Q72, Q73, Q99, Q100, Q101, Q102, Q103, Q74, Q75, Q77, Q78, Q79, Q80, Q81, Q82, Q83, Q84, clr, List.length_nil, List.length_cons, List.getElem?_cons_zero, List.getElem?_cons_succ, Nat.reduceAdd, Nat.zero_add, Nat.add_zero, Nat.reduceLeDiff, Nat.reduceSub, ↓reduceIte, List.drop_succ_cons, List.drop_zero, List.take_succ_cons, List.take_zero, Bool.false_eq_true, List.nil_append, List.cons_append, Bool.not_true, Bool.not_false, cond_true, cond_false, bne, Q85, Q86, Q87, Q88, Q89, Q90, Q91, Q92, Q93, Q94, Q95, Q96, Q97, Q98, Q110, Q111, Q116, Q117, Q118, Q119, Q120, Q121, Q122, Q123, Option.map_some, Option.map_none, Q34]
theorem cwrite_loop (hfmt : ∀ c : Nat, c < 32 → callW F 116 [.v (.int .i64 (c : Int)), .v (.int .i64 16)] [] = some (.v (.string ⟨(hexL c).toArray⟩), [])) {s : ByteArray} (hs : s.size ≤ 255) (v : List AV) (H : List AO) (o : List UInt8) (ho : o.length ≤ 100) (hB : Bd H 0 1 o) (hi2 : H[2]? = some (.siter s 0)) (hb : H.all (AO.below H.length) = true) (hv : clr K69 v = V69 .junk .junk) :
    ∃ x8 x7 H', loopN (exec (callW F) (s.size + 1) c93_24) K69 (s.size + 1) v H = some (.exit 0, V69 x8 x7, H') ∧ Bd H' 0 1 (o ++ (runesOf s).flatMap escL) ∧ H'.all (AO.below H'.length) = true ∧ H'.length = H.length := by
  obtain ⟨e, v', h', g1, g2, g3⟩ := loop_rule0 (call := callW F) (K := s.size + 1) (b := c93_24) (keep := K69)
    (fun i v h => ∃ (p : Nat) (q : List UInt8), i ≤ p ∧ v = V69 .junk .junk ∧ Bd h 0 1 q ∧ h[2]? = some (.siter s p) ∧ h.all (AO.below h.length) = true ∧ h.length = H.length ∧ q.length ≤ 100 + 5 * i ∧ q ++ (rns s (s.size - i) p).flatMap escL = o ++ (runesOf s).flatMap escL)
    (fun e v h => e = .exit 0 ∧ Bd h 0 1 (o ++ (runesOf s).flatMap escL) ∧ h.all (AO.below h.length) = true ∧ h.length = H.length ∧ ∃ x8 x7, v = V69 x8 x7)
    s.size (m := s.size + 1) (v := v) (h := H) (by omega) ⟨0, o, Nat.le_refl _, hv, hB, hi2, hb, rfl, by omega, rfl⟩ (by
      rintro i v h hi ⟨p, q, hip, rfl, hBq, h2, hbb, hlen, hql, hR⟩
      by_cases hp : p < s.size
      · have hl2 : 2 < h.length := (List.getElem?_eq_some_iff.1 h2).1
        have nx : evNext h (.it 2) = some (.tup [.v (.bool true), .v (.int .i64 p), .v (.int .i32 (Utf8.decode s p).1)], h.set 2 (.siter s (p + (Utf8.decode s p).2))) := by
          simp only [evNext, h2, hp, if_true]
        have hw := width_pos s p
        have hil : i < s.size := by omega
        have e1 : s.size - i = (s.size - (i + 1)) + 1 := by omega
        rw [e1, rns_cons hp, List.flatMap_cons] at hR
        have hvd := dec_valid s p
        have hpp : i + 1 ≤ p + (Utf8.decode s p).2 := by omega
        generalize p + (Utf8.decode s p).2 = p' at hR nx hpp
        generalize (Utf8.decode s p).1 = d at hR nx hvd
        have hne1 : ¬ (2 = 0) := by decide
        have hne2 : ¬ (2 = 1) := by decide
        have h20 : (h.set 2 (.siter s p'))[2]? = some (.siter s p') := by simp [hl2]
        have hB0 : Bd (h.set 2 (.siter s p')) 0 1 q := by
          obtain ⟨pp, ver, hpp, hbx⟩ := hBq
          refine ⟨pp, ver, hpp, ?_, ?_⟩
          · rw [List.getElem?_set_ne (by decide)]; exact hbx.box
          · rw [List.getElem?_set_ne (by decide)]; exact hbx.row
        have l0 : (h.set 2 (.siter s p')).length = h.length := by simp
        have hb0 : (h.set 2 (.siter s p')).all (AO.below (h.set 2 (.siter s p')).length) = true := by
          rw [l0, List.all_eq_true]
          rw [List.all_eq_true] at hbb
          intro o ho
          rcases List.mem_or_eq_of_mem_set ho with h1 | rfl
          · exact hbb o h1
          · rfl
        generalize h.set 2 (.siter s p') = H0 at nx h20 hB0 l0 hb0
        have hel := escL_len d
        have hnl := encL_len d
        have hxl := hexL_len d
        have hxn : hexL d ≠ [] := by unfold hexL; split <;> simp
        have hE : escL d = escH ((d : Int) == 39 || (d : Int) == 92) ((d : Int) == 10) ((d : Int) == 9) (decide ((d : Int) < 32)) (encL d) (hexL d) := by unfold escL; exact Eq.refl _
        have wr := fun {A : List AO} {l : List UInt8} (x : Bd A 0 1 l) (y : A.all (AO.below A.length) = true) (z : l.length ≤ 90000000) => wrune_ok x y d hvd z
        have hf := fun (x : d < 32) => hfmt d x
        have wz : IntKind.i64.wrap (d : Int) = (d : Int) := by
          have := valid_at hvd
          rw [IntWalk.i64_in]; omega
        have d32 : decide ((d : Int) < 32) = true → d < 32 := fun e => by have := of_decide_eq_true e; omega
        clear hvd hfmt
        generalize escL d = Z at hE hR hel
        generalize encL d = E at hE wr hnl
        generalize hexL d = X at hE hf hxl hxn
        generalize (d : Int) = c at hE nx wr hf wz d32
        have fin : ∀ (HR : List AO) (Y : List UInt8), Z = Y → Bd HR 0 1 (q ++ Y) → Rst 0 1 H0 HR → HR.all (AO.below HR.length) = true → (∃ v, exec (callW F) (s.size + 1) c93_24 (V69 .junk .junk) h = some (.normal, v, HR) ∧ clr K69 v = V69 .junk .junk) →
            ∃ x v' h', exec (callW F) (s.size + 1) c93_24 (V69 .junk .junk) h = some (x, v', h') ∧ Aft s.size i K69 (fun i v h => ∃ (p : Nat) (q : List UInt8), i ≤ p ∧ v = V69 .junk .junk ∧ Bd h 0 1 q ∧ h[2]? = some (.siter s p) ∧ h.all (AO.below h.length) = true ∧ h.length = H.length ∧ q.length ≤ 100 + 5 * i ∧ q ++ (rns s (s.size - i) p).flatMap escL = o ++ (runesOf s).flatMap escL)
              (fun e v h => e = .exit 0 ∧ Bd h 0 1 (o ++ (runesOf s).flatMap escL) ∧ h.all (AO.below h.length) = true ∧ h.length = H.length ∧ ∃ x8 x7, v = V69 x8 x7) x v' h' := by
          rintro HR Y rfl b1 b2 b3 ⟨vv, e1, e2⟩
          refine ⟨.normal, vv, HR, e1, hil, p', q ++ Z, hpp, e2, b1, ?_, b3, ?_, ?_, ?_⟩
          · rw [b2.2 2 hne1 hne2]; exact h20
          · rw [b2.1, l0]; exact hlen
          · rw [List.length_append]; omega
          · rw [List.append_assoc]; exact hR
        have tf : ∀ {b : Bool}, b = true → b = false → False := fun e f => by rw [e] at f; cases f
        cases q1 : (c == 39 || c == 92) with
        | true =>
          obtain ⟨H1, c1, b1, r1, m1⟩ := wbyte_ok hB0 hb0 92 (by omega)
          obtain ⟨rr, HR, c2, b2, r2, m2⟩ := wr b1 m1 (by rw [List.length_append]; simp only [List.length_cons, List.length_nil]; omega)
          rw [List.append_assoc] at b2
          exact fin HR ([92] ++ E) (by rw [hE, q1]; rfl) b2 (r1.trans r2) m2 (step69 (SH := ⟨X.toArray⟩) nx wz (fun _ => ⟨H1, _, _, c1, c2⟩) (fun a => (tf q1 a).elim) (fun a => (tf q1 a).elim) (fun a => (tf q1 a).elim) (fun a => (tf q1 a).elim))
        | false =>
        cases q5 : (c == 10) with
        | true =>
          obtain ⟨HR, c1, b1, r1, m1⟩ := wstr_ok hB0 hb0 ⟨#[92, 110]⟩ (by decide) (by simp only [bl]; show q.length + 2 ≤ 100000000; omega)
          exact fin HR [92, 110] (by rw [hE, q1, q5]; rfl) b1 r1 m1 (step69 (SH := ⟨X.toArray⟩) nx wz (fun a => (tf a q1).elim) (fun _ _ => ⟨_, c1⟩) (fun _ a => (tf q5 a).elim) (fun _ a => (tf q5 a).elim) (fun _ a => (tf q5 a).elim))
        | false =>
        cases q6 : (c == 9) with
        | true =>
          obtain ⟨HR, c1, b1, r1, m1⟩ := wstr_ok hB0 hb0 ⟨#[92, 116]⟩ (by decide) (by simp only [bl]; show q.length + 2 ≤ 100000000; omega)
          exact fin HR [92, 116] (by rw [hE, q1, q5, q6]; rfl) b1 r1 m1 (step69 (SH := ⟨X.toArray⟩) nx wz (fun a => (tf a q1).elim) (fun _ a => (tf a q5).elim) (fun _ _ _ => ⟨_, c1⟩) (fun _ _ a => (tf q6 a).elim) (fun _ _ a => (tf q6 a).elim))
        | false =>
        cases q7 : decide (c < 32) with
        | true =>
          have hbl : bl ⟨X.toArray⟩ = X := by simp [bl]
          obtain ⟨H1, c1, b1, r1, m1⟩ := wstr_ok hB0 hb0 ⟨#[92, 120]⟩ (by decide) (by simp only [bl]; show q.length + 2 ≤ 100000000; omega)
          obtain ⟨H2, c2, b2, r2, m2⟩ := wstr_ok b1 m1 ⟨X.toArray⟩ (by rw [hbl]; exact hxn) (by rw [hbl, List.length_append, show (bl ⟨#[92, 120]⟩).length = 2 from rfl]; omega)
          rw [hbl] at b2
          obtain ⟨HR, c999003, b3, r3, m3⟩ := wbyte_ok b2 m2 92 (by rw [List.length_append, List.length_append, show (bl ⟨#[92, 120]⟩).length = 2 from rfl]; omega)
          rw [List.append_assoc, List.append_assoc] at b3
          exact fin HR (([92, 120] ++ X) ++ [92]) (by rw [hE, q1, q5, q6, q7]; rfl) (by rw [List.append_assoc]; exact b3) ((r1.trans r2).trans r3) m3 (step69 (SH := ⟨X.toArray⟩) nx wz (fun a => (tf a q1).elim) (fun _ a => (tf a q5).elim) (fun _ _ a => (tf a q6).elim) (fun _ _ _ _ => ⟨H1, H2, _, _, _, c1, hf (d32 q7), c2, c999003⟩) (fun _ _ _ a => (tf q7 a).elim))
        | false =>
          obtain ⟨rr, HR, c1, b1, r1, m1⟩ := wr hB0 hb0 (by omega)
          exact fin HR E (by rw [hE, q1, q5, q6, q7]; rfl) b1 r1 m1 (step69 (SH := ⟨X.toArray⟩) nx wz (fun a => (tf a q1).elim) (fun _ a => (tf a q5).elim) (fun _ _ a => (tf a q6).elim) (fun _ _ _ a => (tf a q7).elim) (fun _ _ _ _ => ⟨_, c1⟩))
      · have nx : evNext h (.it 2) = some (.tup [.v (.bool false)], h) := by
          simp only [evNext, h2, hp, if_false]
        rw [rns_nil hp, List.flatMap_nil, List.append_nil] at hR
        subst hR
        exact ⟨_, _, _, exit69 nx, rfl, hBq, hbb, hlen, _, _, rfl⟩)
  obtain ⟨rfl, a1, a2, a3, x8, x7, rfl⟩ := g3
  exact ⟨x8, x7, h', g1, a1, a2, a3⟩
theorem cw_false {call : CallF} {K : Nat} {s W : ByteArray} {H1 H2 H3 H4 : List AO} {r1 r2 x8 x7 : AV} {bb : CC} (hk : call 113 [.v (.string s)] [] = some (.v (.bool true), [])) (hb : call 114 [.v (.string s)] [] = some (.v (.bool false), []))
    (c1 : call 67 [.ptr 0 0, .v (.int .u8 39)] [.box 103 [.v (.pointer none), .own 1 1 0 0 0], .row 5 1 0 [] 0] = some (r1, H1)) (rg : rgV H1 (.v (.string s)) = some (.it 2, H1 ++ [.siter s 0]))
    (lp : loopN (exec call K bb) K69 K [.v (.string s), .v (.string ⟨#[]⟩), .ptr 0 0, .v undef, .v (.bool false), .v (.bool false), .it 2, .v undef, .v undef, .v undef, .v undef, .v undef, .v undef, .v undef] (H1 ++ [.siter s 0]) = some (.exit 0, V69 x8 x7, H2))
    (c2 : call 67 [.ptr 0 0, .v (.int .u8 39)] H2 = some (r2, H3)) (c999003 : call 68 [.ptr 0 0] H3 = some (.v (.string W), H4)) :
    lv [.var 1] (exec call K (.seq (.region [] [] c93_0) (.seq (.seq (.region [] [] c93_1) (.cond (.var 4) (.seq (.region [] [] c93_2) .ret) .skip)) (.seq (.seq (.region [] [] c93_3) (.cond (.var 5) (.seq (.region [] [] c93_4) .ret) .skip)) (.seq (.region [] [] c93_5) (.seq (.region [.ap 2 1 5 1] [] c93_6) (.seq (.seq (.region [] [] c93_7) (.block 0 (.loop K69 [] bb))) (.seq (.region [] [] c93_25) (.seq (.region [] [] c93_26) .ret)))))))) [.v (.string s), .v undef, .v undef, .v undef, .v undef, .v undef, .v undef, .v undef, .v undef, .v undef, .v undef, .v undef, .v undef, .v undef] []) = some (.v (.string W), []) := by
  have bz : bx [] 103 (some [.v (.pointer none), .v (.slice none 0 0)]) = some (.ptr 0 0, [.box 103 [.v (.pointer none), .v (.slice none 0 0)]]) := rfl
  have oz : (ofVal (.agg #[(.pointer none), (.slice none 0 0)])).cl = some [.v (.pointer none), .v (.slice none 0 0)] := by simp [ofVal, AV.cl, Value.oneCell']
  have mk : ∀ v0 v1 v3 v4 v5 v6 v7 v8 v9 v10 v11 v12 v13 : AV, doMark ([v0, v1, .ptr 0 0, v3, v4, v5, v6, v7, v8, v9, v10, v11, v12, v13], [.box 103 [.v (.pointer none), .v (.slice none 0 0)]]) (.ap 2 1 5 1) = ([v0, v1, .ptr 0 0, v3, v4, v5, v6, v7, v8, v9, v10, v11, v12, v13], [.box 103 [.v (.pointer none), .own 1 1 0 0 0], .row 5 1 0 [] 0]) := fun _ _ _ _ _ _ _ _ _ _ _ _ _ => rfl
  simp only [V69, c93_0, c93_1, c93_3, c93_5, c93_6, c93_7, c93_25, c93_26, hk, hb, snap_str, oz, bz, x_region_m, List.foldl_cons, List.foldl_nil, mk, marked_eq, c1, e_callh, List.map_cons, List.map_nil, e_range, rg, lp, c2, c999003, Bool.not_true, Q0, Q1, Q2, Q3, Q4, Q5, Q6, Q7, Q8, Q9, Q10, Q11, Q12, Q13, Q14, Q15, Q16, Q17, Q18, Q19, Q20, Q21, Q22, Q23, Q24, Q25, Q26, Q27, Q28, Q29, Q30, Q31, Q32, Q33, Q35, Q36, Q37, Q38, Q39, Q40, Q41, Q42, Q43, Q44, Q45, Q46, Q47, Q48, Q49, Q50, Q51, Q52, Q53, Q54, Q55, Q56, Q57, Q58, Q59, Q60, Q61, Q62, Q63, Q64, Q65, Q66, Q67, Q68, Q69, Q70, Q71, Q72, Q73, Q99, Q100, Q101, Q102, Q103, Q74, Q75, Q77, Q78, Q79, Q80, Q81, Q82, Q83, Q84, clr, List.length_nil, List.length_cons, List.getElem?_cons_zero, List.getElem?_cons_succ, Nat.reduceAdd, Nat.zero_add, Nat.add_zero, Nat.reduceLeDiff, Nat.reduceSub, ↓reduceIte, List.drop_succ_cons, List.drop_zero, List.take_succ_cons, List.take_zero, Bool.false_eq_true, List.nil_append, List.cons_append, Bool.not_true, Bool.not_false, cond_true, cond_false, bne, Q85, Q86, Q87, Q88, Q89, Q90, Q91, Q92, Q93, Q94, Q95, Q96, Q97, Q98, Q110, Q111, Q116, Q117, Q118, Q119, Q120, Q121, Q122, Q123, Option.map_some, Option.map_none]
theorem Bd.string {H : List AO} {b rid : Nat} {l : List UInt8} (h : Bd H b rid l) (h0 : l ≠ []) (hl : l.length ≤ 100000000) : ∃ H', callW F 68 [.ptr b 0] H = some (.v (.string ⟨l.toArray⟩), H') := by
  obtain ⟨p, ver, hp, hB⟩ := h
  have hpos : 0 < l.length := List.length_pos_iff.2 h0
  refine ⟨H.set rid (.row 5 1 (ver + 1) [] 0), callW_oracle (g := stringG 103 5) rfl ?_⟩
  simp only [stringG, hB.box, if_true, hB.row, List.length_map, true_and]
  rw [if_pos ⟨hpos, by omega⟩, strL_u8]
  rfl
theorem cwrite_ok (hfmt : ∀ c : Nat, c < 32 → callW F 116 [.v (.int .i64 (c : Int)), .v (.int .i64 16)] [] = some (.v (.string ⟨(hexL c).toArray⟩), [])) {s : ByteArray} (hchk : chkS s = true) : callW F 93 [.v (.string s)] [] = some (.v (.string ⟨(writeL s).toArray⟩), []) := by
  have hk := chk_ok s
  rw [hchk] at hk
  have hd255 : decide ((s.size : Int) ≤ 255) = true := by
    simp only [chkS, Bool.and_eq_true] at hchk
    exact hchk.1
  have h255 : s.size ≤ 255 := by
    have := of_decide_eq_true hd255
    omega
  have hb := bareS_ok hd255
  refine callW_pure (c := c93) rfl rfl (s.size + 1) ?_
  have hs : ⟨(bl s).toArray⟩ = s := (bl_eta s).symm
  unfold writeL
  cases q : bareS s with
  | true =>
    rw [q] at hb
    rw [if_pos rfl, hs]
    simp only [c93, start, List.replicate, c93_0, c93_1, c93_3, c93_4, hk, hb, snap_str, Bool.not_true, Q0, Q1, Q2, Q3, Q4, Q5, Q6, Q7, Q8, Q9, Q10, Q11, Q12, Q13, Q14, Q15, Q16, Q17, Q18, Q19, Q20, Q21, Q22, Q23, Q24, Q25, Q26, Q27, Q28, Q29, Q30, Q31, Q32, Q33, Q35, Q36, Q37, Q38, Q39, Q40, Q41, Q42, Q43, Q44, Q45, Q46, Q47, Q48, Q49, Q50, Q51, Q52, Q53, Q54, Q55, Q56, Q57, Q58, Q59, Q60, Q61, Q62, Q63, Q64, Q65, Q66, Q67, Q68, Q69, Q70, Q71, Q72, Q73, Q99, Q100, Q101, Q102, Q103, Q74, Q75, Q77, Q78, Q79, Q80, Q81, Q82, Q83, Q84, clr, List.length_nil, List.length_cons, List.getElem?_cons_zero, List.getElem?_cons_succ, Nat.reduceAdd, Nat.zero_add, Nat.add_zero, Nat.reduceLeDiff, Nat.reduceSub, ↓reduceIte, List.drop_succ_cons, List.drop_zero, List.take_succ_cons, List.take_zero, Bool.false_eq_true, List.nil_append, List.cons_append, Bool.not_true, Bool.not_false, cond_true, cond_false, bne, Q85, Q86, Q87, Q88, Q89, Q90, Q91, Q92, Q93, Q94, Q95, Q96, Q97, Q98, Q110, Q111, Q116, Q117, Q118, Q119, Q120, Q121, Q122, Q123, Option.map_some, Option.map_none]
  | false =>
    rw [q] at hb
    rw [if_neg (by simp)]
    have hB0 : Bd [.box 103 [.v (.pointer none), .own 1 1 0 0 0], .row 5 1 0 [] 0] 0 1 [] := ⟨_, 0, .inl rfl, ⟨rfl, rfl⟩⟩
    obtain ⟨H1, c1, b1, r1, m1⟩ := wbyte_ok hB0 rfl 39 (by decide)
    have hlen1 : H1.length = 2 := r1.1
    have b1' : Bd (H1 ++ [.siter s 0]) 0 1 [39] := by
      obtain ⟨pp, ver, hpp, hbx⟩ := b1
      exact ⟨pp, ver, hpp, ⟨his_get hbx.box, his_get hbx.row⟩⟩
    have m1' : (H1 ++ [AO.siter s 0]).all (AO.below (H1 ++ [AO.siter s 0]).length) = true := by
      rw [List.all_append, Bool.and_eq_true]
      exact ⟨all_below_mono (by simp) m1, rfl⟩
    have i2 : (H1 ++ [AO.siter s 0])[2]? = some (.siter s 0) := by
      rw [List.getElem?_append_right (by omega), hlen1]; rfl
    obtain ⟨x8, x7, H2, lp, b2, m2, _⟩ := cwrite_loop hfmt h255 [.v (.string s), .v (.string ⟨#[]⟩), .ptr 0 0, .v undef, .v (.bool false), .v (.bool false), .it 2, .v undef, .v undef, .v undef, .v undef, .v undef, .v undef, .v undef] (H1 ++ [.siter s 0]) [39] (by decide) b1' i2 m1' rfl
    have hfl : ∀ L : List Nat, (L.flatMap escL).length ≤ 5 * L.length := by
      intro L
      induction L with
      | nil => simp
      | cons c L ih =>
        have := escL_len c
        rw [List.flatMap_cons, List.length_append, List.length_cons]; omega
    have hfl := hfl (runesOf s)
    have hlen := rns_len s s.size 0
    rw [show rns s s.size 0 = runesOf s from rfl] at hlen
    obtain ⟨H3, c2, b3, r3, m3⟩ := wbyte_ok b2 m2 39 (by rw [List.length_append]; simp only [List.length_cons, List.length_nil]; omega)
    obtain ⟨H4, c999003⟩ := b3.string (by simp) (by rw [List.length_append, List.length_append]; simp only [List.length_cons, List.length_nil]; omega)
    have rg : rgV H1 (.v (.string s)) = some (.it 2, H1 ++ [.siter s 0]) := by simp only [rgV, hlen1]
    have fin := cw_false hk hb c1 rg lp c2 c999003
    have eW : ([39] ++ (runesOf s).flatMap escL ++ [39] : List UInt8) = 39 :: ((runesOf s).flatMap escL ++ [39]) := rfl
    rw [← eW]
    exact fin
end Go.AE.YtinhjhkmpknbbaaDoor
end

/-! A builder of the caller's lies ahead of what is made here; how long what is written is; what Write tells of any name. -/
section
set_option linter.unusedVariables false
set_option linter.unusedSimpArgs false
namespace Go.AE.YtinhjhkmpknbbaaDoor
open Go Go.AE Go.Proofs.YtinhjhkmpknbbaaDoor

/-! ### The builder lies ahead of what is made here -/
theorem Bd.app {H tl : List AO} {b rid : Nat} {l : List UInt8} (h : Bd H b rid l) : Bd (H ++ tl) b rid l := by
  obtain ⟨p, ver, hp, hB⟩ := h
  exact ⟨p, ver, hp, ⟨his_get hB.box, his_get hB.row⟩⟩
theorem Bd.lt {H : List AO} {b rid : Nat} {l : List UInt8} (h : Bd H b rid l) : b < H.length ∧ rid < H.length := by
  obtain ⟨p, ver, hp, hB⟩ := h
  exact ⟨(List.getElem?_eq_some_iff.1 hB.box).1, (List.getElem?_eq_some_iff.1 hB.row).1⟩
theorem Bd.cut {H tl : List AO} {b rid : Nat} {l : List UInt8} (h : Bd (H ++ tl) b rid l) (h1 : b < H.length) (h2 : rid < H.length) : Bd H b rid l := by
  obtain ⟨p, ver, hp, hB⟩ := h
  refine ⟨p, ver, hp, ⟨?_, ?_⟩⟩
  · have := hB.box; rwa [List.getElem?_append_left h1] at this
  · have := hB.row; rwa [List.getElem?_append_left h2] at this
theorem Rst.split {H tl K : List AO} {b rid : Nat} (h1 : b < H.length) (h2 : rid < H.length) (a : Rst b rid (H ++ tl) K) : ∃ H', K = H' ++ tl ∧ Rst b rid H H' := by
  have hl := a.1
  rw [List.length_append] at hl
  refine ⟨K.take H.length, ?_, ?_, fun j e1 e2 => ?_⟩
  · refine List.ext_getElem? fun j => ?_
    by_cases hj : j < H.length
    · rw [List.getElem?_append_left (by rw [List.length_take]; omega), List.getElem?_take_of_lt hj]
    · rw [a.2 j (by omega) (by omega), List.getElem?_append_right (by omega), List.getElem?_append_right (by rw [List.length_take]; omega)]
      congr 1
      rw [List.length_take]; omega
  · rw [List.length_take]; omega
  · by_cases hj : j < H.length
    · rw [List.getElem?_take_of_lt hj, a.2 j e1 e2, List.getElem?_append_left hj]
    · rw [List.getElem?_eq_none (by rw [List.length_take]; omega), List.getElem?_eq_none (by omega)]
theorem Bd.bel {H H' : List AO} {b rid : Nat} {l : List UInt8} (hB : Bd H' b rid l) (h : H.all (AO.below H.length) = true) (r : Rst b rid H H') : H'.all (AO.below H'.length) = true := by
  obtain ⟨p, ver, hp, hB⟩ := hB
  have hlb : b < H'.length := (List.getElem?_eq_some_iff.1 hB.box).1
  have hlr : rid < H'.length := (List.getElem?_eq_some_iff.1 hB.row).1
  rw [List.all_eq_true] at h ⊢
  intro o ho
  obtain ⟨j, hj⟩ := List.getElem?_of_mem ho
  by_cases e1 : j = b
  · subst e1
    rw [hB.box] at hj; cases hj
    rcases hp with rfl | rfl <;> simp [AO.below, AV.below1, AV.below0, hlb, hlr]
  · by_cases e2 : j = rid
    · subst e2
      rw [hB.row] at hj; cases hj; rfl
    · rw [r.2 j e1 e2] at hj
      rw [r.1]
      exact h o (List.mem_of_getElem? hj)
theorem app_below {H tl : List AO} (hb : H.all (AO.below H.length) = true) (ht : tl.all (AO.below 0) = true) : (H ++ tl).all (AO.below (H ++ tl).length) = true := by
  rw [List.all_append, Bool.and_eq_true]
  exact ⟨all_below_mono (by simp) hb, all_below_mono (Nat.zero_le _) ht⟩
section
variable {H tl : List AO} {b rid : Nat} {l : List UInt8}
theorem wbyte_app (h : Bd H b rid l) (hb : H.all (AO.below H.length) = true) (ht : tl.all (AO.below 0) = true) (x : UInt8) (hl : l.length ≤ 90000000) :
    ∃ H', callW F 67 [.ptr b 0, .v (.int .u8 x.toNat)] (H ++ tl) = some (.v .nilIface, H' ++ tl) ∧ Bd H' b rid (l ++ [x]) ∧ Rst b rid H H' ∧ H'.all (AO.below H'.length) = true := by
  obtain ⟨K, c1, b1, r1, m1⟩ := wbyte_ok h.app (app_below hb ht) x hl
  obtain ⟨H', rfl, r2⟩ := r1.split h.lt.1 h.lt.2
  have b2 := b1.cut (by rw [r2.1]; exact h.lt.1) (by rw [r2.1]; exact h.lt.2)
  exact ⟨H', c1, b2, r2, b2.bel hb r2⟩
theorem wstr_app (h : Bd H b rid l) (hb : H.all (AO.below H.length) = true) (ht : tl.all (AO.below 0) = true) (s : ByteArray) (hs0 : bl s ≠ []) (hl : l.length + (bl s).length ≤ 100000000) :
    ∃ H', callW F 92 [.ptr b 0, .v (.string s)] (H ++ tl) = some (.tup [.v (.int .i64 s.size), .v .nilIface], H' ++ tl) ∧ Bd H' b rid (l ++ bl s) ∧ Rst b rid H H' ∧ H'.all (AO.below H'.length) = true := by
  obtain ⟨K, c1, b1, r1, m1⟩ := wstr_ok h.app (app_below hb ht) s hs0 hl
  obtain ⟨H', rfl, r2⟩ := r1.split h.lt.1 h.lt.2
  have b2 := b1.cut (by rw [r2.1]; exact h.lt.1) (by rw [r2.1]; exact h.lt.2)
  exact ⟨H', c1, b2, r2, b2.bel hb r2⟩
end
theorem writeL_ne (s : ByteArray) (h : bareS s = true) : bl s ≠ [] := by
  intro e
  have : s = ⟨#[]⟩ := by rw [bl_eta s, e]
  subst this
  exact absurd h (by rw [show bareS ⟨#[]⟩ = false by kernel_rfl]; decide)
theorem writeL_pos (s : ByteArray) : writeL s ≠ [] := by
  unfold writeL
  split
  · rename_i h; exact writeL_ne s h
  · simp
theorem bl_writeL (s : ByteArray) : bl ⟨(writeL s).toArray⟩ = writeL s := by simp [bl]
theorem num_pos (n : Int) : bl (numT n) ≠ [] := by
  have := decD_pos n.natAbs
  intro e
  have e2 : (bl (numT n)).length = 0 := by rw [e]; rfl
  simp only [bl, numT, List.length_append] at e2
  omega
theorem fmt_tab : (List.range 32).map (fun (c : Nat) => callN F 40 116 [.v (.int .i64 (c : Int)), .v (.int .i64 16)] []) = (List.range 32).map fun (c : Nat) => some (.v (.string ⟨(hexL c).toArray⟩), []) := by kernel_rfl
theorem hfmt (c : Nat) (h : c < 32) : callW F 116 [.v (.int .i64 (c : Int)), .v (.int .i64 16)] [] = some (.v (.string ⟨(hexL c).toArray⟩), []) :=
  callW_iff.2 ⟨40, List.map_inj_left.1 fmt_tab c (List.mem_range.2 h)⟩
/-! ### How long a text is -/
theorem writeL_len {s : ByteArray} (h : chkS s = true) : (writeL s).length ≤ 1277 := by
  have h255 : s.size ≤ 255 := by
    simp only [chkS, Bool.and_eq_true] at h
    have := of_decide_eq_true h.1
    omega
  unfold writeL
  split
  · have : (bl s).length = s.size := by simp only [bl, ByteArray.size, Array.length_toList]
    omega
  · have hfl : ∀ L : List Nat, (L.flatMap escL).length ≤ 5 * L.length := by
      intro L
      induction L with
      | nil => simp
      | cons c L ih =>
        have := escL_len c
        rw [List.flatMap_cons, List.length_append, List.length_cons]; omega
    have h1 := hfl (runesOf s)
    have h2 := rns_len s s.size 0
    rw [show rns s s.size 0 = runesOf s from rfl] at h2
    rw [List.length_cons, List.length_append]
    simp only [List.length_cons, List.length_nil]
    omega
theorem numT_len {n : Int} (h : rg n) : (bl (numT n)).length ≤ 21 := by
  have h1 := decD_20 (n := n.natAbs) (by unfold rg at h; omega)
  have e : bl (numT n) = (if decide (n < 0) = true then [45] else []) ++ decD n.natAbs := by simp only [bl, numT]
  rw [e, List.length_append]
  split <;> simp only [List.length_cons, List.length_nil] <;> omega
/-! ### Any name -/
def wrS (s : ByteArray) : List UInt8 := if chkS s = true then writeL s else []
theorem wrS_len (s : ByteArray) : (wrS s).length ≤ 1277 := by
  unfold wrS
  split
  · rename_i h; exact writeL_len h
  · simp
theorem write_any (s : ByteArray) : callW F 93 [.v (.string s)] [] = some (.v (.string ⟨(wrS s).toArray⟩), []) := by
  unfold wrS
  cases h : chkS s with
  | true => rw [if_pos rfl]; exact cwrite_ok hfmt h
  | false =>
    have hk := chk_ok s
    rw [h] at hk
    refine callW_pure (c := c93) rfl rfl 0 ?_
    simp only [c93, start, List.replicate, c93_0, c93_1, c93_2, hk, snap_str, Bool.not_false, Q0, Q1, Q2, Q3, Q4, Q5, Q6, Q7, Q8, Q9, Q10, Q11, Q12, Q13, Q14, Q15, Q16, Q17, Q18, Q19, Q20, Q21, Q22, Q23, Q24, Q25, Q26, Q27, Q28, Q29, Q30, Q31, Q32, Q33, Q35, Q36, Q37, Q38, Q39, Q40, Q41, Q42, Q43, Q44, Q45, Q46, Q47, Q48, Q49, Q50, Q51, Q52, Q53, Q54, Q55, Q56, Q57, Q58, Q59, Q60, Q61, Q62, Q63, Q64, Q65, Q66, Q67, Q68, Q69, Q70, Q71, Q72, Q73, Q99, Q100, Q101, Q102, Q103, Q74, Q75, Q77, Q78, Q79, Q80, Q81, Q82, Q83, Q84, clr, List.length_nil, List.length_cons, List.getElem?_cons_zero, List.getElem?_cons_succ, Nat.reduceAdd, Nat.zero_add, Nat.add_zero, Nat.reduceLeDiff, Nat.reduceSub, ↓reduceIte, List.drop_succ_cons, List.drop_zero, List.take_succ_cons, List.take_zero, Bool.false_eq_true, List.nil_append, List.cons_append, Bool.not_true, Bool.not_false, cond_true, cond_false, bne, Q85, Q86, Q87, Q88, Q89, Q90, Q91, Q92, Q93, Q94, Q95, Q96, Q97, Q98, Q110, Q111, Q116, Q117, Q118, Q119, Q120, Q121, Q122, Q123, Option.map_some, Option.map_none, Q34]
theorem rwrite_any (s : ByteArray) : callW F 100 [.v (.string s)] [] = some (.v (.string ⟨(wrS s).toArray⟩), []) := by
  unfold wrS
  cases h : chkS s with
  | true => rw [if_pos rfl]; exact rwrite_ok h
  | false =>
    have hk := rchk_ok s
    rw [h] at hk
    refine callW_pure (c := c100) rfl rfl 0 ?_
    simp only [c100, start, List.replicate, c100_0, c100_1, c100_2, hk, snap_str, Bool.not_false, Q0, Q1, Q2, Q3, Q4, Q5, Q6, Q7, Q8, Q9, Q10, Q11, Q12, Q13, Q14, Q15, Q16, Q17, Q18, Q19, Q20, Q21, Q22, Q23, Q24, Q25, Q26, Q27, Q28, Q29, Q30, Q31, Q32, Q33, Q35, Q36, Q37, Q38, Q39, Q40, Q41, Q42, Q43, Q44, Q45, Q46, Q47, Q48, Q49, Q50, Q51, Q52, Q53, Q54, Q55, Q56, Q57, Q58, Q59, Q60, Q61, Q62, Q63, Q64, Q65, Q66, Q67, Q68, Q69, Q70, Q71, Q72, Q73, Q99, Q100, Q101, Q102, Q103, Q74, Q75, Q77, Q78, Q79, Q80, Q81, Q82, Q83, Q84, clr, List.length_nil, List.length_cons, List.getElem?_cons_zero, List.getElem?_cons_succ, Nat.reduceAdd, Nat.zero_add, Nat.add_zero, Nat.reduceLeDiff, Nat.reduceSub, ↓reduceIte, List.drop_succ_cons, List.drop_zero, List.take_succ_cons, List.take_zero, Bool.false_eq_true, List.nil_append, List.cons_append, Bool.not_true, Bool.not_false, cond_true, cond_false, bne, Q85, Q86, Q87, Q88, Q89, Q90, Q91, Q92, Q93, Q94, Q95, Q96, Q97, Q98, Q110, Q111, Q116, Q117, Q118, Q119, Q120, Q121, Q122, Q123, Option.map_some, Option.map_none, Q34]
end Go.AE.YtinhjhkmpknbbaaDoor
end

/-! An instruction's text, written into a builder of the caller's: its leaves. -/
section
set_option linter.unusedVariables false
set_option linter.unusedSimpArgs false
namespace Go.AE.YtinhjhkmpknbbaaDoor
open Go Go.AE Go.Proofs.YtinhjhkmpknbbaaDoor

structure In where
  op : Int
  a : Int
  b : Int
  nm : ByteArray
  n : Int
def inC (i : In) : List AV := [.v (.int .i64 i.op), .v (.int .i64 i.a), .v (.int .i64 i.b), .v (.string i.nm), .v (.int .i64 i.n)]
def tl (b : Nat) (i : In) : List AO := [.box 100 [.ptr b 0], .box 58 (inC i)]
theorem tl0 {b : Nat} {i : In} : ldAt (tl b i) 0 false 1 0 = some (.ptr b 0) := rfl
theorem tlO {b : Nat} {i : In} : ldAt (tl b i) 1 false 1 0 = some (.v (.int .i64 i.op)) := rfl
theorem tlA {b : Nat} {i : In} : ldAt (tl b i) 1 false 1 1 = some (.v (.int .i64 i.a)) := rfl
theorem tlB {b : Nat} {i : In} : ldAt (tl b i) 1 false 1 2 = some (.v (.int .i64 i.b)) := rfl
theorem tlM {b : Nat} {i : In} : ldAt (tl b i) 1 false 1 3 = some (.v (.string i.nm)) := rfl
theorem tlN {b : Nat} {i : In} : ldAt (tl b i) 1 false 1 4 = some (.v (.int .i64 i.n)) := rfl
section
variable {H H1 : List AO} {b K : Nat} {i : In} {vars : List AV} {x : AV}
theorem t_ld {a : Bool} {sz k o : Nat} {l : List AO} : Q76 (H ++ l) a sz (.ptr (H.length + k) o) = ldAt l k a sz o := own_ld rfl
theorem t_ld0 {a : Bool} {sz o : Nat} {l : List AO} : Q76 (H ++ l) a sz (.ptr H.length o) = ldAt l 0 a sz o := own_ld0 rfl
theorem leafS {S : ByteArray} (h2 : ∀ env, getO vars env (.var 2) = .ptr H.length 0) (d : callW F 92 [.ptr b 0, .v (.string S)] (H ++ tl b i) = some (x, H1 ++ tl b i)) :
    exec (callW F) K (.region [] [] [⟨(.load false 1 (.var 2)), none, none⟩, ⟨(.call false 92 [(.loc 0), (.k (.string S))]), none, none⟩]) vars (H ++ tl b i) = some (.normal, vars, H1 ++ tl b i) := by
  simp only [h2, t_ld0, tl0, e_callh, List.map_cons, List.map_nil, d, Q0, Q1, Q2, Q3, Q4, Q5, Q6, Q7, Q8, Q9, Q10, Q11, Q12, Q13, Q14, Q15, Q16, Q17, Q18, Q19, Q20, Q21, Q22, Q23, Q24, Q25, Q26, Q27, Q28, Q29, Q30, Q31, Q32, Q33, Q35, Q36, Q37, Q38, Q39, Q40, Q41, Q42, Q43, Q44, Q45, Q46, Q47, Q48, Q49, Q50, Q51, Q52, Q53, Q54, Q55, Q56, Q57, Q58, Q59, Q60, Q61, Q62, Q63, Q64, Q65, Q66, Q67, Q68, Q69, Q70, Q71, Q72, Q73, Q99, Q100, Q101, Q102, Q103, Q74, Q75, Q77, Q78, Q79, Q80, Q81, Q82, Q83, Q84, clr, List.length_nil, List.length_cons, List.getElem?_cons_zero, List.getElem?_cons_succ, Nat.reduceAdd, Nat.zero_add, Nat.add_zero, Nat.reduceLeDiff, Nat.reduceSub, ↓reduceIte, List.drop_succ_cons, List.drop_zero, List.take_succ_cons, List.take_zero, Bool.false_eq_true, List.nil_append, List.cons_append, Bool.not_true, Bool.not_false, cond_true, cond_false, bne, Q85, Q86, Q87, Q88, Q89, Q90, Q91, Q92, Q93, Q94, Q95, Q96, Q97, Q98, Q110, Q111, Q116, Q117, Q118, Q119, Q120, Q121, Q122, Q123, Option.map_some, Option.map_none, Q34]
theorem leafN {o : Nat} {y : Int} {S R Y : ByteArray} (h2 : ∀ env, getO vars env (.var 2) = .ptr H.length 0) (h3 : ∀ env, getO vars env (.var 3) = .ptr (H.length + 1) 0) (hl : ldAt (tl b i) 1 false 1 o = some (.v (.int .i64 y)))
    (hn : callW F 94 [.v (.int .i64 y)] [] = some (.v (.string S), [])) (a1 : Q78 .add (.v (.string Y)) (.v (.string S)) = some (.v (.string R))) (d : callW F 92 [.ptr b 0, .v (.string R)] (H ++ tl b i) = some (x, H1 ++ tl b i)) :
    exec (callW F) K (.region [] [] [⟨(.load false 1 (.var 2)), none, none⟩, ⟨(.fa o (.var 3)), none, none⟩, ⟨(.load false 1 (.loc 0)), none, none⟩, ⟨(.call true 94 [(.loc 0)]), none, none⟩, ⟨(.bin .add (.k (.string Y)) (.loc 0)), none, none⟩, ⟨(.call false 92 [(.loc 4), (.loc 0)]), none, none⟩]) vars (H ++ tl b i) = some (.normal, vars, H1 ++ tl b i) := by
  simp only [h2, h3, t_ld0, t_ld, tl0, hl, hn, a1, snap_int, e_callh, List.map_cons, List.map_nil, d, Q0, Q1, Q2, Q3, Q4, Q5, Q6, Q7, Q8, Q9, Q10, Q11, Q12, Q13, Q14, Q15, Q16, Q17, Q18, Q19, Q20, Q21, Q22, Q23, Q24, Q25, Q26, Q27, Q28, Q29, Q30, Q31, Q32, Q33, Q35, Q36, Q37, Q38, Q39, Q40, Q41, Q42, Q43, Q44, Q45, Q46, Q47, Q48, Q49, Q50, Q51, Q52, Q53, Q54, Q55, Q56, Q57, Q58, Q59, Q60, Q61, Q62, Q63, Q64, Q65, Q66, Q67, Q68, Q69, Q70, Q71, Q72, Q73, Q99, Q100, Q101, Q102, Q103, Q74, Q75, Q77, Q78, Q79, Q80, Q81, Q82, Q83, Q84, clr, List.length_nil, List.length_cons, List.getElem?_cons_zero, List.getElem?_cons_succ, Nat.reduceAdd, Nat.zero_add, Nat.add_zero, Nat.reduceLeDiff, Nat.reduceSub, ↓reduceIte, List.drop_succ_cons, List.drop_zero, List.take_succ_cons, List.take_zero, Bool.false_eq_true, List.nil_append, List.cons_append, Bool.not_true, Bool.not_false, cond_true, cond_false, bne, Q85, Q86, Q87, Q88, Q89, Q90, Q91, Q92, Q93, Q94, Q95, Q96, Q97, Q98, Q110, Q111, Q116, Q117, Q118, Q119, Q120, Q121, Q122, Q123, Option.map_some, Option.map_none, Q34, -Q78]
theorem leafM {S R Y : ByteArray} (h2 : ∀ env, getO vars env (.var 2) = .ptr H.length 0) (h3 : ∀ env, getO vars env (.var 3) = .ptr (H.length + 1) 0)
    (hn : callW F 93 [.v (.string i.nm)] [] = some (.v (.string S), [])) (a1 : Q78 .add (.v (.string Y)) (.v (.string S)) = some (.v (.string R))) (d : callW F 92 [.ptr b 0, .v (.string R)] (H ++ tl b i) = some (x, H1 ++ tl b i)) :
    exec (callW F) K (.region [] [] [⟨(.load false 1 (.var 2)), none, none⟩, ⟨(.fa 3 (.var 3)), none, none⟩, ⟨(.load false 1 (.loc 0)), none, none⟩, ⟨(.call true 93 [(.loc 0)]), none, none⟩, ⟨(.bin .add (.k (.string Y)) (.loc 0)), none, none⟩, ⟨(.call false 92 [(.loc 4), (.loc 0)]), none, none⟩]) vars (H ++ tl b i) = some (.normal, vars, H1 ++ tl b i) := by
  simp only [h2, h3, t_ld0, t_ld, tl0, tlM, hn, a1, snap_str, e_callh, List.map_cons, List.map_nil, d, Q0, Q1, Q2, Q3, Q4, Q5, Q6, Q7, Q8, Q9, Q10, Q11, Q12, Q13, Q14, Q15, Q16, Q17, Q18, Q19, Q20, Q21, Q22, Q23, Q24, Q25, Q26, Q27, Q28, Q29, Q30, Q31, Q32, Q33, Q35, Q36, Q37, Q38, Q39, Q40, Q41, Q42, Q43, Q44, Q45, Q46, Q47, Q48, Q49, Q50, Q51, Q52, Q53, Q54, Q55, Q56, Q57, Q58, Q59, Q60, Q61, Q62, Q63, Q64, Q65, Q66, Q67, Q68, Q69, Q70, Q71, Q72, Q73, Q99, Q100, Q101, Q102, Q103, Q74, Q75, Q77, Q78, Q79, Q80, Q81, Q82, Q83, Q84, clr, List.length_nil, List.length_cons, List.getElem?_cons_zero, List.getElem?_cons_succ, Nat.reduceAdd, Nat.zero_add, Nat.add_zero, Nat.reduceLeDiff, Nat.reduceSub, ↓reduceIte, List.drop_succ_cons, List.drop_zero, List.take_succ_cons, List.take_zero, Bool.false_eq_true, List.nil_append, List.cons_append, Bool.not_true, Bool.not_false, cond_true, cond_false, bne, Q85, Q86, Q87, Q88, Q89, Q90, Q91, Q92, Q93, Q94, Q95, Q96, Q97, Q98, Q110, Q111, Q116, Q117, Q118, Q119, Q120, Q121, Q122, Q123, Option.map_some, Option.map_none, Q34, -Q78]
theorem lvn {c : CFun} {H l : List AO} {vars : List AV} (hr : c.res = []) (hb : H.all (AO.below H.length) = true) {B : Nat} (hB : H.length = B) : leave B c (some (.normal, vars, H ++ l)) = some (.tup [], H) := by
  subst hB
  have h1 := leave_own (c := c) (vars := vars) (H := H) (l := l) rfl hb
  have h2 : leave H.length c (some (.normal, vars, H ++ l)) = leave H.length c (some (.ret, vars, H ++ l)) := rfl
  rw [h2, h1, hr]
  rfl
theorem call_leaf {S1 S2 R1 R2 R3 Y Z : ByteArray} (hn : callW F 93 [.v (.string i.nm)] [] = some (.v (.string S1), [])) (hm : callW F 94 [.v (.int .i64 i.n)] [] = some (.v (.string S2), []))
    (a1 : Q78 .add (.v (.string Y)) (.v (.string S1)) = some (.v (.string R1))) (a2 : Q78 .add (.v (.string R1)) (.v (.string Z)) = some (.v (.string R2))) (a3 : Q78 .add (.v (.string R2)) (.v (.string S2)) = some (.v (.string R3)))
    (d : callW F 92 [.ptr b 0, .v (.string R3)] (H ++ tl b i) = some (x, H1 ++ tl b i)) :
    exec (callW F) K (.region [] [] [⟨(.load false 1 (.var 0)), none, none⟩, ⟨(.fa 3 (.var 1)), none, none⟩, ⟨(.load false 1 (.loc 0)), none, none⟩, ⟨(.call true 93 [(.loc 0)]), none, none⟩, ⟨(.bin .add (.k (.string Y)) (.loc 0)), none, none⟩, ⟨(.bin .add (.loc 0) (.k (.string Z))), none, none⟩, ⟨(.fa 4 (.var 1)), none, none⟩, ⟨(.load false 1 (.loc 0)), none, none⟩, ⟨(.call true 94 [(.loc 0)]), none, none⟩, ⟨(.bin .add (.loc 3) (.loc 0)), none, none⟩, ⟨(.call false 92 [(.loc 9), (.loc 0)]), none, none⟩]) [.ptr H.length 0, .ptr (H.length + 1) 0] (H ++ tl b i) = some (.normal, [.ptr H.length 0, .ptr (H.length + 1) 0], H1 ++ tl b i) := by
  simp only [t_ld0, t_ld, tl0, tlM, tlN, hn, hm, a1, a2, a3, snap_str, snap_int, e_callh, List.map_cons, List.map_nil, d, Q0, Q1, Q2, Q3, Q4, Q5, Q6, Q7, Q8, Q9, Q10, Q11, Q12, Q13, Q14, Q15, Q16, Q17, Q18, Q19, Q20, Q21, Q22, Q23, Q24, Q25, Q26, Q27, Q28, Q29, Q30, Q31, Q32, Q33, Q35, Q36, Q37, Q38, Q39, Q40, Q41, Q42, Q43, Q44, Q45, Q46, Q47, Q48, Q49, Q50, Q51, Q52, Q53, Q54, Q55, Q56, Q57, Q58, Q59, Q60, Q61, Q62, Q63, Q64, Q65, Q66, Q67, Q68, Q69, Q70, Q71, Q72, Q73, Q99, Q100, Q101, Q102, Q103, Q74, Q75, Q77, Q78, Q79, Q80, Q81, Q82, Q83, Q84, clr, List.length_nil, List.length_cons, List.getElem?_cons_zero, List.getElem?_cons_succ, Nat.reduceAdd, Nat.zero_add, Nat.add_zero, Nat.reduceLeDiff, Nat.reduceSub, ↓reduceIte, List.drop_succ_cons, List.drop_zero, List.take_succ_cons, List.take_zero, Bool.false_eq_true, List.nil_append, List.cons_append, Bool.not_true, Bool.not_false, cond_true, cond_false, bne, Q85, Q86, Q87, Q88, Q89, Q90, Q91, Q92, Q93, Q94, Q95, Q96, Q97, Q98, Q110, Q111, Q116, Q117, Q118, Q119, Q120, Q121, Q122, Q123, Option.map_some, Option.map_none, Q34, -Q78]
end
def callL (i : In) : List UInt8 := 32 :: (wrS i.nm ++ 47 :: bl (numT i.n))
theorem cstr (S : ByteArray) : S = ⟨(bl S).toArray⟩ := bl_eta S
theorem call_ok {H : List AO} {b rid : Nat} {q : List UInt8} {i : In} (hr : rg i.n) (h : Bd H b rid q) (hb : H.all (AO.below H.length) = true) (ht : (tl b i).all (AO.below (H ++ tl b i).length) = true) (hlq : q.length ≤ 80000000)
    (hw : ∀ (s : ByteArray), bl s ≠ [] → q.length + (bl s).length ≤ 100000000 → ∃ H', callW F 92 [.ptr b 0, .v (.string s)] (H ++ tl b i) = some (.tup [.v (.int .i64 s.size), .v .nilIface], H' ++ tl b i) ∧ Bd H' b rid (q ++ bl s) ∧ Rst b rid H H' ∧ H'.all (AO.below H'.length) = true) :
    ∃ H', callW F 91 [.ptr H.length 0, .ptr (H.length + 1) 0] (H ++ tl b i) = some (.tup [], H' ++ tl b i) ∧ Bd H' b rid (q ++ callL i) ∧ Rst b rid H H' ∧ H'.all (AO.below H'.length) = true := by
  have hn := write_any i.nm
  have hm := num_ok hr
  have l1 := wrS_len i.nm
  have l2 := numT_len hr
  have a1 := addS (x := [32]) (y := wrS i.nm) (z := 32 :: wrS i.nm) (by simp only [List.length_cons, List.length_nil]; omega) rfl
  have a2 := addS (x := 32 :: wrS i.nm) (y := [47]) (z := 32 :: (wrS i.nm ++ [47])) (by simp only [List.length_cons, List.length_nil]; omega) rfl
  have a3 := addS (x := 32 :: (wrS i.nm ++ [47])) (y := bl (numT i.n)) (z := callL i) (by simp only [List.length_cons, List.length_append, List.length_nil]; omega) (by simp [callL])
  rw [← cstr (numT i.n)] at a3
  have hcl : (callL i).length ≤ 1400 := by simp only [callL, List.length_cons, List.length_append]; omega
  have hbl : bl ⟨(callL i).toArray⟩ = callL i := by simp [bl]
  obtain ⟨H', d, b1, r1, m1⟩ := hw ⟨(callL i).toArray⟩ (by rw [hbl]; simp [callL]) (by rw [hbl]; omega)
  rw [hbl] at b1
  refine ⟨H', callW_own (c := c91) rfl rfl 0 ?_, b1, r1, m1⟩
  have body : exec (callW F) 0 c91.body (start c91 [.ptr H.length 0, .ptr (H.length + 1) 0]) ((H ++ tl b i) ++ []) = some (.normal, [.ptr H.length 0, .ptr (H.length + 1) 0], (H' ++ tl b i) ++ []) := by
    rw [List.append_nil, List.append_nil]
    exact call_leaf hn hm a1 a2 a3 d
  rw [body]
  refine lvn rfl ?_ (by rw [List.length_append, List.length_append, r1.1])
  rw [List.all_append, Bool.and_eq_true]
  refine ⟨all_below_mono (by simp) m1, ?_⟩
  rw [List.length_append] at ht ⊢
  rw [r1.1]; exact ht
end Go.AE.YtinhjhkmpknbbaaDoor
end

/-! An instruction's text: the program's line, walked. -/
section
set_option linter.unusedVariables false
set_option linter.unusedSimpArgs false
namespace Go.AE.YtinhjhkmpknbbaaDoor
open Go Go.AE Go.Proofs.YtinhjhkmpknbbaaDoor

def rn (r : Nat) : ByteArray := [(⟨#[103, 101, 116]⟩ : ByteArray), ⟨#[117, 110, 105]⟩, ⟨#[112, 117, 116]⟩, ⟨#[115, 101, 116]⟩].getD r ⟨#[]⟩
def kn (k : Nat) : ByteArray := [(⟨#[118, 97, 114]⟩ : ByteArray), ⟨#[118, 97, 108]⟩, ⟨#[97, 116, 111, 109]⟩, ⟨#[105, 110, 116]⟩, ⟨#[99, 111, 109, 112]⟩].getD k ⟨#[]⟩
def tempS : ByteArray := ⟨#[116, 101, 109, 112]⟩
def nmS (r k : Nat) : ByteArray := if ((r % 2 == 1) && (k == 4)) = true then tempS else kn k
def sEq (a b : ByteArray) : Bool := a.toList == b.toList
def isReg (N : ByteArray) : Bool := sEq N ⟨#[118, 97, 114]⟩ || (sEq N ⟨#[118, 97, 108]⟩ || sEq N tempS)
def lastL (i : In) (N : ByteArray) : List UInt8 := if isReg N = true then 32 :: bl (numT i.b) else if sEq N ⟨#[97, 116, 111, 109]⟩ = true then 32 :: wrS i.nm else if sEq N ⟨#[105, 110, 116]⟩ = true then 32 :: bl (numT i.n) else callL i
def midL (i : In) (r : Nat) : List UInt8 := if (r % 2 == 0) = true then 32 :: bl (numT i.a) else []
def lineL (i : In) : List UInt8 :=
  if (i.op == 21) = true then [99, 97, 108, 108] ++ callL i
  else if (i.op == 22) = true then [99, 117, 116]
  else if (i.op == 23) = true then [101, 110, 100]
  else if (decide (i.op < 1) || decide (i.op > 20)) = true then [63]
  else bl (rn ((i.op - 1) / 5).toNat) ++ 95 :: (bl (nmS ((i.op - 1) / 5).toNat ((i.op - 1) % 5).toNat) ++ (midL i ((i.op - 1) / 5).toNat ++ lastL i (nmS ((i.op - 1) / 5).toNat ((i.op - 1) % 5).toNat)))
def rowsV : AV := .agg [.v (.string (rn 0)), .v (.string (rn 1)), .v (.string (rn 2)), .v (.string (rn 3))]
def kindsV : AV := .agg [.v (.string (kn 0)), .v (.string (kn 1)), .v (.string (kn 2)), .v (.string (kn 3)), .v (.string (kn 4))]
theorem rows_n : callN F 10 96 [] [] = some (rowsV, []) := by kernel_rfl
theorem rows_ok : callW F 96 [] [] = some (rowsV, []) := callW_iff.2 ⟨_, rows_n⟩
theorem kinds_n : callN F 10 95 [] [] = some (kindsV, []) := by kernel_rfl
theorem kinds_ok : callW F 95 [] [] = some (kindsV, []) := callW_iff.2 ⟨_, kinds_n⟩
theorem rows_at {r : Nat} (h : r < 4) : ixaV 4 false 1 rowsV (some r) = some (.v (.string (rn r))) := by
  match r, h with
  | 0, _ => rfl
  | 1, _ => rfl
  | 2, _ => rfl
  | 3, _ => rfl
theorem kinds_at {k : Nat} (h : k < 5) : ixaV 5 false 1 kindsV (some k) = some (.v (.string (kn k))) := by
  match k, h with
  | 0, _ => rfl
  | 1, _ => rfl
  | 2, _ => rfl
  | 3, _ => rfl
  | 4, _ => rfl
theorem rn_len (r : Nat) : (bl (rn r)).length ≤ 3 := by
  match r with
  | 0 => decide
  | 1 => decide
  | 2 => decide
  | 3 => decide
  | r + 4 => simp [rn, bl]
theorem nm_len (r k : Nat) : (bl (nmS r k)).length ≤ 4 := by
  unfold nmS
  split
  · decide
  · match k with
    | 0 => decide
    | 1 => decide
    | 2 => decide
    | 3 => decide
    | 4 => decide
    | k + 5 => simp [kn, bl]
theorem leafR {H H1 : List AO} {b K : Nat} {i : In} {vars : List AV} {x V : AV} {r : Nat} {T0 T1 T2 N Y : ByteArray} (h2 : ∀ env, getO vars env (.var 2) = .ptr H.length 0) (h5 : ∀ env, getO vars env (.var 5) = .v (.int .i64 r)) (h7 : ∀ env, getO vars env (.var 7) = .v (.string N)) (hc : callW F 96 [] [] = some (V, [])) (hx : ixaV 4 false 1 V (some r) = some (.v (.string T0)))
    (a1 : Q78 .add (.v (.string T0)) (.v (.string Y)) = some (.v (.string T1))) (a2 : Q78 .add (.v (.string T1)) (.v (.string N)) = some (.v (.string T2))) (d : callW F 92 [.ptr b 0, .v (.string T2)] (H ++ tl b i) = some (x, H1 ++ tl b i)) :
    exec (callW F) K (.region [] [] [⟨(.load false 1 (.var 2)), none, none⟩, ⟨(.call true 96 []), none, none⟩, ⟨(.mov (.var 5)), none, none⟩, ⟨(.ixa 4 false 1 (.loc 1) (.loc 0)), none, none⟩, ⟨(.bin .add (.loc 0) (.k (.string Y))), none, none⟩, ⟨(.mov (.var 7)), none, none⟩, ⟨(.bin .add (.loc 1) (.loc 0)), none, none⟩, ⟨(.call false 92 [(.loc 6), (.loc 0)]), none, none⟩]) vars (H ++ tl b i) = some (.normal, vars, H1 ++ tl b i) := by
  have hn : natV (.v (.int .i64 (r : Int))) = some r := Q48
  simp only [h2, h5, h7, t_ld0, tl0, hc, e_ixa, hn, hx, a1, a2, e_callh, List.map_cons, List.map_nil, d, Q0, Q1, Q2, Q3, Q4, Q5, Q6, Q7, Q8, Q9, Q10, Q11, Q12, Q13, Q14, Q15, Q16, Q17, Q18, Q19, Q20, Q21, Q22, Q23, Q24, Q25, Q26, Q27, Q28, Q29, Q30, Q31, Q32, Q33, Q35, Q36, Q37, Q38, Q39, Q40, Q41, Q42, Q43, Q44, Q45, Q46, Q47, Q48, Q49, Q50, Q51, Q52, Q53, Q54, Q55, Q56, Q57, Q58, Q59, Q60, Q61, Q62, Q63, Q64, Q65, Q66, Q67, Q68, Q69, Q70, Q71, Q72, Q73, Q99, Q100, Q101, Q102, Q103, Q74, Q75, Q77, Q78, Q79, Q80, Q81, Q82, Q83, Q84, clr, List.length_nil, List.length_cons, List.getElem?_cons_zero, List.getElem?_cons_succ, Nat.reduceAdd, Nat.zero_add, Nat.add_zero, Nat.reduceLeDiff, Nat.reduceSub, ↓reduceIte, List.drop_succ_cons, List.drop_zero, List.take_succ_cons, List.take_zero, Bool.false_eq_true, List.nil_append, List.cons_append, Bool.not_true, Bool.not_false, cond_true, cond_false, bne, Q85, Q86, Q87, Q88, Q89, Q90, Q91, Q92, Q93, Q94, Q95, Q96, Q97, Q98, Q110, Q111, Q116, Q117, Q118, Q119, Q120, Q121, Q122, Q123, Option.map_some, Option.map_none, Q34, -Q78]
def cv (call : CallF) (h : List AO) (xs : List AV) : AV → Option (AV × List AO)
  | .fn (.func f) first cap => call f (first ++ xs ++ cap) h
  | _ => none
theorem e_callv {call : CallF} {vars env : List AV} {h : List AO} {x : Opd} {args : List Opd} : evOp call vars env h (.callv x args) = cv call h (args.map (getO vars env)) (getO vars env x) := by
  simp only [evOp, cv]
  rfl
theorem cv_fn {call : CallF} {h : List AO} {f : FuncId} {xs first cap : List AV} : cv call h xs (.fn (.func f) first cap) = call f (first ++ xs ++ cap) h := rfl
theorem leafC {H H1 : List AO} {b K : Nat} {i : In} {vars : List AV} {x : AV} (h4 : ∀ env, getO vars env (.var 4) = .fn (.func 91) [] [.ptr H.length 0, .ptr (H.length + 1) 0]) (d : callW F 91 [.ptr H.length 0, .ptr (H.length + 1) 0] (H ++ tl b i) = some (x, H1 ++ tl b i)) :
    exec (callW F) K (.region [] [] [⟨(.mov (.var 4)), none, none⟩, ⟨(.callv (.loc 0) []), none, none⟩]) vars (H ++ tl b i) = some (.normal, vars, H1 ++ tl b i) := by
  simp only [h4, e_callv, cv_fn, List.map_cons, List.map_nil, d, Q0, Q1, Q2, Q3, Q4, Q5, Q6, Q7, Q8, Q9, Q10, Q11, Q12, Q13, Q14, Q15, Q16, Q17, Q18, Q19, Q20, Q21, Q22, Q23, Q24, Q25, Q26, Q27, Q28, Q29, Q30, Q31, Q32, Q33, Q35, Q36, Q37, Q38, Q39, Q40, Q41, Q42, Q43, Q44, Q45, Q46, Q47, Q48, Q49, Q50, Q51, Q52, Q53, Q54, Q55, Q56, Q57, Q58, Q59, Q60, Q61, Q62, Q63, Q64, Q65, Q66, Q67, Q68, Q69, Q70, Q71, Q72, Q73, Q99, Q100, Q101, Q102, Q103, Q74, Q75, Q77, Q78, Q79, Q80, Q81, Q82, Q83, Q84, clr, List.length_nil, List.length_cons, List.getElem?_cons_zero, List.getElem?_cons_succ, Nat.reduceAdd, Nat.zero_add, Nat.add_zero, Nat.reduceLeDiff, Nat.reduceSub, ↓reduceIte, List.drop_succ_cons, List.drop_zero, List.take_succ_cons, List.take_zero, Bool.false_eq_true, List.nil_append, List.cons_append, Bool.not_true, Bool.not_false, cond_true, cond_false, bne, Q85, Q86, Q87, Q88, Q89, Q90, Q91, Q92, Q93, Q94, Q95, Q96, Q97, Q98, Q110, Q111, Q116, Q117, Q118, Q119, Q120, Q121, Q122, Q123, Option.map_some, Option.map_none, Q34]
theorem w92 {H : List AO} {b rid : Nat} {q : List UInt8} {i : In} (h : Bd H b rid q) (hb : H.all (AO.below H.length) = true) (s : ByteArray) (hs : bl s ≠ []) (hl : q.length + (bl s).length ≤ 100000000) :
    ∃ H', callW F 92 [.ptr b 0, .v (.string s)] (H ++ tl b i) = some (.tup [.v (.int .i64 s.size), .v .nilIface], H' ++ tl b i) ∧ Bd H' b rid (q ++ bl s) ∧ Rst b rid H H' ∧ H'.all (AO.below H'.length) = true := by
  have hbl : (tl b i).all (AO.below (H ++ tl b i).length) = true := by
    have := h.lt.1
    have h2 : b < (H ++ tl b i).length := by rw [List.length_append]; omega
    simp only [tl, inC] at h2 ⊢
    simp [AO.below, AV.below1, AV.below0]
    simp at h2
    omega
  have hb2 : (H ++ tl b i).all (AO.below (H ++ tl b i).length) = true := by
    rw [List.all_append, Bool.and_eq_true]
    exact ⟨all_below_mono (by simp) hb, hbl⟩
  obtain ⟨K, c1, b1, r1, m1⟩ := wstr_ok (h.app (tl := tl b i)) hb2 s hs hl
  obtain ⟨H', rfl, r2⟩ := r1.split h.lt.1 h.lt.2
  have b2 := b1.cut (by rw [r2.1]; exact h.lt.1) (by rw [r2.1]; exact h.lt.2)
  exact ⟨H', c1, b2, r2, b2.bel hb r2⟩
theorem tl_bel {H : List AO} {b rid : Nat} {q : List UInt8} {i : In} (h : Bd H b rid q) : (tl b i).all (AO.below (H ++ tl b i).length) = true := by
  have := h.lt.1
  have h2 : b < (H ++ tl b i).length := by rw [List.length_append]; omega
  simp only [tl, inC] at h2 ⊢
  simp [AO.below, AV.below1, AV.below0]
  simp at h2
  omega
theorem c91_ok {H : List AO} {b rid : Nat} {q : List UInt8} {i : In} (hr : rg i.n) (h : Bd H b rid q) (hb : H.all (AO.below H.length) = true) (hlq : q.length ≤ 80000000) :
    ∃ H', callW F 91 [.ptr H.length 0, .ptr (H.length + 1) 0] (H ++ tl b i) = some (.tup [], H' ++ tl b i) ∧ Bd H' b rid (q ++ callL i) ∧ Rst b rid H H' ∧ H'.all (AO.below H'.length) = true :=
  call_ok hr h hb (tl_bel h) hlq fun s hs hl => w92 h hb s hs hl
theorem lvr {c : CFun} {H l : List AO} {vars : List AV} (hr : c.res = []) (hb : H.all (AO.below H.length) = true) {B : Nat} (hB : H.length = B) : leave B c (some (.ret, vars, H ++ l)) = some (.tup [], H) := by
  subst hB
  rw [leave_own rfl hb, hr]
  rfl
theorem call_len {i : In} (hr : rg i.n) : (callL i).length ≤ 1400 := by
  have l1 := wrS_len i.nm
  have l2 := numT_len hr
  simp only [callL, List.length_cons, List.length_append]; omega
end Go.AE.YtinhjhkmpknbbaaDoor
end

/-! An instruction's text: the program's line, walked: its parts put together. -/
section
set_option linter.unusedVariables false
set_option linter.unusedSimpArgs false
namespace Go.AE.YtinhjhkmpknbbaaDoor
open Go Go.AE Go.Proofs.YtinhjhkmpknbbaaDoor

section
variable {call : CallF} {K : Nat} {h : List AO} {N S : ByteArray} {t : Bool} {v0 v1 v2 v3 v4 v5 v6 v7 v8 v9 v10 v11 v12 v13 v14 v15 v16 v17 v18 : AV}
theorem leafE16 (e : Q78 .eql (.v (.string N)) (.v (.string S)) = some (.v (.bool t))) : exec call K (.region [] [] [⟨(.bin .eql (.var 15) (.k (.string S))), none, none⟩, ⟨(.mov (.loc 0)), (some 16), none⟩]) [v0, v1, v2, v3, v4, v5, v6, v7, v8, v9, v10, v11, v12, v13, v14, .v (.string N), v16, v17, v18] h = some (.normal, [v0, v1, v2, v3, v4, v5, v6, v7, v8, v9, v10, v11, v12, v13, v14, .v (.string N), .v (.bool t), v17, v18], h) := by
  simp only [e, Q0, Q1, Q2, Q3, Q4, Q5, Q6, Q7, Q8, Q9, Q10, Q11, Q12, Q13, Q14, Q15, Q16, Q17, Q18, Q19, Q20, Q21, Q22, Q23, Q24, Q25, Q26, Q27, Q28, Q29, Q30, Q31, Q32, Q33, Q35, Q36, Q37, Q38, Q39, Q40, Q41, Q42, Q43, Q44, Q45, Q46, Q47, Q48, Q49, Q50, Q51, Q52, Q53, Q54, Q55, Q56, Q57, Q58, Q59, Q60, Q61, Q62, Q63, Q64, Q65, Q66, Q67, Q68, Q69, Q70, Q71, Q72, Q73, Q99, Q100, Q101, Q102, Q103, Q74, Q75, Q77, Q78, Q79, Q80, Q81, Q82, Q83, Q84, clr, List.length_nil, List.length_cons, List.getElem?_cons_zero, List.getElem?_cons_succ, Nat.reduceAdd, Nat.zero_add, Nat.add_zero, Nat.reduceLeDiff, Nat.reduceSub, ↓reduceIte, List.drop_succ_cons, List.drop_zero, List.take_succ_cons, List.take_zero, Bool.false_eq_true, List.nil_append, List.cons_append, Bool.not_true, Bool.not_false, cond_true, cond_false, bne, Q85, Q86, Q87, Q88, Q89, Q90, Q91, Q92, Q93, Q94, Q95, Q96, Q97, Q98, Q110, Q111, Q116, Q117, Q118, Q119, Q120, Q121, Q122, Q123, Option.map_some, Option.map_none, Q34, -Q78]
theorem leafE17 (e : Q78 .eql (.v (.string N)) (.v (.string S)) = some (.v (.bool t))) : exec call K (.region [] [] [⟨(.bin .eql (.var 15) (.k (.string S))), none, none⟩, ⟨(.mov (.loc 0)), (some 17), none⟩]) [v0, v1, v2, v3, v4, v5, v6, v7, v8, v9, v10, v11, v12, v13, v14, .v (.string N), v16, v17, v18] h = some (.normal, [v0, v1, v2, v3, v4, v5, v6, v7, v8, v9, v10, v11, v12, v13, v14, .v (.string N), v16, .v (.bool t), v18], h) := by
  simp only [e, Q0, Q1, Q2, Q3, Q4, Q5, Q6, Q7, Q8, Q9, Q10, Q11, Q12, Q13, Q14, Q15, Q16, Q17, Q18, Q19, Q20, Q21, Q22, Q23, Q24, Q25, Q26, Q27, Q28, Q29, Q30, Q31, Q32, Q33, Q35, Q36, Q37, Q38, Q39, Q40, Q41, Q42, Q43, Q44, Q45, Q46, Q47, Q48, Q49, Q50, Q51, Q52, Q53, Q54, Q55, Q56, Q57, Q58, Q59, Q60, Q61, Q62, Q63, Q64, Q65, Q66, Q67, Q68, Q69, Q70, Q71, Q72, Q73, Q99, Q100, Q101, Q102, Q103, Q74, Q75, Q77, Q78, Q79, Q80, Q81, Q82, Q83, Q84, clr, List.length_nil, List.length_cons, List.getElem?_cons_zero, List.getElem?_cons_succ, Nat.reduceAdd, Nat.zero_add, Nat.add_zero, Nat.reduceLeDiff, Nat.reduceSub, ↓reduceIte, List.drop_succ_cons, List.drop_zero, List.take_succ_cons, List.take_zero, Bool.false_eq_true, List.nil_append, List.cons_append, Bool.not_true, Bool.not_false, cond_true, cond_false, bne, Q85, Q86, Q87, Q88, Q89, Q90, Q91, Q92, Q93, Q94, Q95, Q96, Q97, Q98, Q110, Q111, Q116, Q117, Q118, Q119, Q120, Q121, Q122, Q123, Option.map_some, Option.map_none, Q34, -Q78]
theorem leafE18 (e : Q78 .eql (.v (.string N)) (.v (.string S)) = some (.v (.bool t))) : exec call K (.region [] [] [⟨(.bin .eql (.var 15) (.k (.string S))), none, none⟩, ⟨(.mov (.loc 0)), (some 18), none⟩]) [v0, v1, v2, v3, v4, v5, v6, v7, v8, v9, v10, v11, v12, v13, v14, .v (.string N), v16, v17, v18] h = some (.normal, [v0, v1, v2, v3, v4, v5, v6, v7, v8, v9, v10, v11, v12, v13, v14, .v (.string N), v16, v17, .v (.bool t)], h) := by
  simp only [e, Q0, Q1, Q2, Q3, Q4, Q5, Q6, Q7, Q8, Q9, Q10, Q11, Q12, Q13, Q14, Q15, Q16, Q17, Q18, Q19, Q20, Q21, Q22, Q23, Q24, Q25, Q26, Q27, Q28, Q29, Q30, Q31, Q32, Q33, Q35, Q36, Q37, Q38, Q39, Q40, Q41, Q42, Q43, Q44, Q45, Q46, Q47, Q48, Q49, Q50, Q51, Q52, Q53, Q54, Q55, Q56, Q57, Q58, Q59, Q60, Q61, Q62, Q63, Q64, Q65, Q66, Q67, Q68, Q69, Q70, Q71, Q72, Q73, Q99, Q100, Q101, Q102, Q103, Q74, Q75, Q77, Q78, Q79, Q80, Q81, Q82, Q83, Q84, clr, List.length_nil, List.length_cons, List.getElem?_cons_zero, List.getElem?_cons_succ, Nat.reduceAdd, Nat.zero_add, Nat.add_zero, Nat.reduceLeDiff, Nat.reduceSub, ↓reduceIte, List.drop_succ_cons, List.drop_zero, List.take_succ_cons, List.take_zero, Bool.false_eq_true, List.nil_append, List.cons_append, Bool.not_true, Bool.not_false, cond_true, cond_false, bne, Q85, Q86, Q87, Q88, Q89, Q90, Q91, Q92, Q93, Q94, Q95, Q96, Q97, Q98, Q110, Q111, Q116, Q117, Q118, Q119, Q120, Q121, Q122, Q123, Option.map_some, Option.map_none, Q34, -Q78]
theorem leafT : exec call K (.region [] [] [⟨(.mov (.k (.string S))), (some 7), none⟩]) [v0, v1, v2, v3, v4, v5, v6, v7, v8, v9, v10, v11, v12, v13, v14, v15, v16, v17, v18] h = some (.normal, [v0, v1, v2, v3, v4, v5, v6, .v (.string S), v8, v9, v10, v11, v12, v13, v14, v15, v16, v17, v18], h) := by
  simp only [Q0, Q1, Q2, Q3, Q4, Q5, Q6, Q7, Q8, Q9, Q10, Q11, Q12, Q13, Q14, Q15, Q16, Q17, Q18, Q19, Q20, Q21, Q22, Q23, Q24, Q25, Q26, Q27, Q28, Q29, Q30, Q31, Q32, Q33, Q35, Q36, Q37, Q38, Q39, Q40, Q41, Q42, Q43, Q44, Q45, Q46, Q47, Q48, Q49, Q50, Q51, Q52, Q53, Q54, Q55, Q56, Q57, Q58, Q59, Q60, Q61, Q62, Q63, Q64, Q65, Q66, Q67, Q68, Q69, Q70, Q71, Q72, Q73, Q99, Q100, Q101, Q102, Q103, Q74, Q75, Q77, Q78, Q79, Q80, Q81, Q82, Q83, Q84, clr, List.length_nil, List.length_cons, List.getElem?_cons_zero, List.getElem?_cons_succ, Nat.reduceAdd, Nat.zero_add, Nat.add_zero, Nat.reduceLeDiff, Nat.reduceSub, ↓reduceIte, List.drop_succ_cons, List.drop_zero, List.take_succ_cons, List.take_zero, Bool.false_eq_true, List.nil_append, List.cons_append, Bool.not_true, Bool.not_false, cond_true, cond_false, bne, Q85, Q86, Q87, Q88, Q89, Q90, Q91, Q92, Q93, Q94, Q95, Q96, Q97, Q98, Q110, Q111, Q116, Q117, Q118, Q119, Q120, Q121, Q122, Q123, Option.map_some, Option.map_none, Q34]
end
theorem eq_str (N S : ByteArray) : Q78 .eql (.v (.string N)) (.v (.string S)) = some (.v (.bool (sEq N S))) := rfl
def FN (B : Nat) : AV := .fn (.func 91) [] [.ptr B 0, .ptr (B + 1) 0]
def code66 (X0 X4 X5 X7 X9 X11 X15 X16 X18 X20 X21 X22 X23 X24 X25 X26 X27 X28 : CC) : CC := (.seq X0 (.seq (.region [] [] c66_1) (.seq (.seq (.region [] [] c66_2) (.block 0 (.seq (.region [] [] c66_3) (.cond (.var 9) (.seq X4 (.seq X5 .ret)) (.seq (.region [] [] c66_6) (.cond (.var 10) (.seq X7 .ret) (.seq (.region [] [] c66_8) (.cond (.var 11) (.seq X9 .ret) .skip)))))))) (.seq (.seq (.region [] [] c66_10) (.cond (.var 12) (.seq X11 .ret) .skip)) (.seq (.region [] [] c66_12) (.seq (.region [] [] c66_13) (.seq (.seq (.region [] [] c66_14) (.cond (.var 13) X15 .skip)) (.seq X16 (.seq (.seq (.region [] [] c66_17) (.cond (.var 14) X18 .skip)) (.seq (.region [] [] c66_19) (.block 1 (.seq (.seq X20 (.cond (.var 16) .skip (.seq X21 (.cond (.var 16) .skip X22)))) (.cond (.var 16) X23 (.seq X24 (.cond (.var 17) X25 (.seq X26 (.cond (.var 18) X27 X28)))))))))))))))))
theorem code66_eq : c66.body = code66 (.region [] [] c66_0) (.region [] [] c66_4) (.region [] [] c66_5) (.region [] [] c66_7) (.region [] [] c66_9) (.region [] [] c66_11) (.region [] [] c66_15) (.region [] [] c66_16) (.region [] [] c66_18) (.region [] [] c66_20) (.region [] [] c66_21) (.region [] [] c66_22) (.region [] [] c66_23) (.region [] [] c66_24) (.region [] [] c66_25) (.region [] [] c66_26) (.region [] [] c66_27) (.region [] [] c66_28) := rfl
def st66 (b : Nat) (i : In) : List AV := [.ptr b 0, .agg (inC i), .v undef, .v undef, .v undef, .v undef, .v undef, .v undef, .v undef, .v undef, .v undef, .v undef, .v undef, .v undef, .v undef, .v undef, .v undef, .v undef, .v undef]
def st66a (B b : Nat) (i : In) : List AV := [.ptr b 0, .agg (inC i), .ptr B 0, .ptr (B + 1) 0, .v undef, .v undef, .v undef, .v undef, .v undef, .v undef, .v undef, .v undef, .v undef, .v undef, .v undef, .v undef, .v undef, .v undef, .v undef]
theorem pre66 {H : List AO} {b K : Nat} {i : In} : exec (callW F) K (.region [] [] c66_0) (st66 b i) H = some (.normal, st66a H.length b i, H ++ tl b i) := by
  have cp : (AV.ptr b 0).cl = some [.ptr b 0] := rfl
  have ci : (AV.agg (inC i)).cl = some (inC i) := rfl
  have b1 : bx H 100 (some [.ptr b 0]) = some (.ptr H.length 0, H ++ [.box 100 [.ptr b 0]]) := rfl
  have b2 : bx (H ++ [.box 100 [.ptr b 0]]) 58 (some (inC i)) = some (.ptr (H.length + 1) 0, H ++ tl b i) := by
    have := own_bx (H := H) (l := [.box 100 [.ptr b 0]]) rfl (bt := 58) (cs := inC i)
    exact this
  simp only [st66, st66a, c66_0, cp, ci, b1, b2, Q0, Q1, Q2, Q3, Q4, Q5, Q6, Q7, Q8, Q9, Q10, Q11, Q12, Q13, Q14, Q15, Q16, Q17, Q18, Q19, Q20, Q21, Q22, Q23, Q24, Q25, Q26, Q27, Q28, Q29, Q30, Q31, Q32, Q33, Q35, Q36, Q37, Q38, Q39, Q40, Q41, Q42, Q43, Q44, Q45, Q46, Q47, Q48, Q49, Q50, Q51, Q52, Q53, Q54, Q55, Q56, Q57, Q58, Q59, Q60, Q61, Q62, Q63, Q64, Q65, Q66, Q67, Q68, Q69, Q70, Q71, Q72, Q73, Q99, Q100, Q101, Q102, Q103, Q74, Q75, Q77, Q78, Q79, Q80, Q81, Q82, Q83, Q84, clr, List.length_nil, List.length_cons, List.getElem?_cons_zero, List.getElem?_cons_succ, Nat.reduceAdd, Nat.zero_add, Nat.add_zero, Nat.reduceLeDiff, Nat.reduceSub, ↓reduceIte, List.drop_succ_cons, List.drop_zero, List.take_succ_cons, List.take_zero, Bool.false_eq_true, List.nil_append, List.cons_append, Bool.not_true, Bool.not_false, cond_true, cond_false, bne, Q85, Q86, Q87, Q88, Q89, Q90, Q91, Q92, Q93, Q94, Q95, Q96, Q97, Q98, Q110, Q111, Q116, Q117, Q118, Q119, Q120, Q121, Q122, Q123, Option.map_some, Option.map_none]
end Go.AE.YtinhjhkmpknbbaaDoor
end
