/- Texts of this claim, put together. -/
import Derived.Test.YtinhjhkmpknbbaaDoorPart2
import Derived.Test.YtinhjhkmpknbbaaDoorPart1
import Derived.Test.YtinhjhkmpknbbaaDoorEval3
import Derived.Test.YtinhjhkmpknbbaaDoorEval4
import Derived.Test.YtinhjhkmpknbbaaDoorRows
import Derived.WalkKit
import Derived.ProofKit
import Derived.OpenShut
import Derived.ShutString
import Derived.ChangeOld
import Derived.Below
import Derived.SizedLaws
import Derived.Test.YtinhjhkmpknbbaaDoorTie
import Derived.Test.YtinhjhkmpknbbaaDoorCards
import Derived.Lib.LaidIn
import Derived.Lib.LaidU8T
import Derived.KernelRfl
import Derived.Handed
import Derived.SevenTiedAt
/-! An instruction's text: the program's line, walked. -/
section
set_option linter.unusedVariables false
set_option linter.unusedSimpArgs false
namespace Go.AE.YtinhjhkmpknbbaaDoor
open Go Go.AE Go.Proofs.YtinhjhkmpknbbaaDoor

def tail66 (X18 X20 X21 X22 X23 X24 X25 X26 X27 X28 : CC) : CC := (.seq (.seq (.region [] [] c66_17) (.cond (.var 14) X18 .skip)) (.seq (.region [] [] c66_19) (.block 1 (.seq (.seq X20 (.cond (.var 16) .skip (.seq X21 (.cond (.var 16) .skip X22)))) (.cond (.var 16) X23 (.seq X24 (.cond (.var 17) X25 (.seq X26 (.cond (.var 18) X27 X28)))))))))
theorem tail_ok {call : CallF} {K : Nat} {h1 h2 h3 : List AO} {p0 p1 p2 p3 p4 v5 v6 v8 v9 v10 v11 v12 v13 v14 v15 v16 v17 v18 : AV} {r : Int} {N : ByteArray} {t14 t1 t2 t3 t4 t5 : Bool} {X18 X20 X21 X22 X23 X24 X25 X26 X27 X28 : CC}
    (e1 : Q78 .rem (.v (.int .i64 r)) (.v (.int .i64 2)) = some (.v (.int .i64 (r.tmod 2)))) (e2 : Q78 .eql (.v (.int .i64 (r.tmod 2))) (.v (.int .i64 0)) = some (.v (.bool t14)))
    (h18 : t14 = true → ∀ v6 v7 v8 v9 v10 v11 v12 v13 v14 v15 v16 v17 v18 : AV, exec call K X18 [p0, p1, p2, p3, p4, .v (.int .i64 r), v6, v7, v8, v9, v10, v11, v12, v13, v14, v15, v16, v17, v18] h1 = some (.normal, [p0, p1, p2, p3, p4, .v (.int .i64 r), v6, v7, v8, v9, v10, v11, v12, v13, v14, v15, v16, v17, v18], h2))
    (h18' : t14 = false → h2 = h1)
    (h20 : ∀ v5 v6 v7 v8 v9 v10 v11 v12 v13 v14 v16 v17 v18 : AV, exec call K X20 [p0, p1, p2, p3, p4, v5, v6, v7, v8, v9, v10, v11, v12, v13, v14, .v (.string N), v16, v17, v18] h2 = some (.normal, [p0, p1, p2, p3, p4, v5, v6, v7, v8, v9, v10, v11, v12, v13, v14, .v (.string N), .v (.bool t1), v17, v18], h2))
    (h21 : ∀ v5 v6 v7 v8 v9 v10 v11 v12 v13 v14 v16 v17 v18 : AV, exec call K X21 [p0, p1, p2, p3, p4, v5, v6, v7, v8, v9, v10, v11, v12, v13, v14, .v (.string N), v16, v17, v18] h2 = some (.normal, [p0, p1, p2, p3, p4, v5, v6, v7, v8, v9, v10, v11, v12, v13, v14, .v (.string N), .v (.bool t2), v17, v18], h2))
    (h22 : ∀ v5 v6 v7 v8 v9 v10 v11 v12 v13 v14 v16 v17 v18 : AV, exec call K X22 [p0, p1, p2, p3, p4, v5, v6, v7, v8, v9, v10, v11, v12, v13, v14, .v (.string N), v16, v17, v18] h2 = some (.normal, [p0, p1, p2, p3, p4, v5, v6, v7, v8, v9, v10, v11, v12, v13, v14, .v (.string N), .v (.bool t3), v17, v18], h2))
    (h24 : ∀ v5 v6 v7 v8 v9 v10 v11 v12 v13 v14 v16 v17 v18 : AV, exec call K X24 [p0, p1, p2, p3, p4, v5, v6, v7, v8, v9, v10, v11, v12, v13, v14, .v (.string N), v16, v17, v18] h2 = some (.normal, [p0, p1, p2, p3, p4, v5, v6, v7, v8, v9, v10, v11, v12, v13, v14, .v (.string N), v16, .v (.bool t4), v18], h2))
    (h26 : ∀ v5 v6 v7 v8 v9 v10 v11 v12 v13 v14 v16 v17 v18 : AV, exec call K X26 [p0, p1, p2, p3, p4, v5, v6, v7, v8, v9, v10, v11, v12, v13, v14, .v (.string N), v16, v17, v18] h2 = some (.normal, [p0, p1, p2, p3, p4, v5, v6, v7, v8, v9, v10, v11, v12, v13, v14, .v (.string N), v16, v17, .v (.bool t5)], h2))
    (h23 : (t1 || (t2 || t3)) = true → ∀ v5 v6 v7 v8 v9 v10 v11 v12 v13 v14 v15 v16 v17 v18 : AV, exec call K X23 [p0, p1, p2, p3, p4, v5, v6, v7, v8, v9, v10, v11, v12, v13, v14, v15, v16, v17, v18] h2 = some (.normal, [p0, p1, p2, p3, p4, v5, v6, v7, v8, v9, v10, v11, v12, v13, v14, v15, v16, v17, v18], h3))
    (h25 : (t1 || (t2 || t3)) = false → t4 = true → ∀ v5 v6 v7 v8 v9 v10 v11 v12 v13 v14 v15 v16 v17 v18 : AV, exec call K X25 [p0, p1, p2, p3, p4, v5, v6, v7, v8, v9, v10, v11, v12, v13, v14, v15, v16, v17, v18] h2 = some (.normal, [p0, p1, p2, p3, p4, v5, v6, v7, v8, v9, v10, v11, v12, v13, v14, v15, v16, v17, v18], h3))
    (h27 : (t1 || (t2 || t3)) = false → t4 = false → t5 = true → ∀ v5 v6 v7 v8 v9 v10 v11 v12 v13 v14 v15 v16 v17 v18 : AV, exec call K X27 [p0, p1, p2, p3, p4, v5, v6, v7, v8, v9, v10, v11, v12, v13, v14, v15, v16, v17, v18] h2 = some (.normal, [p0, p1, p2, p3, p4, v5, v6, v7, v8, v9, v10, v11, v12, v13, v14, v15, v16, v17, v18], h3))
    (h28 : (t1 || (t2 || t3)) = false → t4 = false → t5 = false → ∀ v5 v6 v7 v8 v9 v10 v11 v12 v13 v14 v15 v16 v17 v18 : AV, exec call K X28 [p0, p1, p2, p3, p4, v5, v6, v7, v8, v9, v10, v11, v12, v13, v14, v15, v16, v17, v18] h2 = some (.normal, [p0, p1, p2, p3, p4, v5, v6, v7, v8, v9, v10, v11, v12, v13, v14, v15, v16, v17, v18], h3)) :
    ∃ vars, exec call K (tail66 X18 X20 X21 X22 X23 X24 X25 X26 X27 X28) [p0, p1, p2, p3, p4, .v (.int .i64 r), v6, .v (.string N), v8, v9, v10, v11, v12, v13, v14, v15, v16, v17, v18] h1 = some (.normal, vars, h3) := by
  have k18 : ∃ vs : AV, ∀ v15 v16 v17 v18 : AV, exec call K (.seq (.region [] [] c66_17) (.cond (.var 14) X18 .skip)) [p0, p1, p2, p3, p4, .v (.int .i64 r), v6, .v (.string N), v8, v9, v10, v11, v12, v13, v14, v15, v16, v17, v18] h1 = some (.normal, [p0, p1, p2, p3, p4, .v (.int .i64 r), v6, .v (.string N), v8, v9, v10, v11, v12, v13, vs, v15, v16, v17, v18], h2) := by
    refine ⟨.v (.bool t14), fun v15 v16 v17 v18 => ?_⟩
    cases t14 with
    | true =>
      have h18 := h18 rfl
      simp only [c66_17, e1, e2, h18, Q0, Q1, Q2, Q3, Q4, Q5, Q6, Q7, Q8, Q9, Q10, Q11, Q12, Q13, Q14, Q15, Q16, Q17, Q18, Q19, Q20, Q21, Q22, Q23, Q24, Q25, Q26, Q27, Q28, Q29, Q30, Q31, Q32, Q33, Q35, Q36, Q37, Q38, Q39, Q40, Q41, Q42, Q43, Q44, Q45, Q46, Q47, Q48, Q49, Q50, Q51, Q52, Q53, Q54, Q55, Q56, Q57, Q58, Q59, Q60, Q61, Q62, Q63, Q64, Q65, Q66, Q67, Q68, Q69, Q70, Q71, Q72, Q73, Q99, Q100, Q101, Q102, Q103, Q74, Q75, Q77, Q78, Q79, Q80, Q81, Q82, Q83, Q84, clr, List.length_nil, List.length_cons, List.getElem?_cons_zero, List.getElem?_cons_succ, Nat.reduceAdd, Nat.zero_add, Nat.add_zero, Nat.reduceLeDiff, Nat.reduceSub, ↓reduceIte, List.drop_succ_cons, List.drop_zero, List.take_succ_cons, List.take_zero, Bool.false_eq_true, List.nil_append, List.cons_append, Bool.not_true, Bool.not_false, cond_true, cond_false, bne, Q85, Q86, Q87, Q88, Q89, Q90, Q91, Q92, Q93, Q94, Q95, Q96, Q97, Q98, Q110, Q111, Q116, Q117, Q118, Q119, Q120, Q121, Q122, Q123, Option.map_some, Option.map_none, -Q78]
    | false =>
      have h18' := h18' rfl
      subst h18'
      simp only [c66_17, e1, e2, Q0, Q1, Q2, Q3, Q4, Q5, Q6, Q7, Q8, Q9, Q10, Q11, Q12, Q13, Q14, Q15, Q16, Q17, Q18, Q19, Q20, Q21, Q22, Q23, Q24, Q25, Q26, Q27, Q28, Q29, Q30, Q31, Q32, Q33, Q35, Q36, Q37, Q38, Q39, Q40, Q41, Q42, Q43, Q44, Q45, Q46, Q47, Q48, Q49, Q50, Q51, Q52, Q53, Q54, Q55, Q56, Q57, Q58, Q59, Q60, Q61, Q62, Q63, Q64, Q65, Q66, Q67, Q68, Q69, Q70, Q71, Q72, Q73, Q99, Q100, Q101, Q102, Q103, Q74, Q75, Q77, Q78, Q79, Q80, Q81, Q82, Q83, Q84, clr, List.length_nil, List.length_cons, List.getElem?_cons_zero, List.getElem?_cons_succ, Nat.reduceAdd, Nat.zero_add, Nat.add_zero, Nat.reduceLeDiff, Nat.reduceSub, ↓reduceIte, List.drop_succ_cons, List.drop_zero, List.take_succ_cons, List.take_zero, Bool.false_eq_true, List.nil_append, List.cons_append, Bool.not_true, Bool.not_false, cond_true, cond_false, bne, Q85, Q86, Q87, Q88, Q89, Q90, Q91, Q92, Q93, Q94, Q95, Q96, Q97, Q98, Q110, Q111, Q116, Q117, Q118, Q119, Q120, Q121, Q122, Q123, Option.map_some, Option.map_none, -Q78]
  obtain ⟨w14, k18⟩ := k18
  unfold tail66
  generalize (CC.seq (.region [] [] c66_17) (.cond (.var 14) X18 .skip)) = XX at k18 ⊢
  cases t1 with
  | true =>
    have h23 := h23 rfl
    simp only [k18, c66_19, h20, h23, Q0, Q1, Q2, Q3, Q4, Q5, Q6, Q7, Q8, Q9, Q10, Q11, Q12, Q13, Q14, Q15, Q16, Q17, Q18, Q19, Q20, Q21, Q22, Q23, Q24, Q25, Q26, Q27, Q28, Q29, Q30, Q31, Q32, Q33, Q35, Q36, Q37, Q38, Q39, Q40, Q41, Q42, Q43, Q44, Q45, Q46, Q47, Q48, Q49, Q50, Q51, Q52, Q53, Q54, Q55, Q56, Q57, Q58, Q59, Q60, Q61, Q62, Q63, Q64, Q65, Q66, Q67, Q68, Q69, Q70, Q71, Q72, Q73, Q99, Q100, Q101, Q102, Q103, Q74, Q75, Q77, Q78, Q79, Q80, Q81, Q82, Q83, Q84, clr, List.length_nil, List.length_cons, List.getElem?_cons_zero, List.getElem?_cons_succ, Nat.reduceAdd, Nat.zero_add, Nat.add_zero, Nat.reduceLeDiff, Nat.reduceSub, ↓reduceIte, List.drop_succ_cons, List.drop_zero, List.take_succ_cons, List.take_zero, Bool.false_eq_true, List.nil_append, List.cons_append, Bool.not_true, Bool.not_false, cond_true, cond_false, bne, Q85, Q86, Q87, Q88, Q89, Q90, Q91, Q92, Q93, Q94, Q95, Q96, Q97, Q98, Q110, Q111, Q116, Q117, Q118, Q119, Q120, Q121, Q122, Q123, Option.map_some, Option.map_none]
    exact ⟨_, rfl⟩
  | false =>
  cases t2 with
  | true =>
    have h23 := h23 rfl
    simp only [k18, c66_19, h20, h21, h23, Q0, Q1, Q2, Q3, Q4, Q5, Q6, Q7, Q8, Q9, Q10, Q11, Q12, Q13, Q14, Q15, Q16, Q17, Q18, Q19, Q20, Q21, Q22, Q23, Q24, Q25, Q26, Q27, Q28, Q29, Q30, Q31, Q32, Q33, Q35, Q36, Q37, Q38, Q39, Q40, Q41, Q42, Q43, Q44, Q45, Q46, Q47, Q48, Q49, Q50, Q51, Q52, Q53, Q54, Q55, Q56, Q57, Q58, Q59, Q60, Q61, Q62, Q63, Q64, Q65, Q66, Q67, Q68, Q69, Q70, Q71, Q72, Q73, Q99, Q100, Q101, Q102, Q103, Q74, Q75, Q77, Q78, Q79, Q80, Q81, Q82, Q83, Q84, clr, List.length_nil, List.length_cons, List.getElem?_cons_zero, List.getElem?_cons_succ, Nat.reduceAdd, Nat.zero_add, Nat.add_zero, Nat.reduceLeDiff, Nat.reduceSub, ↓reduceIte, List.drop_succ_cons, List.drop_zero, List.take_succ_cons, List.take_zero, Bool.false_eq_true, List.nil_append, List.cons_append, Bool.not_true, Bool.not_false, cond_true, cond_false, bne, Q85, Q86, Q87, Q88, Q89, Q90, Q91, Q92, Q93, Q94, Q95, Q96, Q97, Q98, Q110, Q111, Q116, Q117, Q118, Q119, Q120, Q121, Q122, Q123, Option.map_some, Option.map_none]
    exact ⟨_, rfl⟩
  | false =>
  cases t3 with
  | true =>
    have h23 := h23 rfl
    simp only [k18, c66_19, h20, h21, h22, h23, Q0, Q1, Q2, Q3, Q4, Q5, Q6, Q7, Q8, Q9, Q10, Q11, Q12, Q13, Q14, Q15, Q16, Q17, Q18, Q19, Q20, Q21, Q22, Q23, Q24, Q25, Q26, Q27, Q28, Q29, Q30, Q31, Q32, Q33, Q35, Q36, Q37, Q38, Q39, Q40, Q41, Q42, Q43, Q44, Q45, Q46, Q47, Q48, Q49, Q50, Q51, Q52, Q53, Q54, Q55, Q56, Q57, Q58, Q59, Q60, Q61, Q62, Q63, Q64, Q65, Q66, Q67, Q68, Q69, Q70, Q71, Q72, Q73, Q99, Q100, Q101, Q102, Q103, Q74, Q75, Q77, Q78, Q79, Q80, Q81, Q82, Q83, Q84, clr, List.length_nil, List.length_cons, List.getElem?_cons_zero, List.getElem?_cons_succ, Nat.reduceAdd, Nat.zero_add, Nat.add_zero, Nat.reduceLeDiff, Nat.reduceSub, ↓reduceIte, List.drop_succ_cons, List.drop_zero, List.take_succ_cons, List.take_zero, Bool.false_eq_true, List.nil_append, List.cons_append, Bool.not_true, Bool.not_false, cond_true, cond_false, bne, Q85, Q86, Q87, Q88, Q89, Q90, Q91, Q92, Q93, Q94, Q95, Q96, Q97, Q98, Q110, Q111, Q116, Q117, Q118, Q119, Q120, Q121, Q122, Q123, Option.map_some, Option.map_none]
    exact ⟨_, rfl⟩
  | false =>
  cases t4 with
  | true =>
    have h25 := h25 rfl rfl
    simp only [k18, c66_19, h20, h21, h22, h24, h25, Q0, Q1, Q2, Q3, Q4, Q5, Q6, Q7, Q8, Q9, Q10, Q11, Q12, Q13, Q14, Q15, Q16, Q17, Q18, Q19, Q20, Q21, Q22, Q23, Q24, Q25, Q26, Q27, Q28, Q29, Q30, Q31, Q32, Q33, Q35, Q36, Q37, Q38, Q39, Q40, Q41, Q42, Q43, Q44, Q45, Q46, Q47, Q48, Q49, Q50, Q51, Q52, Q53, Q54, Q55, Q56, Q57, Q58, Q59, Q60, Q61, Q62, Q63, Q64, Q65, Q66, Q67, Q68, Q69, Q70, Q71, Q72, Q73, Q99, Q100, Q101, Q102, Q103, Q74, Q75, Q77, Q78, Q79, Q80, Q81, Q82, Q83, Q84, clr, List.length_nil, List.length_cons, List.getElem?_cons_zero, List.getElem?_cons_succ, Nat.reduceAdd, Nat.zero_add, Nat.add_zero, Nat.reduceLeDiff, Nat.reduceSub, ↓reduceIte, List.drop_succ_cons, List.drop_zero, List.take_succ_cons, List.take_zero, Bool.false_eq_true, List.nil_append, List.cons_append, Bool.not_true, Bool.not_false, cond_true, cond_false, bne, Q85, Q86, Q87, Q88, Q89, Q90, Q91, Q92, Q93, Q94, Q95, Q96, Q97, Q98, Q110, Q111, Q116, Q117, Q118, Q119, Q120, Q121, Q122, Q123, Option.map_some, Option.map_none]
    exact ⟨_, rfl⟩
  | false =>
  cases t5 with
  | true =>
    have h27 := h27 rfl rfl rfl
    simp only [k18, c66_19, h20, h21, h22, h24, h26, h27, Q0, Q1, Q2, Q3, Q4, Q5, Q6, Q7, Q8, Q9, Q10, Q11, Q12, Q13, Q14, Q15, Q16, Q17, Q18, Q19, Q20, Q21, Q22, Q23, Q24, Q25, Q26, Q27, Q28, Q29, Q30, Q31, Q32, Q33, Q35, Q36, Q37, Q38, Q39, Q40, Q41, Q42, Q43, Q44, Q45, Q46, Q47, Q48, Q49, Q50, Q51, Q52, Q53, Q54, Q55, Q56, Q57, Q58, Q59, Q60, Q61, Q62, Q63, Q64, Q65, Q66, Q67, Q68, Q69, Q70, Q71, Q72, Q73, Q99, Q100, Q101, Q102, Q103, Q74, Q75, Q77, Q78, Q79, Q80, Q81, Q82, Q83, Q84, clr, List.length_nil, List.length_cons, List.getElem?_cons_zero, List.getElem?_cons_succ, Nat.reduceAdd, Nat.zero_add, Nat.add_zero, Nat.reduceLeDiff, Nat.reduceSub, ↓reduceIte, List.drop_succ_cons, List.drop_zero, List.take_succ_cons, List.take_zero, Bool.false_eq_true, List.nil_append, List.cons_append, Bool.not_true, Bool.not_false, cond_true, cond_false, bne, Q85, Q86, Q87, Q88, Q89, Q90, Q91, Q92, Q93, Q94, Q95, Q96, Q97, Q98, Q110, Q111, Q116, Q117, Q118, Q119, Q120, Q121, Q122, Q123, Option.map_some, Option.map_none]
    exact ⟨_, rfl⟩
  | false =>
    have h28 := h28 rfl rfl rfl
    simp only [k18, c66_19, h20, h21, h22, h24, h26, h28, Q0, Q1, Q2, Q3, Q4, Q5, Q6, Q7, Q8, Q9, Q10, Q11, Q12, Q13, Q14, Q15, Q16, Q17, Q18, Q19, Q20, Q21, Q22, Q23, Q24, Q25, Q26, Q27, Q28, Q29, Q30, Q31, Q32, Q33, Q35, Q36, Q37, Q38, Q39, Q40, Q41, Q42, Q43, Q44, Q45, Q46, Q47, Q48, Q49, Q50, Q51, Q52, Q53, Q54, Q55, Q56, Q57, Q58, Q59, Q60, Q61, Q62, Q63, Q64, Q65, Q66, Q67, Q68, Q69, Q70, Q71, Q72, Q73, Q99, Q100, Q101, Q102, Q103, Q74, Q75, Q77, Q78, Q79, Q80, Q81, Q82, Q83, Q84, clr, List.length_nil, List.length_cons, List.getElem?_cons_zero, List.getElem?_cons_succ, Nat.reduceAdd, Nat.zero_add, Nat.add_zero, Nat.reduceLeDiff, Nat.reduceSub, ↓reduceIte, List.drop_succ_cons, List.drop_zero, List.take_succ_cons, List.take_zero, Bool.false_eq_true, List.nil_append, List.cons_append, Bool.not_true, Bool.not_false, cond_true, cond_false, bne, Q85, Q86, Q87, Q88, Q89, Q90, Q91, Q92, Q93, Q94, Q95, Q96, Q97, Q98, Q110, Q111, Q116, Q117, Q118, Q119, Q120, Q121, Q122, Q123, Option.map_some, Option.map_none]
    exact ⟨_, rfl⟩
end Go.AE.YtinhjhkmpknbbaaDoor
end

/-! An instruction's text: the program's line. -/
section
set_option linter.unusedVariables false
set_option linter.unusedSimpArgs false
namespace Go.AE.YtinhjhkmpknbbaaDoor
open Go Go.AE Go.Proofs.YtinhjhkmpknbbaaDoor

theorem fin66 {H H' : List AO} {b : Nat} {i : In} (hl : H'.length = H.length) (hb : H'.all (AO.below H'.length) = true) (h : ∃ vars x, (x = .ret ∨ x = .normal) ∧ exec (callW F) 0 c66.body (st66 b i) H = some (x, vars, H' ++ tl b i)) : callW F 66 [.ptr b 0, .agg (inC i)] H = some (.tup [], H') := by
  obtain ⟨vars, x, hx, he⟩ := h
  refine callW_code (c := c66) rfl rfl 0 ?_
  rw [show start c66 [.ptr b 0, .agg (inC i)] = st66 b i from rfl, he]
  rcases hx with rfl | rfl
  · exact lvr rfl hb hl
  · exact lvn rfl hb hl
theorem fin66r {H H' : List AO} {b : Nat} {i : In} (hl : H'.length = H.length) (hb : H'.all (AO.below H'.length) = true) (h : ∃ vars, exec (callW F) 0 c66.body (st66 b i) H = some (.ret, vars, H' ++ tl b i)) : callW F 66 [.ptr b 0, .agg (inC i)] H = some (.tup [], H') := by
  obtain ⟨vars, h⟩ := h
  exact fin66 hl hb ⟨vars, .ret, .inl rfl, h⟩
theorem i_eq (a c : Int) : Q78 .eql (.v (.int .i64 a)) (.v (.int .i64 c)) = some (.v (.bool (a == c))) := rfl
theorem i_lt (a c : Int) : Q78 .lss (.v (.int .i64 a)) (.v (.int .i64 c)) = some (.v (.bool (decide (a < c)))) := rfl
theorem i_gt (a c : Int) : Q78 .gtr (.v (.int .i64 a)) (.v (.int .i64 c)) = some (.v (.bool (decide (a > c)))) := rfl
theorem fn_mk {call : CallF} {h : List AO} {vars env : List AV} {B : Nat} (h2 : ∀ env, getO vars env (.var 2) = .ptr B 0) (h3 : ∀ env, getO vars env (.var 3) = .ptr (B + 1) 0) : evOp call vars env h (.mkfn (.func 91) [] [(.var 2), (.var 3)]) = some (FN B, h) := by
  simp only [e_mkfn, List.map_cons, List.map_nil, h2, h3, FN]
theorem early22 {H : List AO} {b rid : Nat} {q : List UInt8} {i : In} (ra : rg i.a) (rb : rg i.b) (rc : rg i.n) (h : Bd H b rid q) (hb : H.all (AO.below H.length) = true) (hl : q.length ≤ 70000000) (h21 : (i.op == 21) = false) (h22 : (i.op == 22) = true) : ∃ H', callW F 66 [.ptr b 0, .agg (inC i)] H = some (.tup [], H') ∧ Bd H' b rid (q ++ ([99, 117, 116] : List UInt8)) ∧ Rst b rid H H' ∧ H'.all (AO.below H'.length) = true := by
  have hsz : (bl ⟨#[99, 117, 116]⟩).length ≤ 4 := by decide
  obtain ⟨H1, d1, b1, r1, m1⟩ := w92 (i := i) h hb ⟨#[99, 117, 116]⟩ (by decide) (by omega)
  refine ⟨H1, fin66r r1.1 m1 ?_, b1, r1, m1⟩
  have hX0 := pre66 (H := H) (b := b) (K := 0) (i := i)
  have hX7 : ∀ v5 v6 v7 v8 v9 v10 v11 v12 v13 v14 v15 v16 v17 v18 : AV, exec (callW F) 0 (CC.region [] [] c66_7) [.ptr b 0, .agg (inC i), .ptr H.length 0, .ptr (H.length + 1) 0, FN H.length, v5, v6, v7, v8, v9, v10, v11, v12, v13, v14, v15, v16, v17, v18] (H ++ tl b i) = some (.normal, [.ptr b 0, .agg (inC i), .ptr H.length 0, .ptr (H.length + 1) 0, FN H.length, v5, v6, v7, v8, v9, v10, v11, v12, v13, v14, v15, v16, v17, v18], H1 ++ tl b i) := fun _ _ _ _ _ _ _ _ _ _ _ _ _ _ => leafS (fun _ => rfl) d1
  rw [code66_eq]
  generalize (CC.region [] [] c66_0) = X0 at hX0 ⊢
  generalize (CC.region [] [] c66_4) = X4
  generalize (CC.region [] [] c66_5) = X5
  generalize (CC.region [] [] c66_7) = X7 at hX7 ⊢
  generalize (CC.region [] [] c66_9) = X9
  generalize (CC.region [] [] c66_11) = X11
  generalize (CC.region [] [] c66_15) = X15
  generalize (CC.region [] [] c66_16) = X16
  generalize (CC.region [] [] c66_18) = X18
  generalize (CC.region [] [] c66_20) = X20
  generalize (CC.region [] [] c66_21) = X21
  generalize (CC.region [] [] c66_22) = X22
  generalize (CC.region [] [] c66_23) = X23
  generalize (CC.region [] [] c66_24) = X24
  generalize (CC.region [] [] c66_25) = X25
  generalize (CC.region [] [] c66_26) = X26
  generalize (CC.region [] [] c66_27) = X27
  generalize (CC.region [] [] c66_28) = X28
  simp only [st66a] at hX0
  simp only [FN] at hX7
  simp only [code66, hX0, hX7, e_mkfn, List.map_cons, List.map_nil, FN, t_ld, tlO, i_eq, i_lt, i_gt, c66_1, c66_2, c66_3, c66_6, h21, h22, Q122, Q0, Q1, Q2, Q3, Q4, Q5, Q6, Q7, Q8, Q9, Q10, Q11, Q12, Q13, Q14, Q15, Q16, Q17, Q18, Q19, Q20, Q21, Q22, Q23, Q24, Q25, Q26, Q27, Q28, Q29, Q30, Q31, Q32, Q33, Q35, Q36, Q37, Q38, Q39, Q40, Q41, Q42, Q43, Q44, Q45, Q46, Q47, Q48, Q49, Q50, Q51, Q52, Q53, Q54, Q55, Q56, Q57, Q58, Q59, Q60, Q61, Q62, Q63, Q64, Q65, Q66, Q67, Q68, Q69, Q70, Q71, Q72, Q73, Q99, Q100, Q101, Q102, Q103, Q74, Q75, Q77, Q78, Q79, Q80, Q81, Q82, Q83, Q84, clr, List.length_nil, List.length_cons, List.getElem?_cons_zero, List.getElem?_cons_succ, Nat.reduceAdd, Nat.zero_add, Nat.add_zero, Nat.reduceLeDiff, Nat.reduceSub, ↓reduceIte, List.drop_succ_cons, List.drop_zero, List.take_succ_cons, List.take_zero, Bool.false_eq_true, List.nil_append, List.cons_append, Bool.not_true, Bool.not_false, cond_true, cond_false, bne, Q85, Q86, Q87, Q88, Q89, Q90, Q91, Q92, Q93, Q94, Q95, Q96, Q97, Q98, Q110, Q111, Q116, Q117, Q118, Q119, Q120, Q121, Q122, Q123, Option.map_some, Option.map_none, -Q78]
  exact ⟨_, rfl⟩
theorem early23 {H : List AO} {b rid : Nat} {q : List UInt8} {i : In} (ra : rg i.a) (rb : rg i.b) (rc : rg i.n) (h : Bd H b rid q) (hb : H.all (AO.below H.length) = true) (hl : q.length ≤ 70000000) (h21 : (i.op == 21) = false) (h22 : (i.op == 22) = false) (h23 : (i.op == 23) = true) : ∃ H', callW F 66 [.ptr b 0, .agg (inC i)] H = some (.tup [], H') ∧ Bd H' b rid (q ++ ([101, 110, 100] : List UInt8)) ∧ Rst b rid H H' ∧ H'.all (AO.below H'.length) = true := by
  have hsz : (bl ⟨#[101, 110, 100]⟩).length ≤ 4 := by decide
  obtain ⟨H1, d1, b1, r1, m1⟩ := w92 (i := i) h hb ⟨#[101, 110, 100]⟩ (by decide) (by omega)
  refine ⟨H1, fin66r r1.1 m1 ?_, b1, r1, m1⟩
  have hX0 := pre66 (H := H) (b := b) (K := 0) (i := i)
  have hX9 : ∀ v5 v6 v7 v8 v9 v10 v11 v12 v13 v14 v15 v16 v17 v18 : AV, exec (callW F) 0 (CC.region [] [] c66_9) [.ptr b 0, .agg (inC i), .ptr H.length 0, .ptr (H.length + 1) 0, FN H.length, v5, v6, v7, v8, v9, v10, v11, v12, v13, v14, v15, v16, v17, v18] (H ++ tl b i) = some (.normal, [.ptr b 0, .agg (inC i), .ptr H.length 0, .ptr (H.length + 1) 0, FN H.length, v5, v6, v7, v8, v9, v10, v11, v12, v13, v14, v15, v16, v17, v18], H1 ++ tl b i) := fun _ _ _ _ _ _ _ _ _ _ _ _ _ _ => leafS (fun _ => rfl) d1
  rw [code66_eq]
  generalize (CC.region [] [] c66_0) = X0 at hX0 ⊢
  generalize (CC.region [] [] c66_4) = X4
  generalize (CC.region [] [] c66_5) = X5
  generalize (CC.region [] [] c66_7) = X7
  generalize (CC.region [] [] c66_9) = X9 at hX9 ⊢
  generalize (CC.region [] [] c66_11) = X11
  generalize (CC.region [] [] c66_15) = X15
  generalize (CC.region [] [] c66_16) = X16
  generalize (CC.region [] [] c66_18) = X18
  generalize (CC.region [] [] c66_20) = X20
  generalize (CC.region [] [] c66_21) = X21
  generalize (CC.region [] [] c66_22) = X22
  generalize (CC.region [] [] c66_23) = X23
  generalize (CC.region [] [] c66_24) = X24
  generalize (CC.region [] [] c66_25) = X25
  generalize (CC.region [] [] c66_26) = X26
  generalize (CC.region [] [] c66_27) = X27
  generalize (CC.region [] [] c66_28) = X28
  simp only [st66a] at hX0
  simp only [FN] at hX9
  simp only [code66, hX0, hX9, e_mkfn, List.map_cons, List.map_nil, FN, t_ld, tlO, i_eq, i_lt, i_gt, c66_1, c66_2, c66_3, c66_6, c66_8, h21, h22, h23, Q122, Q0, Q1, Q2, Q3, Q4, Q5, Q6, Q7, Q8, Q9, Q10, Q11, Q12, Q13, Q14, Q15, Q16, Q17, Q18, Q19, Q20, Q21, Q22, Q23, Q24, Q25, Q26, Q27, Q28, Q29, Q30, Q31, Q32, Q33, Q35, Q36, Q37, Q38, Q39, Q40, Q41, Q42, Q43, Q44, Q45, Q46, Q47, Q48, Q49, Q50, Q51, Q52, Q53, Q54, Q55, Q56, Q57, Q58, Q59, Q60, Q61, Q62, Q63, Q64, Q65, Q66, Q67, Q68, Q69, Q70, Q71, Q72, Q73, Q99, Q100, Q101, Q102, Q103, Q74, Q75, Q77, Q78, Q79, Q80, Q81, Q82, Q83, Q84, clr, List.length_nil, List.length_cons, List.getElem?_cons_zero, List.getElem?_cons_succ, Nat.reduceAdd, Nat.zero_add, Nat.add_zero, Nat.reduceLeDiff, Nat.reduceSub, ↓reduceIte, List.drop_succ_cons, List.drop_zero, List.take_succ_cons, List.take_zero, Bool.false_eq_true, List.nil_append, List.cons_append, Bool.not_true, Bool.not_false, cond_true, cond_false, bne, Q85, Q86, Q87, Q88, Q89, Q90, Q91, Q92, Q93, Q94, Q95, Q96, Q97, Q98, Q110, Q111, Q116, Q117, Q118, Q119, Q120, Q121, Q122, Q123, Option.map_some, Option.map_none, -Q78]
  exact ⟨_, rfl⟩
theorem early1 {H : List AO} {b rid : Nat} {q : List UInt8} {i : In} (ra : rg i.a) (rb : rg i.b) (rc : rg i.n) (h : Bd H b rid q) (hb : H.all (AO.below H.length) = true) (hl : q.length ≤ 70000000) (h21 : (i.op == 21) = false) (h22 : (i.op == 22) = false) (h23 : (i.op == 23) = false) (hlo : decide (i.op < 1) = true) : ∃ H', callW F 66 [.ptr b 0, .agg (inC i)] H = some (.tup [], H') ∧ Bd H' b rid (q ++ ([63] : List UInt8)) ∧ Rst b rid H H' ∧ H'.all (AO.below H'.length) = true := by
  have hsz : (bl ⟨#[63]⟩).length ≤ 4 := by decide
  obtain ⟨H1, d1, b1, r1, m1⟩ := w92 (i := i) h hb ⟨#[63]⟩ (by decide) (by omega)
  refine ⟨H1, fin66r r1.1 m1 ?_, b1, r1, m1⟩
  have hX0 := pre66 (H := H) (b := b) (K := 0) (i := i)
  have hX11 : ∀ v5 v6 v7 v8 v9 v10 v11 v12 v13 v14 v15 v16 v17 v18 : AV, exec (callW F) 0 (CC.region [] [] c66_11) [.ptr b 0, .agg (inC i), .ptr H.length 0, .ptr (H.length + 1) 0, FN H.length, v5, v6, v7, v8, v9, v10, v11, v12, v13, v14, v15, v16, v17, v18] (H ++ tl b i) = some (.normal, [.ptr b 0, .agg (inC i), .ptr H.length 0, .ptr (H.length + 1) 0, FN H.length, v5, v6, v7, v8, v9, v10, v11, v12, v13, v14, v15, v16, v17, v18], H1 ++ tl b i) := fun _ _ _ _ _ _ _ _ _ _ _ _ _ _ => leafS (fun _ => rfl) d1
  rw [code66_eq]
  generalize (CC.region [] [] c66_0) = X0 at hX0 ⊢
  generalize (CC.region [] [] c66_4) = X4
  generalize (CC.region [] [] c66_5) = X5
  generalize (CC.region [] [] c66_7) = X7
  generalize (CC.region [] [] c66_9) = X9
  generalize (CC.region [] [] c66_11) = X11 at hX11 ⊢
  generalize (CC.region [] [] c66_15) = X15
  generalize (CC.region [] [] c66_16) = X16
  generalize (CC.region [] [] c66_18) = X18
  generalize (CC.region [] [] c66_20) = X20
  generalize (CC.region [] [] c66_21) = X21
  generalize (CC.region [] [] c66_22) = X22
  generalize (CC.region [] [] c66_23) = X23
  generalize (CC.region [] [] c66_24) = X24
  generalize (CC.region [] [] c66_25) = X25
  generalize (CC.region [] [] c66_26) = X26
  generalize (CC.region [] [] c66_27) = X27
  generalize (CC.region [] [] c66_28) = X28
  simp only [st66a] at hX0
  simp only [FN] at hX11
  simp only [code66, hX0, hX11, e_mkfn, List.map_cons, List.map_nil, FN, t_ld, tlO, i_eq, i_lt, i_gt, c66_1, c66_2, c66_3, c66_6, c66_8, c66_10, h21, h22, h23, hlo, Q122, Q0, Q1, Q2, Q3, Q4, Q5, Q6, Q7, Q8, Q9, Q10, Q11, Q12, Q13, Q14, Q15, Q16, Q17, Q18, Q19, Q20, Q21, Q22, Q23, Q24, Q25, Q26, Q27, Q28, Q29, Q30, Q31, Q32, Q33, Q35, Q36, Q37, Q38, Q39, Q40, Q41, Q42, Q43, Q44, Q45, Q46, Q47, Q48, Q49, Q50, Q51, Q52, Q53, Q54, Q55, Q56, Q57, Q58, Q59, Q60, Q61, Q62, Q63, Q64, Q65, Q66, Q67, Q68, Q69, Q70, Q71, Q72, Q73, Q99, Q100, Q101, Q102, Q103, Q74, Q75, Q77, Q78, Q79, Q80, Q81, Q82, Q83, Q84, clr, List.length_nil, List.length_cons, List.getElem?_cons_zero, List.getElem?_cons_succ, Nat.reduceAdd, Nat.zero_add, Nat.add_zero, Nat.reduceLeDiff, Nat.reduceSub, ↓reduceIte, List.drop_succ_cons, List.drop_zero, List.take_succ_cons, List.take_zero, Bool.false_eq_true, List.nil_append, List.cons_append, Bool.not_true, Bool.not_false, cond_true, cond_false, bne, Q85, Q86, Q87, Q88, Q89, Q90, Q91, Q92, Q93, Q94, Q95, Q96, Q97, Q98, Q110, Q111, Q116, Q117, Q118, Q119, Q120, Q121, Q122, Q123, Option.map_some, Option.map_none, -Q78]
  exact ⟨_, rfl⟩
theorem early20 {H : List AO} {b rid : Nat} {q : List UInt8} {i : In} (ra : rg i.a) (rb : rg i.b) (rc : rg i.n) (h : Bd H b rid q) (hb : H.all (AO.below H.length) = true) (hl : q.length ≤ 70000000) (h21 : (i.op == 21) = false) (h22 : (i.op == 22) = false) (h23 : (i.op == 23) = false) (hlo : decide (i.op < 1) = false) (hhi : decide (i.op > 20) = true) : ∃ H', callW F 66 [.ptr b 0, .agg (inC i)] H = some (.tup [], H') ∧ Bd H' b rid (q ++ ([63] : List UInt8)) ∧ Rst b rid H H' ∧ H'.all (AO.below H'.length) = true := by
  have hsz : (bl ⟨#[63]⟩).length ≤ 4 := by decide
  obtain ⟨H1, d1, b1, r1, m1⟩ := w92 (i := i) h hb ⟨#[63]⟩ (by decide) (by omega)
  refine ⟨H1, fin66r r1.1 m1 ?_, b1, r1, m1⟩
  have hX0 := pre66 (H := H) (b := b) (K := 0) (i := i)
  have hX11 : ∀ v5 v6 v7 v8 v9 v10 v11 v12 v13 v14 v15 v16 v17 v18 : AV, exec (callW F) 0 (CC.region [] [] c66_11) [.ptr b 0, .agg (inC i), .ptr H.length 0, .ptr (H.length + 1) 0, FN H.length, v5, v6, v7, v8, v9, v10, v11, v12, v13, v14, v15, v16, v17, v18] (H ++ tl b i) = some (.normal, [.ptr b 0, .agg (inC i), .ptr H.length 0, .ptr (H.length + 1) 0, FN H.length, v5, v6, v7, v8, v9, v10, v11, v12, v13, v14, v15, v16, v17, v18], H1 ++ tl b i) := fun _ _ _ _ _ _ _ _ _ _ _ _ _ _ => leafS (fun _ => rfl) d1
  rw [code66_eq]
  generalize (CC.region [] [] c66_0) = X0 at hX0 ⊢
  generalize (CC.region [] [] c66_4) = X4
  generalize (CC.region [] [] c66_5) = X5
  generalize (CC.region [] [] c66_7) = X7
  generalize (CC.region [] [] c66_9) = X9
  generalize (CC.region [] [] c66_11) = X11 at hX11 ⊢
  generalize (CC.region [] [] c66_15) = X15
  generalize (CC.region [] [] c66_16) = X16
  generalize (CC.region [] [] c66_18) = X18
  generalize (CC.region [] [] c66_20) = X20
  generalize (CC.region [] [] c66_21) = X21
  generalize (CC.region [] [] c66_22) = X22
  generalize (CC.region [] [] c66_23) = X23
  generalize (CC.region [] [] c66_24) = X24
  generalize (CC.region [] [] c66_25) = X25
  generalize (CC.region [] [] c66_26) = X26
  generalize (CC.region [] [] c66_27) = X27
  generalize (CC.region [] [] c66_28) = X28
  simp only [st66a] at hX0
  simp only [FN] at hX11
  simp only [code66, hX0, hX11, e_mkfn, List.map_cons, List.map_nil, FN, t_ld, tlO, i_eq, i_lt, i_gt, c66_1, c66_2, c66_3, c66_6, c66_8, c66_10, h21, h22, h23, hlo, hhi, Q122, Q0, Q1, Q2, Q3, Q4, Q5, Q6, Q7, Q8, Q9, Q10, Q11, Q12, Q13, Q14, Q15, Q16, Q17, Q18, Q19, Q20, Q21, Q22, Q23, Q24, Q25, Q26, Q27, Q28, Q29, Q30, Q31, Q32, Q33, Q35, Q36, Q37, Q38, Q39, Q40, Q41, Q42, Q43, Q44, Q45, Q46, Q47, Q48, Q49, Q50, Q51, Q52, Q53, Q54, Q55, Q56, Q57, Q58, Q59, Q60, Q61, Q62, Q63, Q64, Q65, Q66, Q67, Q68, Q69, Q70, Q71, Q72, Q73, Q99, Q100, Q101, Q102, Q103, Q74, Q75, Q77, Q78, Q79, Q80, Q81, Q82, Q83, Q84, clr, List.length_nil, List.length_cons, List.getElem?_cons_zero, List.getElem?_cons_succ, Nat.reduceAdd, Nat.zero_add, Nat.add_zero, Nat.reduceLeDiff, Nat.reduceSub, ↓reduceIte, List.drop_succ_cons, List.drop_zero, List.take_succ_cons, List.take_zero, Bool.false_eq_true, List.nil_append, List.cons_append, Bool.not_true, Bool.not_false, cond_true, cond_false, bne, Q85, Q86, Q87, Q88, Q89, Q90, Q91, Q92, Q93, Q94, Q95, Q96, Q97, Q98, Q110, Q111, Q116, Q117, Q118, Q119, Q120, Q121, Q122, Q123, Option.map_some, Option.map_none, -Q78]
  exact ⟨_, rfl⟩
theorem early21 {H : List AO} {b rid : Nat} {q : List UInt8} {i : In} (ra : rg i.a) (rb : rg i.b) (rc : rg i.n) (h : Bd H b rid q) (hb : H.all (AO.below H.length) = true) (hl : q.length ≤ 70000000) (h21 : (i.op == 21) = true) : ∃ H', callW F 66 [.ptr b 0, .agg (inC i)] H = some (.tup [], H') ∧ Bd H' b rid (q ++ ([99, 97, 108, 108] ++ callL i)) ∧ Rst b rid H H' ∧ H'.all (AO.below H'.length) = true := by
  have hsz : (bl ⟨#[99, 97, 108, 108]⟩).length ≤ 4 := by decide
  obtain ⟨H1, d1, b1, r1, m1⟩ := w92 (i := i) h hb ⟨#[99, 97, 108, 108]⟩ (by decide) (by omega)
  have hq1 : (q ++ bl ⟨#[99, 97, 108, 108]⟩).length ≤ 80000000 := by
    have : (bl ⟨#[99, 97, 108, 108]⟩).length ≤ 4 := by decide
    rw [List.length_append]; omega
  obtain ⟨H2, d2, b2, r2, m2⟩ := c91_ok rc b1 m1 hq1
  rw [List.append_assoc] at b2
  refine ⟨H2, fin66r (r2.1.trans r1.1) m2 ?_, b2, r1.trans r2, m2⟩
  have hX0 := pre66 (H := H) (b := b) (K := 0) (i := i)
  have hX4 : ∀ v5 v6 v7 v8 v9 v10 v11 v12 v13 v14 v15 v16 v17 v18 : AV, exec (callW F) 0 (CC.region [] [] c66_4) [.ptr b 0, .agg (inC i), .ptr H.length 0, .ptr (H.length + 1) 0, FN H.length, v5, v6, v7, v8, v9, v10, v11, v12, v13, v14, v15, v16, v17, v18] (H ++ tl b i) = some (.normal, [.ptr b 0, .agg (inC i), .ptr H.length 0, .ptr (H.length + 1) 0, FN H.length, v5, v6, v7, v8, v9, v10, v11, v12, v13, v14, v15, v16, v17, v18], H1 ++ tl b i) := fun _ _ _ _ _ _ _ _ _ _ _ _ _ _ => leafS (fun _ => rfl) d1
  have hX5 : ∀ v5 v6 v7 v8 v9 v10 v11 v12 v13 v14 v15 v16 v17 v18 : AV, exec (callW F) 0 (CC.region [] [] c66_5) [.ptr b 0, .agg (inC i), .ptr H.length 0, .ptr (H.length + 1) 0, FN H.length, v5, v6, v7, v8, v9, v10, v11, v12, v13, v14, v15, v16, v17, v18] (H1 ++ tl b i) = some (.normal, [.ptr b 0, .agg (inC i), .ptr H.length 0, .ptr (H.length + 1) 0, FN H.length, v5, v6, v7, v8, v9, v10, v11, v12, v13, v14, v15, v16, v17, v18], H2 ++ tl b i) := fun _ _ _ _ _ _ _ _ _ _ _ _ _ _ => leafC (fun _ => by rw [r1.1]; rfl) d2
  rw [code66_eq]
  generalize (CC.region [] [] c66_0) = X0 at hX0 ⊢
  generalize (CC.region [] [] c66_4) = X4 at hX4 ⊢
  generalize (CC.region [] [] c66_5) = X5 at hX5 ⊢
  generalize (CC.region [] [] c66_7) = X7
  generalize (CC.region [] [] c66_9) = X9
  generalize (CC.region [] [] c66_11) = X11
  generalize (CC.region [] [] c66_15) = X15
  generalize (CC.region [] [] c66_16) = X16
  generalize (CC.region [] [] c66_18) = X18
  generalize (CC.region [] [] c66_20) = X20
  generalize (CC.region [] [] c66_21) = X21
  generalize (CC.region [] [] c66_22) = X22
  generalize (CC.region [] [] c66_23) = X23
  generalize (CC.region [] [] c66_24) = X24
  generalize (CC.region [] [] c66_25) = X25
  generalize (CC.region [] [] c66_26) = X26
  generalize (CC.region [] [] c66_27) = X27
  generalize (CC.region [] [] c66_28) = X28
  simp only [st66a] at hX0
  simp only [FN] at hX4 hX5
  simp only [code66, hX0, hX4, hX5, e_mkfn, List.map_cons, List.map_nil, t_ld, tlO, i_eq, c66_1, c66_2, c66_3, h21, Q0, Q1, Q2, Q3, Q4, Q5, Q6, Q7, Q8, Q9, Q10, Q11, Q12, Q13, Q14, Q15, Q16, Q17, Q18, Q19, Q20, Q21, Q22, Q23, Q24, Q25, Q26, Q27, Q28, Q29, Q30, Q31, Q32, Q33, Q35, Q36, Q37, Q38, Q39, Q40, Q41, Q42, Q43, Q44, Q45, Q46, Q47, Q48, Q49, Q50, Q51, Q52, Q53, Q54, Q55, Q56, Q57, Q58, Q59, Q60, Q61, Q62, Q63, Q64, Q65, Q66, Q67, Q68, Q69, Q70, Q71, Q72, Q73, Q99, Q100, Q101, Q102, Q103, Q74, Q75, Q77, Q78, Q79, Q80, Q81, Q82, Q83, Q84, clr, List.length_nil, List.length_cons, List.getElem?_cons_zero, List.getElem?_cons_succ, Nat.reduceAdd, Nat.zero_add, Nat.add_zero, Nat.reduceLeDiff, Nat.reduceSub, ↓reduceIte, List.drop_succ_cons, List.drop_zero, List.take_succ_cons, List.take_zero, Bool.false_eq_true, List.nil_append, List.cons_append, Bool.not_true, Bool.not_false, cond_true, cond_false, bne, Q85, Q86, Q87, Q88, Q89, Q90, Q91, Q92, Q93, Q94, Q95, Q96, Q97, Q98, Q110, Q111, Q116, Q117, Q118, Q119, Q120, Q121, Q122, Q123, Option.map_some, Option.map_none, -Q78]
  exact ⟨_, rfl⟩
end Go.AE.YtinhjhkmpknbbaaDoor
end

/-! An instruction's text: the program's line, of an instruction that names a register or a part. -/
section
set_option linter.unusedVariables false
set_option linter.unusedSimpArgs false
namespace Go.AE.YtinhjhkmpknbbaaDoor
open Go Go.AE Go.Proofs.YtinhjhkmpknbbaaDoor

theorem fin66n {H H' : List AO} {b : Nat} {i : In} (hl : H'.length = H.length) (hb : H'.all (AO.below H'.length) = true) (h : ∃ vars, exec (callW F) 0 c66.body (st66 b i) H = some (.normal, vars, H' ++ tl b i)) : callW F 66 [.ptr b 0, .agg (inC i)] H = some (.tup [], H') := by
  obtain ⟨vars, h⟩ := h
  exact fin66 hl hb ⟨vars, .normal, .inr rfl, h⟩
theorem code66_t {X0 X4 X5 X7 X9 X11 X15 X16 X18 X20 X21 X22 X23 X24 X25 X26 X27 X28 : CC} : code66 X0 X4 X5 X7 X9 X11 X15 X16 X18 X20 X21 X22 X23 X24 X25 X26 X27 X28 = (.seq X0 (.seq (.region [] [] c66_1) (.seq (.seq (.region [] [] c66_2) (.block 0 (.seq (.region [] [] c66_3) (.cond (.var 9) (.seq X4 (.seq X5 .ret)) (.seq (.region [] [] c66_6) (.cond (.var 10) (.seq X7 .ret) (.seq (.region [] [] c66_8) (.cond (.var 11) (.seq X9 .ret) .skip)))))))) (.seq (.seq (.region [] [] c66_10) (.cond (.var 12) (.seq X11 .ret) .skip)) (.seq (.region [] [] c66_12) (.seq (.region [] [] c66_13) (.seq (.seq (.region [] [] c66_14) (.cond (.var 13) X15 .skip)) (.seq X16 (tail66 X18 X20 X21 X22 X23 X24 X25 X26 X27 X28))))))))) := rfl
theorem wr1 {H : List AO} {b rid : Nat} {q L : List UInt8} {i : In} (h : Bd H b rid q) (hb : H.all (AO.below H.length) = true) (hne : L ≠ []) (hl : q.length + L.length ≤ 100000000) :
    ∃ x H', callW F 92 [.ptr b 0, .v (.string ⟨L.toArray⟩)] (H ++ tl b i) = some (x, H' ++ tl b i) ∧ Bd H' b rid (q ++ L) ∧ Rst b rid H H' ∧ H'.all (AO.below H'.length) = true := by
  have e : bl ⟨L.toArray⟩ = L := by simp [bl]
  obtain ⟨H', d, b1, r1, m1⟩ := w92 (i := i) h hb ⟨L.toArray⟩ (by rw [e]; exact hne) (by rw [e]; exact hl)
  rw [e] at b1
  exact ⟨_, H', d, b1, r1, m1⟩
theorem line_gen {H : List AO} {b rid : Nat} {q : List UInt8} {i : In} (ra : rg i.a) (rb : rg i.b) (rc : rg i.n) (h : Bd H b rid q) (hb : H.all (AO.below H.length) = true) (hl : q.length ≤ 70000000) {r k : Nat} (hr : r < 4) (hk : k < 5) (hop : i.op = 5 * r + k + 1) : ∃ H', callW F 66 [.ptr b 0, .agg (inC i)] H = some (.tup [], H') ∧ Bd H' b rid (q ++ (bl (rn r) ++ 95 :: (bl (nmS r k) ++ (midL i r ++ lastL i (nmS r k))))) ∧ Rst b rid H H' ∧ H'.all (AO.below H'.length) = true := by
  have h21 : (i.op == 21) = false := by rw [beq_eq_false_iff_ne]; omega
  have h22 : (i.op == 22) = false := by rw [beq_eq_false_iff_ne]; omega
  have h23 : (i.op == 23) = false := by rw [beq_eq_false_iff_ne]; omega
  have hlo : decide (i.op < 1) = false := decide_eq_false (by omega)
  have hhi : decide (i.op > 20) = false := decide_eq_false (by omega)
  have es : Q78 .sub (.v (.int .i64 i.op)) (.v (.int .i64 1)) = some (.v (.int .i64 (i.op - 1))) := by
    show some (AV.v (.int .i64 (IntKind.i64.wrap (i.op - 1)))) = _
    rw [IntWalk.i64_in] <;> omega
  have eq5 : Q78 .quo (.v (.int .i64 (i.op - 1))) (.v (.int .i64 5)) = some (.v (.int .i64 (r : Int))) := by
    have : (i.op - 1).tdiv 5 = (r : Int) := by rw [Int.tdiv_eq_ediv_of_nonneg (by omega)]; omega
    show (if (5 : Int) = 0 then none else some (AV.v (.int .i64 (IntKind.i64.wrap ((i.op - 1).tdiv 5))))) = _
    rw [if_neg (by decide), this, IntWalk.i64_in] <;> omega
  have er5 : Q78 .rem (.v (.int .i64 (i.op - 1))) (.v (.int .i64 5)) = some (.v (.int .i64 (k : Int))) := by
    have : (i.op - 1).tmod 5 = (k : Int) := by rw [Int.tmod_eq_emod_of_nonneg (by omega)]; omega
    show (if (5 : Int) = 0 then none else some (AV.v (.int .i64 ((i.op - 1).tmod 5)))) = _
    rw [if_neg (by decide), this]
  have er2 : Q78 .rem (.v (.int .i64 (r : Int))) (.v (.int .i64 2)) = some (.v (.int .i64 ((r : Int).tmod 2))) := by
    show (if (2 : Int) = 0 then none else some (AV.v (.int .i64 ((r : Int).tmod 2)))) = _
    rw [if_neg (by decide)]
  have hm2 : (r : Int).tmod 2 = ((r % 2 : Nat) : Int) := by rw [Int.tmod_eq_emod_of_nonneg (by omega)]; omega
  have hka := kinds_at hk
  have hkn : natV (.v (.int .i64 (k : Int))) = some k := Q48
  have l1 := rn_len r
  have l2 := nm_len r k
  obtain ⟨N, hN⟩ : ∃ N, N = nmS r k := ⟨_, rfl⟩
  rw [← hN] at l2 ⊢
  have na := num_ok ra
  have nb := num_ok rb
  have nc := num_ok rc
  have la := numT_len ra
  have lb := numT_len rb
  have lc := numT_len rc
  have lw := wrS_len i.nm
  have nw := write_any i.nm
  have add32 : ∀ S : ByteArray, (bl S).length ≤ 2000 → Q78 .add (.v (.string ⟨#[32]⟩)) (.v (.string S)) = some (.v (.string ⟨(32 :: bl S).toArray⟩)) := by
    intro S hS
    have := addS (x := [32]) (y := bl S) (z := 32 :: bl S) (by simp only [List.length_cons, List.length_nil]; omega) rfl
    rwa [← cstr S] at this
  -- the name
  have a1 := addS (x := bl (rn r)) (y := [95]) (z := bl (rn r) ++ [95]) (by simp only [List.length_cons, List.length_nil]; omega) rfl
  have a2 := addS (x := bl (rn r) ++ [95]) (y := bl N) (z := bl (rn r) ++ 95 :: bl N) (by simp only [List.length_append, List.length_cons, List.length_nil]; omega) (by simp)
  rw [← cstr (rn r)] at a1
  rw [← cstr N] at a2
  obtain ⟨x1, H1, d1, b1, r1, m1⟩ := wr1 (i := i) (L := bl (rn r) ++ 95 :: bl N) h hb (by simp) (by simp only [List.length_append, List.length_cons]; omega)
  -- its register
  have mid : ∃ H2, Bd H2 b rid (q ++ (bl (rn r) ++ 95 :: bl N) ++ midL i r) ∧ Rst b rid H1 H2 ∧ H2.all (AO.below H2.length) = true ∧ ((r % 2 == 0) = true → ∃ x, callW F 92 [.ptr b 0, .v (.string ⟨(32 :: bl (numT i.a)).toArray⟩)] (H1 ++ tl b i) = some (x, H2 ++ tl b i)) ∧ ((r % 2 == 0) = false → H2 ++ tl b i = H1 ++ tl b i) := by
    unfold midL
    cases e : (r % 2 == 0) with
    | true =>
      obtain ⟨x2, H2, d2, b2, r2, m2⟩ := wr1 (i := i) (L := 32 :: bl (numT i.a)) b1 m1 (by simp) (by simp only [List.length_append, List.length_cons]; omega)
      exact ⟨H2, by rw [if_pos rfl]; exact b2, r2, m2, fun _ => ⟨x2, d2⟩, fun h => (by cases h)⟩
    | false => exact ⟨H1, by rw [if_neg (by simp), List.append_nil]; exact b1, .refl _, m1, fun h => (by cases h), fun _ => rfl⟩
  obtain ⟨H2, b2, r2, m2, d2, d2'⟩ := mid
  have hq2 : (q ++ (bl (rn r) ++ 95 :: bl N) ++ midL i r).length ≤ 80000000 := by
    have : (midL i r).length ≤ 30 := by unfold midL; split <;> simp only [List.length_cons, List.length_nil] <;> omega
    simp only [List.length_append, List.length_cons]; omega
  -- the last part
  have last : ∃ H3, Bd H3 b rid (q ++ (bl (rn r) ++ 95 :: bl N) ++ midL i r ++ lastL i N) ∧ Rst b rid H2 H3 ∧ H3.all (AO.below H3.length) = true ∧ (isReg N = true → ∃ x, callW F 92 [.ptr b 0, .v (.string ⟨(32 :: bl (numT i.b)).toArray⟩)] (H2 ++ tl b i) = some (x, H3 ++ tl b i)) ∧
      (isReg N = false → sEq N ⟨#[97, 116, 111, 109]⟩ = true → ∃ x, callW F 92 [.ptr b 0, .v (.string ⟨(32 :: wrS i.nm).toArray⟩)] (H2 ++ tl b i) = some (x, H3 ++ tl b i)) ∧
      (isReg N = false → sEq N ⟨#[97, 116, 111, 109]⟩ = false → sEq N ⟨#[105, 110, 116]⟩ = true → ∃ x, callW F 92 [.ptr b 0, .v (.string ⟨(32 :: bl (numT i.n)).toArray⟩)] (H2 ++ tl b i) = some (x, H3 ++ tl b i)) ∧
      (isReg N = false → sEq N ⟨#[97, 116, 111, 109]⟩ = false → sEq N ⟨#[105, 110, 116]⟩ = false → ∃ x, callW F 91 [.ptr H2.length 0, .ptr (H2.length + 1) 0] (H2 ++ tl b i) = some (x, H3 ++ tl b i)) := by
    unfold lastL
    cases e1 : isReg N with
    | true =>
      obtain ⟨x, H3, d, b3, r3, m3⟩ := wr1 (i := i) (L := 32 :: bl (numT i.b)) b2 m2 (by simp) (by simp only [List.length_cons]; omega)
      exact ⟨H3, by rw [if_pos rfl]; exact b3, r3, m3, fun _ => ⟨x, d⟩, fun h => (by cases h), fun h => (by cases h), fun h => (by cases h)⟩
    | false =>
    cases e2 : sEq N ⟨#[97, 116, 111, 109]⟩ with
    | true =>
      obtain ⟨x, H3, d, b3, r3, m3⟩ := wr1 (i := i) (L := 32 :: wrS i.nm) b2 m2 (by simp) (by simp only [List.length_cons]; omega)
      exact ⟨H3, by rw [if_neg (by simp), if_pos rfl]; exact b3, r3, m3, fun h => (by cases h), fun _ _ => ⟨x, d⟩, fun _ h => (by cases h), fun _ h => (by cases h)⟩
    | false =>
    cases e3 : sEq N ⟨#[105, 110, 116]⟩ with
    | true =>
      obtain ⟨x, H3, d, b3, r3, m3⟩ := wr1 (i := i) (L := 32 :: bl (numT i.n)) b2 m2 (by simp) (by simp only [List.length_cons]; omega)
      exact ⟨H3, by rw [if_neg (by simp), if_neg (by simp), if_pos rfl]; exact b3, r3, m3, fun h => (by cases h), fun _ h => (by cases h), fun _ _ _ => ⟨x, d⟩, fun _ _ h => (by cases h)⟩
    | false =>
      obtain ⟨H3, d, b3, r3, m3⟩ := c91_ok rc b2 m2 hq2
      exact ⟨H3, by rw [if_neg (by simp), if_neg (by simp), if_neg (by simp)]; exact b3, r3, m3, fun h => (by cases h), fun _ h => (by cases h), fun _ _ h => (by cases h), fun _ _ _ => ⟨_, d⟩⟩
  obtain ⟨H3, b3, r3, m3, d23, d25, d27, d28⟩ := last
  have hL1 := r1.1
  have hL2 : H2.length = H.length := r2.1.trans r1.1
  refine ⟨H3, fin66n (r3.1.trans hL2) m3 ?_, by simpa [List.append_assoc] using b3, (r1.trans r2).trans r3, m3⟩
  have hX0 := pre66 (H := H) (b := b) (K := 0) (i := i)
  have hX15 : ∀ v5 v6 v7 v8 v9 v10 v11 v12 v13 v14 v15 v16 v17 v18 : AV, exec (callW F) 0 (CC.region [] [] c66_15) [.ptr b 0, .agg (inC i), .ptr H.length 0, .ptr (H.length + 1) 0, FN H.length, v5, v6, v7, v8, v9, v10, v11, v12, v13, v14, v15, v16, v17, v18] (H ++ tl b i) = some (.normal, [.ptr b 0, .agg (inC i), .ptr H.length 0, .ptr (H.length + 1) 0, FN H.length, v5, v6, .v (.string tempS), v8, v9, v10, v11, v12, v13, v14, v15, v16, v17, v18], H ++ tl b i) := fun _ _ _ _ _ _ _ _ _ _ _ _ _ _ => leafT
  have hX16 : ∀ v6 v8 v9 v10 v11 v12 v13 v14 v15 v16 v17 v18 : AV, exec (callW F) 0 (CC.region [] [] c66_16) [.ptr b 0, .agg (inC i), .ptr H.length 0, .ptr (H.length + 1) 0, FN H.length, .v (.int .i64 (r : Int)), v6, .v (.string N), v8, v9, v10, v11, v12, v13, v14, v15, v16, v17, v18] (H ++ tl b i) = some (.normal, [.ptr b 0, .agg (inC i), .ptr H.length 0, .ptr (H.length + 1) 0, FN H.length, .v (.int .i64 (r : Int)), v6, .v (.string N), v8, v9, v10, v11, v12, v13, v14, v15, v16, v17, v18], H1 ++ tl b i) := fun _ _ _ _ _ _ _ _ _ _ _ _ => leafR (fun _ => rfl) (fun _ => rfl) (fun _ => rfl) rows_ok (rows_at hr) a1 a2 d1
  have hX18 : (r % 2 == 0) = true → ∀ v6 v7 v8 v9 v10 v11 v12 v13 v14 v15 v16 v17 v18 : AV, exec (callW F) 0 (CC.region [] [] c66_18) [.ptr b 0, .agg (inC i), .ptr H.length 0, .ptr (H.length + 1) 0, FN H.length, .v (.int .i64 (r : Int)), v6, v7, v8, v9, v10, v11, v12, v13, v14, v15, v16, v17, v18] (H1 ++ tl b i) = some (.normal, [.ptr b 0, .agg (inC i), .ptr H.length 0, .ptr (H.length + 1) 0, FN H.length, .v (.int .i64 (r : Int)), v6, v7, v8, v9, v10, v11, v12, v13, v14, v15, v16, v17, v18], H2 ++ tl b i) := fun e => by
    obtain ⟨x, d⟩ := d2 e
    exact fun _ _ _ _ _ _ _ _ _ _ _ _ _ => leafN (fun _ => by rw [hL1]; rfl) (fun _ => by rw [hL1]; rfl) tlA na (add32 _ (by omega)) d
  have hX20 : ∀ v5 v6 v7 v8 v9 v10 v11 v12 v13 v14 v16 v17 v18 : AV, exec (callW F) 0 (CC.region [] [] c66_20) [.ptr b 0, .agg (inC i), .ptr H.length 0, .ptr (H.length + 1) 0, FN H.length, v5, v6, v7, v8, v9, v10, v11, v12, v13, v14, .v (.string N), v16, v17, v18] (H2 ++ tl b i) = some (.normal, [.ptr b 0, .agg (inC i), .ptr H.length 0, .ptr (H.length + 1) 0, FN H.length, v5, v6, v7, v8, v9, v10, v11, v12, v13, v14, .v (.string N), .v (.bool (sEq N ⟨#[118, 97, 114]⟩)), v17, v18], H2 ++ tl b i) := fun _ _ _ _ _ _ _ _ _ _ _ _ _ => leafE16 (eq_str N ⟨#[118, 97, 114]⟩)
  have hX21 : ∀ v5 v6 v7 v8 v9 v10 v11 v12 v13 v14 v16 v17 v18 : AV, exec (callW F) 0 (CC.region [] [] c66_21) [.ptr b 0, .agg (inC i), .ptr H.length 0, .ptr (H.length + 1) 0, FN H.length, v5, v6, v7, v8, v9, v10, v11, v12, v13, v14, .v (.string N), v16, v17, v18] (H2 ++ tl b i) = some (.normal, [.ptr b 0, .agg (inC i), .ptr H.length 0, .ptr (H.length + 1) 0, FN H.length, v5, v6, v7, v8, v9, v10, v11, v12, v13, v14, .v (.string N), .v (.bool (sEq N ⟨#[118, 97, 108]⟩)), v17, v18], H2 ++ tl b i) := fun _ _ _ _ _ _ _ _ _ _ _ _ _ => leafE16 (eq_str N ⟨#[118, 97, 108]⟩)
  have hX22 : ∀ v5 v6 v7 v8 v9 v10 v11 v12 v13 v14 v16 v17 v18 : AV, exec (callW F) 0 (CC.region [] [] c66_22) [.ptr b 0, .agg (inC i), .ptr H.length 0, .ptr (H.length + 1) 0, FN H.length, v5, v6, v7, v8, v9, v10, v11, v12, v13, v14, .v (.string N), v16, v17, v18] (H2 ++ tl b i) = some (.normal, [.ptr b 0, .agg (inC i), .ptr H.length 0, .ptr (H.length + 1) 0, FN H.length, v5, v6, v7, v8, v9, v10, v11, v12, v13, v14, .v (.string N), .v (.bool (sEq N tempS)), v17, v18], H2 ++ tl b i) := fun _ _ _ _ _ _ _ _ _ _ _ _ _ => leafE16 (eq_str N tempS)
  have hX24 : ∀ v5 v6 v7 v8 v9 v10 v11 v12 v13 v14 v16 v17 v18 : AV, exec (callW F) 0 (CC.region [] [] c66_24) [.ptr b 0, .agg (inC i), .ptr H.length 0, .ptr (H.length + 1) 0, FN H.length, v5, v6, v7, v8, v9, v10, v11, v12, v13, v14, .v (.string N), v16, v17, v18] (H2 ++ tl b i) = some (.normal, [.ptr b 0, .agg (inC i), .ptr H.length 0, .ptr (H.length + 1) 0, FN H.length, v5, v6, v7, v8, v9, v10, v11, v12, v13, v14, .v (.string N), v16, .v (.bool (sEq N ⟨#[97, 116, 111, 109]⟩)), v18], H2 ++ tl b i) := fun _ _ _ _ _ _ _ _ _ _ _ _ _ => leafE17 (eq_str N ⟨#[97, 116, 111, 109]⟩)
  have hX26 : ∀ v5 v6 v7 v8 v9 v10 v11 v12 v13 v14 v16 v17 v18 : AV, exec (callW F) 0 (CC.region [] [] c66_26) [.ptr b 0, .agg (inC i), .ptr H.length 0, .ptr (H.length + 1) 0, FN H.length, v5, v6, v7, v8, v9, v10, v11, v12, v13, v14, .v (.string N), v16, v17, v18] (H2 ++ tl b i) = some (.normal, [.ptr b 0, .agg (inC i), .ptr H.length 0, .ptr (H.length + 1) 0, FN H.length, v5, v6, v7, v8, v9, v10, v11, v12, v13, v14, .v (.string N), v16, v17, .v (.bool (sEq N ⟨#[105, 110, 116]⟩))], H2 ++ tl b i) := fun _ _ _ _ _ _ _ _ _ _ _ _ _ => leafE18 (eq_str N ⟨#[105, 110, 116]⟩)
  have hX23 : (sEq N ⟨#[118, 97, 114]⟩ || (sEq N ⟨#[118, 97, 108]⟩ || sEq N tempS)) = true → ∀ v5 v6 v7 v8 v9 v10 v11 v12 v13 v14 v15 v16 v17 v18 : AV, exec (callW F) 0 (CC.region [] [] c66_23) [.ptr b 0, .agg (inC i), .ptr H.length 0, .ptr (H.length + 1) 0, FN H.length, v5, v6, v7, v8, v9, v10, v11, v12, v13, v14, v15, v16, v17, v18] (H2 ++ tl b i) = some (.normal, [.ptr b 0, .agg (inC i), .ptr H.length 0, .ptr (H.length + 1) 0, FN H.length, v5, v6, v7, v8, v9, v10, v11, v12, v13, v14, v15, v16, v17, v18], H3 ++ tl b i) := fun e => by
    obtain ⟨x, d⟩ := d23 e
    exact fun _ _ _ _ _ _ _ _ _ _ _ _ _ _ => leafN (fun _ => by rw [hL2]; rfl) (fun _ => by rw [hL2]; rfl) tlB nb (add32 _ (by omega)) d
  have hX25 : (sEq N ⟨#[118, 97, 114]⟩ || (sEq N ⟨#[118, 97, 108]⟩ || sEq N tempS)) = false → sEq N ⟨#[97, 116, 111, 109]⟩ = true → ∀ v5 v6 v7 v8 v9 v10 v11 v12 v13 v14 v15 v16 v17 v18 : AV, exec (callW F) 0 (CC.region [] [] c66_25) [.ptr b 0, .agg (inC i), .ptr H.length 0, .ptr (H.length + 1) 0, FN H.length, v5, v6, v7, v8, v9, v10, v11, v12, v13, v14, v15, v16, v17, v18] (H2 ++ tl b i) = some (.normal, [.ptr b 0, .agg (inC i), .ptr H.length 0, .ptr (H.length + 1) 0, FN H.length, v5, v6, v7, v8, v9, v10, v11, v12, v13, v14, v15, v16, v17, v18], H3 ++ tl b i) := fun e e2 => by
    obtain ⟨x, d⟩ := d25 e e2
    have hw : bl ⟨(wrS i.nm).toArray⟩ = wrS i.nm := by simp [bl]
    have a := add32 ⟨(wrS i.nm).toArray⟩ (by rw [hw]; omega)
    rw [hw] at a
    exact fun _ _ _ _ _ _ _ _ _ _ _ _ _ _ => leafM (fun _ => by rw [hL2]; rfl) (fun _ => by rw [hL2]; rfl) nw a d
  have hX27 : (sEq N ⟨#[118, 97, 114]⟩ || (sEq N ⟨#[118, 97, 108]⟩ || sEq N tempS)) = false → sEq N ⟨#[97, 116, 111, 109]⟩ = false → sEq N ⟨#[105, 110, 116]⟩ = true → ∀ v5 v6 v7 v8 v9 v10 v11 v12 v13 v14 v15 v16 v17 v18 : AV, exec (callW F) 0 (CC.region [] [] c66_27) [.ptr b 0, .agg (inC i), .ptr H.length 0, .ptr (H.length + 1) 0, FN H.length, v5, v6, v7, v8, v9, v10, v11, v12, v13, v14, v15, v16, v17, v18] (H2 ++ tl b i) = some (.normal, [.ptr b 0, .agg (inC i), .ptr H.length 0, .ptr (H.length + 1) 0, FN H.length, v5, v6, v7, v8, v9, v10, v11, v12, v13, v14, v15, v16, v17, v18], H3 ++ tl b i) := fun e e2 e3 => by
    obtain ⟨x, d⟩ := d27 e e2 e3
    exact fun _ _ _ _ _ _ _ _ _ _ _ _ _ _ => leafN (fun _ => by rw [hL2]; rfl) (fun _ => by rw [hL2]; rfl) tlN nc (add32 _ (by omega)) d
  have hX28 : (sEq N ⟨#[118, 97, 114]⟩ || (sEq N ⟨#[118, 97, 108]⟩ || sEq N tempS)) = false → sEq N ⟨#[97, 116, 111, 109]⟩ = false → sEq N ⟨#[105, 110, 116]⟩ = false → ∀ v5 v6 v7 v8 v9 v10 v11 v12 v13 v14 v15 v16 v17 v18 : AV, exec (callW F) 0 (CC.region [] [] c66_28) [.ptr b 0, .agg (inC i), .ptr H.length 0, .ptr (H.length + 1) 0, FN H.length, v5, v6, v7, v8, v9, v10, v11, v12, v13, v14, v15, v16, v17, v18] (H2 ++ tl b i) = some (.normal, [.ptr b 0, .agg (inC i), .ptr H.length 0, .ptr (H.length + 1) 0, FN H.length, v5, v6, v7, v8, v9, v10, v11, v12, v13, v14, v15, v16, v17, v18], H3 ++ tl b i) := fun e e2 e3 => by
    obtain ⟨x, d⟩ := d28 e e2 e3
    exact fun _ _ _ _ _ _ _ _ _ _ _ _ _ _ => leafC (fun _ => by rw [hL2]; rfl) d
  have c0 : ((r : Int).tmod 2 == 0) = (r % 2 == 0) := by
    rw [hm2]
    cases h : (r % 2 == 0) with
    | true => have := eq_of_beq h; rw [this]; rfl
    | false => rw [beq_eq_false_iff_ne] at h ⊢; omega
  have e14 : Q78 .eql (.v (.int .i64 ((r : Int).tmod 2))) (.v (.int .i64 0)) = some (.v (.bool (r % 2 == 0))) := by
    rw [i_eq, c0]
  have tail := fun (v13 : AV) => tail_ok (call := callW F) (K := 0) (p0 := .ptr b 0) (p1 := .agg (inC i)) (p2 := .ptr H.length 0) (p3 := .ptr (H.length + 1) 0) (p4 := FN H.length) (v5 := .junk) (v6 := .v (.int .i64 (k : Int))) (v8 := .v (.int .i64 i.op)) (v9 := .v (.bool false)) (v10 := .v (.bool false)) (v11 := .v (.bool false)) (v12 := .v (.bool false)) (v13 := v13) (v14 := .v undef) (v15 := .v undef) (v16 := .v undef) (v17 := .v undef) (v18 := .v undef) er2 e14 hX18 d2' hX20 hX21 hX22 hX24 hX26 hX23 hX25 hX27 hX28
  rw [code66_eq, code66_t]
  generalize tail66 (.region [] [] c66_18) (.region [] [] c66_20) (.region [] [] c66_21) (.region [] [] c66_22) (.region [] [] c66_23) (.region [] [] c66_24) (.region [] [] c66_25) (.region [] [] c66_26) (.region [] [] c66_27) (.region [] [] c66_28) = TL at tail ⊢
  clear hX18 hX20 hX21 hX22 hX23 hX24 hX25 hX26 hX27 hX28 d23 d25 d27 d28 a1 a2
  generalize (CC.region [] [] c66_0) = X0 at hX0 ⊢
  generalize (CC.region [] [] c66_4) = X4
  generalize (CC.region [] [] c66_5) = X5
  generalize (CC.region [] [] c66_7) = X7
  generalize (CC.region [] [] c66_9) = X9
  generalize (CC.region [] [] c66_11) = X11
  generalize (CC.region [] [] c66_15) = X15 at hX15 ⊢
  generalize (CC.region [] [] c66_16) = X16 at hX16 ⊢
  simp only [st66a] at hX0
  simp only [FN] at hX15 hX16 tail
  have c1 : ((r : Int).tmod 2 == 1) = (r % 2 == 1) := by
    rw [hm2]
    cases h : (r % 2 == 1) with
    | true => have := eq_of_beq h; rw [this]; rfl
    | false => rw [beq_eq_false_iff_ne] at h ⊢; omega
  have c4 : ((k : Int) == 4) = (k == 4) := by
    cases h : (k == 4) with
    | true => have := eq_of_beq h; rw [this]; rfl
    | false => rw [beq_eq_false_iff_ne] at h ⊢; omega
  unfold nmS at hN
  cases t1 : (r % 2 == 1) with
  | false =>
    rw [t1, Bool.false_and, if_neg (by simp)] at hN
    obtain ⟨vs, tail⟩ := tail (.v (.bool false))
    subst hN
    simp only [hX0, hX16, e_mkfn, List.map_cons, List.map_nil, t_ld, tlO, i_eq, i_lt, i_gt, c66_1, c66_2, c66_3, c66_6, c66_8, c66_10, c66_12, c66_13, c66_14, h21, h22, h23, hlo, hhi, es, eq5, er5, er2, kinds_ok, e_ixa, hkn, hka, c1, t1, tail, Q122, Q0, Q1, Q2, Q3, Q4, Q5, Q6, Q7, Q8, Q9, Q10, Q11, Q12, Q13, Q14, Q15, Q16, Q17, Q18, Q19, Q20, Q21, Q22, Q23, Q24, Q25, Q26, Q27, Q28, Q29, Q30, Q31, Q32, Q33, Q35, Q36, Q37, Q38, Q39, Q40, Q41, Q42, Q43, Q44, Q45, Q46, Q47, Q48, Q49, Q50, Q51, Q52, Q53, Q54, Q55, Q56, Q57, Q58, Q59, Q60, Q61, Q62, Q63, Q64, Q65, Q66, Q67, Q68, Q69, Q70, Q71, Q72, Q73, Q99, Q100, Q101, Q102, Q103, Q74, Q75, Q77, Q78, Q79, Q80, Q81, Q82, Q83, Q84, clr, List.length_nil, List.length_cons, List.getElem?_cons_zero, List.getElem?_cons_succ, Nat.reduceAdd, Nat.zero_add, Nat.add_zero, Nat.reduceLeDiff, Nat.reduceSub, ↓reduceIte, List.drop_succ_cons, List.drop_zero, List.take_succ_cons, List.take_zero, Bool.false_eq_true, List.nil_append, List.cons_append, Bool.not_true, Bool.not_false, cond_true, cond_false, bne, Q85, Q86, Q87, Q88, Q89, Q90, Q91, Q92, Q93, Q94, Q95, Q96, Q97, Q98, Q110, Q111, Q116, Q117, Q118, Q119, Q120, Q121, Q122, Q123, Option.map_some, Option.map_none, -Q78]
    exact ⟨_, rfl⟩
  | true =>
    cases t4 : (k == 4) with
    | false =>
      rw [t1, t4, Bool.and_false, if_neg (by simp)] at hN
      obtain ⟨vs, tail⟩ := tail (.v (.bool false))
      subst hN
      simp only [hX0, hX16, e_mkfn, List.map_cons, List.map_nil, t_ld, tlO, i_eq, i_lt, i_gt, c66_1, c66_2, c66_3, c66_6, c66_8, c66_10, c66_12, c66_13, c66_14, h21, h22, h23, hlo, hhi, es, eq5, er5, er2, kinds_ok, e_ixa, hkn, hka, c1, c4, t1, t4, tail, Q122, Q0, Q1, Q2, Q3, Q4, Q5, Q6, Q7, Q8, Q9, Q10, Q11, Q12, Q13, Q14, Q15, Q16, Q17, Q18, Q19, Q20, Q21, Q22, Q23, Q24, Q25, Q26, Q27, Q28, Q29, Q30, Q31, Q32, Q33, Q35, Q36, Q37, Q38, Q39, Q40, Q41, Q42, Q43, Q44, Q45, Q46, Q47, Q48, Q49, Q50, Q51, Q52, Q53, Q54, Q55, Q56, Q57, Q58, Q59, Q60, Q61, Q62, Q63, Q64, Q65, Q66, Q67, Q68, Q69, Q70, Q71, Q72, Q73, Q99, Q100, Q101, Q102, Q103, Q74, Q75, Q77, Q78, Q79, Q80, Q81, Q82, Q83, Q84, clr, List.length_nil, List.length_cons, List.getElem?_cons_zero, List.getElem?_cons_succ, Nat.reduceAdd, Nat.zero_add, Nat.add_zero, Nat.reduceLeDiff, Nat.reduceSub, ↓reduceIte, List.drop_succ_cons, List.drop_zero, List.take_succ_cons, List.take_zero, Bool.false_eq_true, List.nil_append, List.cons_append, Bool.not_true, Bool.not_false, cond_true, cond_false, bne, Q85, Q86, Q87, Q88, Q89, Q90, Q91, Q92, Q93, Q94, Q95, Q96, Q97, Q98, Q110, Q111, Q116, Q117, Q118, Q119, Q120, Q121, Q122, Q123, Option.map_some, Option.map_none, -Q78]
      exact ⟨_, rfl⟩
    | true =>
      rw [t1, t4, Bool.and_true, if_pos rfl] at hN
      obtain ⟨vs, tail⟩ := tail (.v (.bool true))
      subst hN
      simp only [hX0, hX15, hX16, e_mkfn, List.map_cons, List.map_nil, t_ld, tlO, i_eq, i_lt, i_gt, c66_1, c66_2, c66_3, c66_6, c66_8, c66_10, c66_12, c66_13, c66_14, h21, h22, h23, hlo, hhi, es, eq5, er5, er2, kinds_ok, e_ixa, hkn, hka, c1, c4, t1, t4, tail, Q122, Q0, Q1, Q2, Q3, Q4, Q5, Q6, Q7, Q8, Q9, Q10, Q11, Q12, Q13, Q14, Q15, Q16, Q17, Q18, Q19, Q20, Q21, Q22, Q23, Q24, Q25, Q26, Q27, Q28, Q29, Q30, Q31, Q32, Q33, Q35, Q36, Q37, Q38, Q39, Q40, Q41, Q42, Q43, Q44, Q45, Q46, Q47, Q48, Q49, Q50, Q51, Q52, Q53, Q54, Q55, Q56, Q57, Q58, Q59, Q60, Q61, Q62, Q63, Q64, Q65, Q66, Q67, Q68, Q69, Q70, Q71, Q72, Q73, Q99, Q100, Q101, Q102, Q103, Q74, Q75, Q77, Q78, Q79, Q80, Q81, Q82, Q83, Q84, clr, List.length_nil, List.length_cons, List.getElem?_cons_zero, List.getElem?_cons_succ, Nat.reduceAdd, Nat.zero_add, Nat.add_zero, Nat.reduceLeDiff, Nat.reduceSub, ↓reduceIte, List.drop_succ_cons, List.drop_zero, List.take_succ_cons, List.take_zero, Bool.false_eq_true, List.nil_append, List.cons_append, Bool.not_true, Bool.not_false, cond_true, cond_false, bne, Q85, Q86, Q87, Q88, Q89, Q90, Q91, Q92, Q93, Q94, Q95, Q96, Q97, Q98, Q110, Q111, Q116, Q117, Q118, Q119, Q120, Q121, Q122, Q123, Option.map_some, Option.map_none, -Q78]
      exact ⟨_, rfl⟩
end Go.AE.YtinhjhkmpknbbaaDoor
end

/-! An instruction's text: the program's line, of any instruction. -/
section
set_option linter.unusedVariables false
set_option linter.unusedSimpArgs false
namespace Go.AE.YtinhjhkmpknbbaaDoor
open Go Go.AE Go.Proofs.YtinhjhkmpknbbaaDoor

theorem line_ok {H : List AO} {b rid : Nat} {q : List UInt8} {i : In} (ra : rg i.a) (rb : rg i.b) (rc : rg i.n) (h : Bd H b rid q) (hb : H.all (AO.below H.length) = true) (hl : q.length ≤ 70000000) : ∃ H', callW F 66 [.ptr b 0, .agg (inC i)] H = some (.tup [], H') ∧ Bd H' b rid (q ++ lineL i) ∧ Rst b rid H H' ∧ H'.all (AO.below H'.length) = true := by
  unfold lineL
  cases h21 : (i.op == 21) with
  | true => rw [if_pos rfl]; exact early21 ra rb rc h hb hl h21
  | false =>
  rw [if_neg (by simp)]
  cases h22 : (i.op == 22) with
  | true => rw [if_pos rfl]; exact early22 ra rb rc h hb hl h21 h22
  | false =>
  rw [if_neg (by simp)]
  cases h23 : (i.op == 23) with
  | true => rw [if_pos rfl]; exact early23 ra rb rc h hb hl h21 h22 h23
  | false =>
  rw [if_neg (by simp)]
  cases hlo : decide (i.op < 1) with
  | true => rw [Bool.true_or, if_pos rfl]; exact early1 ra rb rc h hb hl h21 h22 h23 hlo
  | false =>
  cases hhi : decide (i.op > 20) with
  | true => rw [Bool.or_true, if_pos rfl]; exact early20 ra rb rc h hb hl h21 h22 h23 hlo hhi
  | false =>
  rw [Bool.or_self, if_neg (by simp)]
  have h1 := of_decide_eq_false hlo
  have h2 := of_decide_eq_false hhi
  exact line_gen ra rb rc h hb hl (r := ((i.op - 1) / 5).toNat) (k := ((i.op - 1) % 5).toNat) (by omega) (by omega) (by omega)
theorem line_len {i : In} (ra : rg i.a) (rb : rg i.b) (rc : rg i.n) : (lineL i).length ≤ 1500 := by
  have hc := call_len rc
  have la := numT_len ra
  have lb := numT_len rb
  have lc := numT_len rc
  have lw := wrS_len i.nm
  have l1 := rn_len ((i.op - 1) / 5).toNat
  have l2 := nm_len ((i.op - 1) / 5).toNat ((i.op - 1) % 5).toNat
  have lm : ∀ r, (midL i r).length ≤ 22 := by
    intro r; unfold midL; split <;> simp only [List.length_cons, List.length_nil] <;> omega
  have ll : ∀ N, (lastL i N).length ≤ 1400 := by
    intro N; unfold lastL
    split
    · simp only [List.length_cons]; omega
    · split
      · simp only [List.length_cons]; omega
      · split
        · simp only [List.length_cons]; omega
        · exact hc
  have lm := lm ((i.op - 1) / 5).toNat
  have ll := ll (nmS ((i.op - 1) / 5).toNat ((i.op - 1) % 5).toNat)
  unfold lineL
  repeat' split
  all_goals simp only [List.length_append, List.length_cons, List.length_nil]
  all_goals omega
end Go.AE.YtinhjhkmpknbbaaDoor
end

/-! Instructions' text: the program's Text, walked. -/
section
set_option linter.unusedVariables false
set_option linter.unusedSimpArgs false
namespace Go.AE.YtinhjhkmpknbbaaDoor
open Go Go.AE Go.Proofs.YtinhjhkmpknbbaaDoor

def IsIn (a : AV) (i : In) : Prop := a = .agg (inC i)
def Ins (c : AV) (l : List In) : Prop := ∃ es, Sl 5 c es ∧ AllR IsIn es l ∧ es.length ≤ maxLen
theorem Ins.len {c : AV} {l : List In} (h : Ins c l) (H : List AO) : evLen H .slice c = some l.length := by
  obtain ⟨es, hs, ha, _⟩ := h
  rw [← ha.length]; exact hs.len H
theorem Ins.max {c : AV} {l : List In} (h : Ins c l) : l.length ≤ maxLen := by
  obtain ⟨es, hs, ha, hm⟩ := h
  rw [← ha.length]; exact hm
theorem Ins.at {c : AV} {l : List In} (h : Ins c l) {i : Nat} (hi : i < l.length) (H : List AO) : iaV H 5 c (some i) = some (.ip (inC l[i])) := by
  obtain ⟨es, hs, ha, _⟩ := h
  obtain ⟨a, e1, e2⟩ := ha.get' (List.getElem?_eq_getElem hi)
  have q := hs.ia e1 H
  rw [show a = .agg (inC l[i]) from e2] at q
  exact q
theorem Ins.sn {c : AV} {l : List In} (h : Ins c l) (H : List AO) : c.snap1 H = some c := by
  obtain ⟨es, hs, _⟩ := h
  exact hs.snap H
def textL (l : List In) : List UInt8 := l.flatMap fun i => lineL i ++ [10]
def rgI (i : In) : Prop := rg i.a ∧ rg i.b ∧ rg i.n
theorem text_len : ∀ {l : List In}, (∀ i ∈ l, rgI i) → (textL l).length ≤ 1501 * l.length
  | [], _ => by simp [textL]
  | i :: l, h => by
    have h1 := h i (List.mem_cons_self ..)
    have h2 := line_len h1.1 h1.2.1 h1.2.2
    have h3 := text_len (l := l) fun j hj => h j (List.mem_cons_of_mem _ hj)
    have : textL (i :: l) = (lineL i ++ [10]) ++ textL l := rfl
    rw [this, List.length_append, List.length_append, List.length_cons, List.length_cons, List.length_nil]; omega
theorem text_take {l : List In} {i : Nat} (h : i < l.length) : textL (l.take (i + 1)) = textL (l.take i) ++ (lineL l[i] ++ [10]) := by
  have : l.take (i + 1) = l.take i ++ [l[i]] := by rw [List.take_add_one, List.getElem?_eq_getElem h]; rfl
  rw [this, textL, List.flatMap_append]
  simp [textL]
theorem in_bel (i : In) (n : Nat) : AO.below n (.box 58 (inC i)) = true := rfl
def B0 : List AO := [.box 103 [.v (.pointer none), .v (.slice none 0 0)]]
def V34 (c : AV) (len i : Int) (x7 : AV) : List AV := [.junk, .junk, .ptr 0 0, .junk, c, .v (.int .i64 len), .v (.int .i64 i), x7]
def K34 : List Bool := [false, false, true, false, true, true, true, false]
def St (i : Nat) (h : List AO) (q : List UInt8) : Prop := (i = 0 ∧ h = B0 ∧ q = []) ∨ (0 < i ∧ Bd h 0 2 q ∧ h.all (AO.below h.length) = true)
theorem mark34 {i : Nat} {h : List AO} {q : List UInt8} (hs : St i h q) (x : In) : ∃ h2, (∀ v0 v1 v4 v5 v6 v7 : AV, doMark ([v0, v1, .ptr 0 0, .ptr h.length 0, v4, v5, v6, v7], h ++ [.box 58 (inC x)]) (.ap 2 1 5 1) = ([v0, v1, .ptr 0 0, .ptr h.length 0, v4, v5, v6, v7], h2)) ∧ Bd h2 0 2 q ∧ h2.all (AO.below h2.length) = true ∧ Q76 h2 true 5 (.ptr h.length 0) = some (.agg (inC x)) := by
  rcases hs with ⟨rfl, rfl, rfl⟩ | ⟨_, hB, hb⟩
  · refine ⟨[.box 103 [.v (.pointer none), .own 1 2 0 0 0], .box 58 (inC x), .row 5 1 0 [] 0], fun _ _ _ _ _ _ => rfl, ⟨_, 0, .inl rfl, ⟨rfl, rfl⟩⟩, rfl, rfl⟩
  · refine ⟨h ++ [.box 58 (inC x)], fun v0 v1 v4 v5 v6 v7 => ?_, hB.app, ?_, ?_⟩
    · obtain ⟨p, ver, hp, hB⟩ := hB
      have := his_get (l := [.box 58 (inC x)]) hB.box
      simp only [doMark, List.getD_cons_succ, List.getD_cons_zero, this]
      rfl
    · exact app_below hb rfl
    · rw [ld_new]; rfl
theorem text_loop {K : Nat} {c : AV} {l : List In} (hc : Ins c l) (hr : ∀ i ∈ l, rgI i) (hl : l.length ≤ 2000) (hK : l.length < K) (v : List AV) (hv : clr K34 v = V34 c l.length 0 .junk) :
    ∃ h', loopN (exec (callW F) K c34_8) K34 K v B0 = some (.exit 0, V34 c l.length l.length (.v (.bool false)), h') ∧ St l.length h' (textL l) := by
  obtain ⟨e, v', h', g1, g2, rfl, rfl, g3⟩ := loop_rule0 (call := callW F) (K := K) (b := c34_8) (keep := K34) (fun i v h => v = V34 c l.length i .junk ∧ St i h (textL (l.take i)))
    (fun e v h => e = .exit 0 ∧ v = V34 c l.length l.length (.v (.bool false)) ∧ St l.length h (textL l)) l.length (m := K) (v := v) (h := B0) hK ⟨hv, .inl ⟨rfl, rfl, rfl⟩⟩ (by
      rintro i v h hi ⟨rfl, hs⟩
      by_cases hil : i < l.length
      · have hlt := lt_t hil
        have hw := wrap_succ hil hc.max
        have e1 := fun H => hc.at hil H
        have hx := hr _ (List.getElem_mem hil)
        have hq := text_len (l := l.take i) fun j hj => hr j (List.mem_of_mem_take hj)
        have hti : (l.take i).length ≤ 2000 := by rw [List.length_take]; omega
        have hll := line_len hx.1 hx.2.1 hx.2.2
        have z : (ofVal (.agg #[.int .i64 0, .int .i64 0, .int .i64 0, .string ⟨#[]⟩, .int .i64 0])).cl = some [.v (.int .i64 0), .v (.int .i64 0), .v (.int .i64 0), .v (.string ⟨#[]⟩), .v (.int .i64 0)] := by kernel_rfl
        have ip5 : ∀ H : List AO, Q76 H true 5 (.ip (inC l[i])) = some (.agg (inC l[i])) := fun _ => rfl
        have st : Q113 (h ++ [.box 58 [.v (.int .i64 0), .v (.int .i64 0), .v (.int .i64 0), .v (.string ⟨#[]⟩), .v (.int .i64 0)]]) 5 (.ptr h.length 0) (.agg (inC l[i])) = some (h ++ [.box 58 (inC l[i])]) := st_new (show (AV.agg (inC l[i])).cl = some (inC l[i]) from rfl) rfl rfl
        obtain ⟨h2, mk, b2, m2, ld⟩ := mark34 hs l[i]
        obtain ⟨h3, d3, b3, r3, m3⟩ := line_ok hx.1 hx.2.1 hx.2.2 b2 m2 (by omega)
        obtain ⟨h4, d4, b4, r4, m4⟩ := wbyte_ok b3 m3 10 (by rw [List.length_append]; omega)
        have d4' : callW F 67 [.ptr 0 0, .v (.int .u8 10)] h3 = some (.v .nilIface, h4) := d4
        have hn : St (i + 1) h4 (textL (l.take (i + 1))) := by
          rw [text_take hil, ← List.append_assoc]
          exact .inr ⟨by omega, b4, m4⟩
        refine ⟨.normal, [.junk, .junk, .ptr 0 0, .ptr h.length 0, c, .v (.int .i64 l.length), .v (.int .i64 ((i + 1 : Nat) : Int)), .v (.bool true)], h4, ?_, hil, rfl, hn⟩
        generalize inC l[i] = C at *
        simp only [V34, c34_8, c34_3, c34_4, c34_5, c34_6, c34_7, hlt, hw, e1, ip5, z, st, x_region_m, List.foldl_cons, List.foldl_nil, mk, marked_eq, ld, d3, d4', e_callh, List.map_cons, List.map_nil, Q0, Q1, Q2, Q3, Q4, Q5, Q6, Q7, Q8, Q9, Q10, Q11, Q12, Q13, Q14, Q15, Q16, Q17, Q18, Q19, Q20, Q21, Q22, Q23, Q24, Q25, Q26, Q27, Q28, Q29, Q30, Q31, Q32, Q33, Q35, Q36, Q37, Q38, Q39, Q40, Q41, Q42, Q43, Q44, Q45, Q46, Q47, Q48, Q49, Q50, Q51, Q52, Q53, Q54, Q55, Q56, Q57, Q58, Q59, Q60, Q61, Q62, Q63, Q64, Q65, Q66, Q67, Q68, Q69, Q70, Q71, Q72, Q73, Q99, Q100, Q101, Q102, Q103, Q74, Q75, Q77, Q78, Q79, Q80, Q81, Q82, Q83, Q84, clr, List.length_nil, List.length_cons, List.getElem?_cons_zero, List.getElem?_cons_succ, Nat.reduceAdd, Nat.zero_add, Nat.add_zero, Nat.reduceLeDiff, Nat.reduceSub, ↓reduceIte, List.drop_succ_cons, List.drop_zero, List.take_succ_cons, List.take_zero, Bool.false_eq_true, List.nil_append, List.cons_append, Bool.not_true, Bool.not_false, cond_true, cond_false, bne, Q85, Q86, Q87, Q88, Q89, Q90, Q91, Q92, Q93, Q94, Q95, Q96, Q97, Q98, Q110, Q111, Q116, Q117, Q118, Q119, Q120, Q121, Q122, Q123, Option.map_some, Option.map_none, Q34]
      · have hie : i = l.length := by omega
        subst hie
        have hlt := lt_f (n := l.length)
        rw [List.take_length] at hs
        refine ⟨.exit 0, V34 c l.length l.length (.v (.bool false)), h, ?_, rfl, rfl, hs⟩
        simp only [V34, c34_8, c34_3, hlt, Q0, Q1, Q2, Q3, Q4, Q5, Q6, Q7, Q8, Q9, Q10, Q11, Q12, Q13, Q14, Q15, Q16, Q17, Q18, Q19, Q20, Q21, Q22, Q23, Q24, Q25, Q26, Q27, Q28, Q29, Q30, Q31, Q32, Q33, Q35, Q36, Q37, Q38, Q39, Q40, Q41, Q42, Q43, Q44, Q45, Q46, Q47, Q48, Q49, Q50, Q51, Q52, Q53, Q54, Q55, Q56, Q57, Q58, Q59, Q60, Q61, Q62, Q63, Q64, Q65, Q66, Q67, Q68, Q69, Q70, Q71, Q72, Q73, Q99, Q100, Q101, Q102, Q103, Q74, Q75, Q77, Q78, Q79, Q80, Q81, Q82, Q83, Q84, clr, List.length_nil, List.length_cons, List.getElem?_cons_zero, List.getElem?_cons_succ, Nat.reduceAdd, Nat.zero_add, Nat.add_zero, Nat.reduceLeDiff, Nat.reduceSub, ↓reduceIte, List.drop_succ_cons, List.drop_zero, List.take_succ_cons, List.take_zero, Bool.false_eq_true, List.nil_append, List.cons_append, Bool.not_true, Bool.not_false, cond_true, cond_false, bne, Q85, Q86, Q87, Q88, Q89, Q90, Q91, Q92, Q93, Q94, Q95, Q96, Q97, Q98, Q110, Q111, Q116, Q117, Q118, Q119, Q120, Q121, Q122, Q123, Option.map_some, Option.map_none, Q34])
  exact ⟨h', g1, g3⟩
theorem text_ne {l : List In} (h : l ≠ []) : textL l ≠ [] := by
  cases l with
  | nil => exact absurd rfl h
  | cons i l => simp [textL]
theorem text_ok {c : AV} {l : List In} (hc : Ins c l) (hr : ∀ i ∈ l, rgI i) (hl : l.length ≤ 2000) : callW F 34 [c] [] = some (.v (.string ⟨(textL l).toArray⟩), []) := by
  have q1 := fun H => hc.len H
  obtain ⟨h', lp, hs⟩ := text_loop (K := l.length + 1) hc hr hl (by omega) [c, .v (.string ⟨#[]⟩), .ptr 0 0, .v undef, c, .v (.int .i64 l.length), .v (.int .i64 0), .v undef] rfl
  have hq := text_len hr
  have hstr : ∃ H', callW F 68 [.ptr 0 0] h' = some (.v (.string ⟨(textL l).toArray⟩), H') := by
    rcases hs with ⟨h0, rfl, e⟩ | ⟨h0, hB, hb⟩
    · rw [e]
      exact ⟨_, callW_oracle (g := stringG 103 5) rfl rfl⟩
    · exact hB.string (text_ne (by intro e; rw [e] at h0; simp at h0)) (by omega)
  obtain ⟨H', d⟩ := hstr
  have oz : (ofVal (.agg #[(.pointer none), (.slice none 0 0)])).cl = some [.v (.pointer none), .v (.slice none 0 0)] := by simp [ofVal, AV.cl, Value.oneCell']
  have bz : bx [] 103 (some [.v (.pointer none), .v (.slice none 0 0)]) = some (.ptr 0 0, B0) := rfl
  generalize (⟨(textL l).toArray⟩ : ByteArray) = W at d ⊢
  refine callW_pure (c := c34) rfl rfl (l.length + 1) ?_
  rw [show c34.body = (.seq (.region [] [] c34_0) (.seq (.region [] [] c34_1) (.seq (.seq (.region [] [] c34_2) (.block 0 (.loop K34 [] c34_8))) (.seq (.region [] [] c34_9) .ret)))) from rfl]
  simp only [V34] at lp
  generalize c34_8 = bb at lp ⊢
  simp only [c34, start, List.replicate, c34_0, c34_1, c34_2, c34_9, oz, bz, q1, lp, d, e_callh, List.map_cons, List.map_nil, Q0, Q1, Q2, Q3, Q4, Q5, Q6, Q7, Q8, Q9, Q10, Q11, Q12, Q13, Q14, Q15, Q16, Q17, Q18, Q19, Q20, Q21, Q22, Q23, Q24, Q25, Q26, Q27, Q28, Q29, Q30, Q31, Q32, Q33, Q35, Q36, Q37, Q38, Q39, Q40, Q41, Q42, Q43, Q44, Q45, Q46, Q47, Q48, Q49, Q50, Q51, Q52, Q53, Q54, Q55, Q56, Q57, Q58, Q59, Q60, Q61, Q62, Q63, Q64, Q65, Q66, Q67, Q68, Q69, Q70, Q71, Q72, Q73, Q99, Q100, Q101, Q102, Q103, Q74, Q75, Q77, Q78, Q79, Q80, Q81, Q82, Q83, Q84, clr, List.length_nil, List.length_cons, List.getElem?_cons_zero, List.getElem?_cons_succ, Nat.reduceAdd, Nat.zero_add, Nat.add_zero, Nat.reduceLeDiff, Nat.reduceSub, ↓reduceIte, List.drop_succ_cons, List.drop_zero, List.take_succ_cons, List.take_zero, Bool.false_eq_true, List.nil_append, List.cons_append, Bool.not_true, Bool.not_false, cond_true, cond_false, bne, Q85, Q86, Q87, Q88, Q89, Q90, Q91, Q92, Q93, Q94, Q95, Q96, Q97, Q98, Q110, Q111, Q116, Q117, Q118, Q119, Q120, Q121, Q122, Q123, Option.map_some, Option.map_none]
end Go.AE.YtinhjhkmpknbbaaDoor
end

/-! An instruction's text: the document's line: its leaves. -/
section
set_option linter.unusedVariables false
set_option linter.unusedSimpArgs false
namespace Go.AE.YtinhjhkmpknbbaaDoor
open Go Go.AE Go.Proofs.YtinhjhkmpknbbaaDoor

def nmR (k : Nat) : ByteArray := if k < 20 then ⟨(bl (rn (k / 5)) ++ 95 :: bl (nmS (k / 5) (k % 5))).toArray⟩ else if k = 20 then ⟨#[99, 97, 108, 108]⟩ else if k = 21 then ⟨#[99, 117, 116]⟩ else ⟨#[101, 110, 100]⟩
theorem name_tab : (List.range 23).map (fun (k : Nat) => callN F 10 98 [.v (.int .i64 ((k : Int) + 1))] []) = (List.range 23).map fun (k : Nat) => some (.v (.string (nmR k)), []) := by kernel_rfl
theorem name_ok {k : Nat} (h : k < 23) : callW F 98 [.v (.int .i64 ((k : Int) + 1))] [] = some (.v (.string (nmR k)), []) :=
  callW_iff.2 ⟨10, List.map_inj_left.1 name_tab k (List.mem_range.2 h)⟩
def bI (i : In) : List AO := [.box 58 (inC i)]
section
variable {call : CallF} {K : Nat} {i : In} {P Q R S T Y Z U W : ByteArray} {y : Int} {v0 v1 v2 v3 v4 v5 v6 v7 v8 v9 v10 : AV}
theorem bO : Q76 (bI i) false 1 (.ptr 0 0) = some (.v (.int .i64 i.op)) := rfl
theorem bA : Q76 (bI i) false 1 (.ptr 0 1) = some (.v (.int .i64 i.a)) := rfl
theorem bB : Q76 (bI i) false 1 (.ptr 0 2) = some (.v (.int .i64 i.b)) := rfl
theorem bM : Q76 (bI i) false 1 (.ptr 0 3) = some (.v (.string i.nm)) := rfl
theorem bN : Q76 (bI i) false 1 (.ptr 0 4) = some (.v (.int .i64 i.n)) := rfl
theorem rlN {o : Nat} (hl : Q76 (bI i) false 1 (.ptr 0 o) = some (.v (.int .i64 y))) (hx : call 99 [.v (.int .i64 y)] [] = some (.v (.string S), [])) (a1 : Q78 .add (.v (.string Y)) (.v (.string S)) = some (.v (.string T))) (a2 : Q78 .add (.v (.string P)) (.v (.string T)) = some (.v (.string R))) :
    exec call K (.region [] [] [⟨(.mov (.var 3)), none, none⟩, ⟨(.fa o (.var 1)), none, none⟩, ⟨(.load false 1 (.loc 0)), none, none⟩, ⟨(.call true 99 [(.loc 0)]), none, none⟩, ⟨(.bin .add (.k (.string Y)) (.loc 0)), none, none⟩, ⟨(.bin .add (.loc 4) (.loc 0)), none, none⟩, ⟨(.mov (.loc 0)), (some 3), none⟩]) [v0, .ptr 0 0, v2, .v (.string P), v4, v5, v6, v7, v8, v9, v10] (bI i) = some (.normal, [v0, .ptr 0 0, v2, .v (.string R), v4, v5, v6, v7, v8, v9, v10], bI i) := by
  simp only [hl, hx, a1, a2, snap_int, Q0, Q1, Q2, Q3, Q4, Q5, Q6, Q7, Q8, Q9, Q10, Q11, Q12, Q13, Q14, Q15, Q16, Q17, Q18, Q19, Q20, Q21, Q22, Q23, Q24, Q25, Q26, Q27, Q28, Q29, Q30, Q31, Q32, Q33, Q35, Q36, Q37, Q38, Q39, Q40, Q41, Q42, Q43, Q44, Q45, Q46, Q47, Q48, Q49, Q50, Q51, Q52, Q53, Q54, Q55, Q56, Q57, Q58, Q59, Q60, Q61, Q62, Q63, Q64, Q65, Q66, Q67, Q68, Q69, Q70, Q71, Q72, Q73, Q99, Q100, Q101, Q102, Q103, Q74, Q75, Q77, Q78, Q79, Q80, Q81, Q82, Q83, Q84, clr, List.length_nil, List.length_cons, List.getElem?_cons_zero, List.getElem?_cons_succ, Nat.reduceAdd, Nat.zero_add, Nat.add_zero, Nat.reduceLeDiff, Nat.reduceSub, ↓reduceIte, List.drop_succ_cons, List.drop_zero, List.take_succ_cons, List.take_zero, Bool.false_eq_true, List.nil_append, List.cons_append, Bool.not_true, Bool.not_false, cond_true, cond_false, bne, Q85, Q86, Q87, Q88, Q89, Q90, Q91, Q92, Q93, Q94, Q95, Q96, Q97, Q98, Q110, Q111, Q116, Q117, Q118, Q119, Q120, Q121, Q122, Q123, Option.map_some, Option.map_none, Q34, -Q78]
theorem rlM (hx : call 100 [.v (.string i.nm)] [] = some (.v (.string S), [])) (a1 : Q78 .add (.v (.string Y)) (.v (.string S)) = some (.v (.string T))) (a2 : Q78 .add (.v (.string P)) (.v (.string T)) = some (.v (.string R))) :
    exec call K (.region [] [] [⟨(.mov (.var 3)), none, none⟩, ⟨(.fa 3 (.var 1)), none, none⟩, ⟨(.load false 1 (.loc 0)), none, none⟩, ⟨(.call true 100 [(.loc 0)]), none, none⟩, ⟨(.bin .add (.k (.string Y)) (.loc 0)), none, none⟩, ⟨(.bin .add (.loc 4) (.loc 0)), none, none⟩, ⟨(.mov (.loc 0)), (some 3), none⟩]) [v0, .ptr 0 0, v2, .v (.string P), v4, v5, v6, v7, v8, v9, v10] (bI i) = some (.normal, [v0, .ptr 0 0, v2, .v (.string R), v4, v5, v6, v7, v8, v9, v10], bI i) := by
  simp only [bM, hx, a1, a2, snap_str, Q0, Q1, Q2, Q3, Q4, Q5, Q6, Q7, Q8, Q9, Q10, Q11, Q12, Q13, Q14, Q15, Q16, Q17, Q18, Q19, Q20, Q21, Q22, Q23, Q24, Q25, Q26, Q27, Q28, Q29, Q30, Q31, Q32, Q33, Q35, Q36, Q37, Q38, Q39, Q40, Q41, Q42, Q43, Q44, Q45, Q46, Q47, Q48, Q49, Q50, Q51, Q52, Q53, Q54, Q55, Q56, Q57, Q58, Q59, Q60, Q61, Q62, Q63, Q64, Q65, Q66, Q67, Q68, Q69, Q70, Q71, Q72, Q73, Q99, Q100, Q101, Q102, Q103, Q74, Q75, Q77, Q78, Q79, Q80, Q81, Q82, Q83, Q84, clr, List.length_nil, List.length_cons, List.getElem?_cons_zero, List.getElem?_cons_succ, Nat.reduceAdd, Nat.zero_add, Nat.add_zero, Nat.reduceLeDiff, Nat.reduceSub, ↓reduceIte, List.drop_succ_cons, List.drop_zero, List.take_succ_cons, List.take_zero, Bool.false_eq_true, List.nil_append, List.cons_append, Bool.not_true, Bool.not_false, cond_true, cond_false, bne, Q85, Q86, Q87, Q88, Q89, Q90, Q91, Q92, Q93, Q94, Q95, Q96, Q97, Q98, Q110, Q111, Q116, Q117, Q118, Q119, Q120, Q121, Q122, Q123, Option.map_some, Option.map_none, Q34, -Q78]
theorem rlC (hx : call 100 [.v (.string i.nm)] [] = some (.v (.string S), [])) (hy : call 99 [.v (.int .i64 i.n)] [] = some (.v (.string Q), [])) (a1 : Q78 .add (.v (.string Y)) (.v (.string S)) = some (.v (.string T))) (a2 : Q78 .add (.v (.string T)) (.v (.string Z)) = some (.v (.string U))) (a3 : Q78 .add (.v (.string U)) (.v (.string Q)) = some (.v (.string W))) (a4 : Q78 .add (.v (.string P)) (.v (.string W)) = some (.v (.string R))) :
    exec call K (.region [] [] [⟨(.mov (.var 3)), none, none⟩, ⟨(.fa 3 (.var 1)), none, none⟩, ⟨(.load false 1 (.loc 0)), none, none⟩, ⟨(.call true 100 [(.loc 0)]), none, none⟩, ⟨(.bin .add (.k (.string Y)) (.loc 0)), none, none⟩, ⟨(.bin .add (.loc 0) (.k (.string Z))), none, none⟩, ⟨(.fa 4 (.var 1)), none, none⟩, ⟨(.load false 1 (.loc 0)), none, none⟩, ⟨(.call true 99 [(.loc 0)]), none, none⟩, ⟨(.bin .add (.loc 3) (.loc 0)), none, none⟩, ⟨(.bin .add (.loc 9) (.loc 0)), none, none⟩, ⟨(.mov (.loc 0)), (some 3), none⟩]) [v0, .ptr 0 0, v2, .v (.string P), v4, v5, v6, v7, v8, v9, v10] (bI i) = some (.normal, [v0, .ptr 0 0, v2, .v (.string R), v4, v5, v6, v7, v8, v9, v10], bI i) := by
  simp only [bM, bN, hx, hy, a1, a2, a3, a4, snap_str, snap_int, Q0, Q1, Q2, Q3, Q4, Q5, Q6, Q7, Q8, Q9, Q10, Q11, Q12, Q13, Q14, Q15, Q16, Q17, Q18, Q19, Q20, Q21, Q22, Q23, Q24, Q25, Q26, Q27, Q28, Q29, Q30, Q31, Q32, Q33, Q35, Q36, Q37, Q38, Q39, Q40, Q41, Q42, Q43, Q44, Q45, Q46, Q47, Q48, Q49, Q50, Q51, Q52, Q53, Q54, Q55, Q56, Q57, Q58, Q59, Q60, Q61, Q62, Q63, Q64, Q65, Q66, Q67, Q68, Q69, Q70, Q71, Q72, Q73, Q99, Q100, Q101, Q102, Q103, Q74, Q75, Q77, Q78, Q79, Q80, Q81, Q82, Q83, Q84, clr, List.length_nil, List.length_cons, List.getElem?_cons_zero, List.getElem?_cons_succ, Nat.reduceAdd, Nat.zero_add, Nat.add_zero, Nat.reduceLeDiff, Nat.reduceSub, ↓reduceIte, List.drop_succ_cons, List.drop_zero, List.take_succ_cons, List.take_zero, Bool.false_eq_true, List.nil_append, List.cons_append, Bool.not_true, Bool.not_false, cond_true, cond_false, bne, Q85, Q86, Q87, Q88, Q89, Q90, Q91, Q92, Q93, Q94, Q95, Q96, Q97, Q98, Q110, Q111, Q116, Q117, Q118, Q119, Q120, Q121, Q122, Q123, Option.map_some, Option.map_none, Q34, -Q78]
theorem rlE (a1 : Q78 .add (.v (.string P)) (.v (.string Y)) = some (.v (.string R))) :
    exec call K (.region [] [] [⟨(.mov (.var 3)), none, none⟩, ⟨(.bin .add (.loc 0) (.k (.string Y))), none, none⟩, ⟨(.mov (.loc 0)), (some 2), none⟩]) [v0, v1, v2, .v (.string P), v4, v5, v6, v7, v8, v9, v10] (bI i) = some (.normal, [v0, v1, .v (.string R), .v (.string P), v4, v5, v6, v7, v8, v9, v10], bI i) := by
  simp only [a1, Q0, Q1, Q2, Q3, Q4, Q5, Q6, Q7, Q8, Q9, Q10, Q11, Q12, Q13, Q14, Q15, Q16, Q17, Q18, Q19, Q20, Q21, Q22, Q23, Q24, Q25, Q26, Q27, Q28, Q29, Q30, Q31, Q32, Q33, Q35, Q36, Q37, Q38, Q39, Q40, Q41, Q42, Q43, Q44, Q45, Q46, Q47, Q48, Q49, Q50, Q51, Q52, Q53, Q54, Q55, Q56, Q57, Q58, Q59, Q60, Q61, Q62, Q63, Q64, Q65, Q66, Q67, Q68, Q69, Q70, Q71, Q72, Q73, Q99, Q100, Q101, Q102, Q103, Q74, Q75, Q77, Q78, Q79, Q80, Q81, Q82, Q83, Q84, clr, List.length_nil, List.length_cons, List.getElem?_cons_zero, List.getElem?_cons_succ, Nat.reduceAdd, Nat.zero_add, Nat.add_zero, Nat.reduceLeDiff, Nat.reduceSub, ↓reduceIte, List.drop_succ_cons, List.drop_zero, List.take_succ_cons, List.take_zero, Bool.false_eq_true, List.nil_append, List.cons_append, Bool.not_true, Bool.not_false, cond_true, cond_false, bne, Q85, Q86, Q87, Q88, Q89, Q90, Q91, Q92, Q93, Q94, Q95, Q96, Q97, Q98, Q110, Q111, Q116, Q117, Q118, Q119, Q120, Q121, Q122, Q123, Option.map_some, Option.map_none, Q34, -Q78]
end
end Go.AE.YtinhjhkmpknbbaaDoor
end

/-! An instruction's text: the document's line. -/
section
set_option linter.unusedVariables false
set_option linter.unusedSimpArgs false
namespace Go.AE.YtinhjhkmpknbbaaDoor
open Go Go.AE Go.Proofs.YtinhjhkmpknbbaaDoor

def code69 (X1 X13 X25 X30 X35 X39 X40 : CC) : CC := (.seq (.region [] [] c69_0) (.seq X1 (.seq (.seq (.region [] [] c69_2) (.block 0 (.seq (.seq (.region [] [] c69_3) (.cond (.var 5) .skip (.seq (.region [] [] c69_4) (.cond (.var 5) .skip (.seq (.region [] [] c69_5) (.cond (.var 5) .skip (.seq (.region [] [] c69_6) (.cond (.var 5) .skip (.seq (.region [] [] c69_7) (.cond (.var 5) .skip (.seq (.region [] [] c69_8) (.cond (.var 5) .skip (.seq (.region [] [] c69_9) (.cond (.var 5) .skip (.seq (.region [] [] c69_10) (.cond (.var 5) .skip (.seq (.region [] [] c69_11) (.cond (.var 5) .skip (.region [] [] c69_12))))))))))))))))))) (.cond (.var 5) X13 .skip)))) (.seq (.seq (.region [] [] c69_14) (.block 1 (.seq (.seq (.region [] [] c69_15) (.cond (.var 7) .skip (.seq (.region [] [] c69_16) (.cond (.var 7) .skip (.seq (.region [] [] c69_17) (.cond (.var 7) .skip (.seq (.region [] [] c69_18) (.cond (.var 7) .skip (.seq (.region [] [] c69_19) (.cond (.var 7) .skip (.seq (.region [] [] c69_20) (.cond (.var 7) .skip (.seq (.region [] [] c69_21) (.cond (.var 7) .skip (.seq (.region [] [] c69_22) (.cond (.var 7) .skip (.seq (.region [] [] c69_23) (.cond (.var 7) .skip (.region [] [] c69_24))))))))))))))))))) (.cond (.var 7) X25 (.seq (.seq (.region [] [] c69_26) (.cond (.var 8) .skip (.seq (.region [] [] c69_27) (.cond (.var 8) .skip (.seq (.region [] [] c69_28) (.cond (.var 8) .skip (.region [] [] c69_29))))))) (.cond (.var 8) X30 (.seq (.seq (.region [] [] c69_31) (.cond (.var 9) .skip (.seq (.region [] [] c69_32) (.cond (.var 9) .skip (.seq (.region [] [] c69_33) (.cond (.var 9) .skip (.region [] [] c69_34))))))) (.cond (.var 9) X35 (.seq (.seq (.region [] [] c69_36) (.cond (.var 10) .skip (.seq (.region [] [] c69_37) (.cond (.var 10) .skip (.region [] [] c69_38))))) (.cond (.var 10) X39 .skip)))))))))) (.seq X40 .ret)))))
theorem code69_eq : c69.body = code69 (.region [] [] c69_1) (.region [] [] c69_13) (.region [] [] c69_25) (.region [] [] c69_30) (.region [] [] c69_35) (.region [] [] c69_39) (.region [] [] c69_40) := rfl
theorem run69 {i : In} {op : Int} {P0 P1 P2 P3 : ByteArray} {X1 X13 X25 X30 X35 X39 X40 : CC} (hop : i.op = op) (hcode : c69.body = code69 X1 X13 X25 X30 X35 X39 X40)
    (h1 : ∀ v0 v2 v3 v4 v5 v6 v7 v8 v9 v10 : AV, exec (callW F) 0 X1 [v0, .ptr 0 0, v2, v3, v4, v5, v6, v7, v8, v9, v10] (bI i) = some (.normal, [v0, .ptr 0 0, v2, .v (.string P0), v4, v5, v6, v7, v8, v9, v10], bI i))
    (hA : [1, 2, 3, 4, 5, 11, 12, 13, 14, 15].contains op = true → ∀ v0 v2 v4 v5 v6 v7 v8 v9 v10 : AV, exec (callW F) 0 X13 [v0, .ptr 0 0, v2, .v (.string P0), v4, v5, v6, v7, v8, v9, v10] (bI i) = some (.normal, [v0, .ptr 0 0, v2, .v (.string P1), v4, v5, v6, v7, v8, v9, v10], bI i))
    (hA' : [1, 2, 3, 4, 5, 11, 12, 13, 14, 15].contains op = false → P1 = P0)
    (hB : [1, 2, 6, 7, 10, 11, 12, 16, 17, 20].contains op = true → ∀ v0 v2 v4 v5 v6 v7 v8 v9 v10 : AV, exec (callW F) 0 X25 [v0, .ptr 0 0, v2, .v (.string P1), v4, v5, v6, v7, v8, v9, v10] (bI i) = some (.normal, [v0, .ptr 0 0, v2, .v (.string P2), v4, v5, v6, v7, v8, v9, v10], bI i))
    (hM : [3, 8, 13, 18].contains op = true → ∀ v0 v2 v4 v5 v6 v7 v8 v9 v10 : AV, exec (callW F) 0 X30 [v0, .ptr 0 0, v2, .v (.string P1), v4, v5, v6, v7, v8, v9, v10] (bI i) = some (.normal, [v0, .ptr 0 0, v2, .v (.string P2), v4, v5, v6, v7, v8, v9, v10], bI i))
    (hN : [4, 9, 14, 19].contains op = true → ∀ v0 v2 v4 v5 v6 v7 v8 v9 v10 : AV, exec (callW F) 0 X35 [v0, .ptr 0 0, v2, .v (.string P1), v4, v5, v6, v7, v8, v9, v10] (bI i) = some (.normal, [v0, .ptr 0 0, v2, .v (.string P2), v4, v5, v6, v7, v8, v9, v10], bI i))
    (hC : [5, 15, 21].contains op = true → ∀ v0 v2 v4 v5 v6 v7 v8 v9 v10 : AV, exec (callW F) 0 X39 [v0, .ptr 0 0, v2, .v (.string P1), v4, v5, v6, v7, v8, v9, v10] (bI i) = some (.normal, [v0, .ptr 0 0, v2, .v (.string P2), v4, v5, v6, v7, v8, v9, v10], bI i))
    (hE : op < 1 ∨ op > 21 → P2 = P1)
    (h40 : ∀ v0 v2 v4 v5 v6 v7 v8 v9 v10 : AV, exec (callW F) 0 X40 [v0, .ptr 0 0, v2, .v (.string P2), v4, v5, v6, v7, v8, v9, v10] (bI i) = some (.normal, [v0, .ptr 0 0, .v (.string P3), .v (.string P2), v4, v5, v6, v7, v8, v9, v10], bI i))
    (hr : op < 1 ∨ op > 21 ∨ op = 1 ∨ op = 2 ∨ op = 3 ∨ op = 4 ∨ op = 5 ∨ op = 6 ∨ op = 7 ∨ op = 8 ∨ op = 9 ∨ op = 10 ∨ op = 11 ∨ op = 12 ∨ op = 13 ∨ op = 14 ∨ op = 15 ∨ op = 16 ∨ op = 17 ∨ op = 18 ∨ op = 19 ∨ op = 20 ∨ op = 21) :
    callW F 69 [.agg (inC i)] [] = some (.v (.string P3), []) := by
  have ci : (AV.agg (inC i)).cl = some (inC i) := rfl
  have b0 : bx [] 58 (some (inC i)) = some (.ptr 0 0, bI i) := rfl
  have bo : Q76 (bI i) false 1 (.ptr 0 0) = some (.v (.int .i64 op)) := by rw [← hop]; rfl
  refine callW_pure (c := c69) rfl rfl 0 ?_
  rw [hcode, show start c69 [.agg (inC i)] = [.agg (inC i), .v undef, .v undef, .v undef, .v undef, .v undef, .v undef, .v undef, .v undef, .v undef, .v undef] from rfl, show c69.res = [.var 2] from rfl]
  rcases hr with h | h | rfl | rfl | rfl | rfl | rfl | rfl | rfl | rfl | rfl | rfl | rfl | rfl | rfl | rfl | rfl | rfl | rfl | rfl | rfl | rfl | rfl
  · clear hA hB hM hN hC
    have n1 : (op == 1) = false := by rw [beq_eq_false_iff_ne]; omega
    have n2 : (op == 2) = false := by rw [beq_eq_false_iff_ne]; omega
    have n3 : (op == 3) = false := by rw [beq_eq_false_iff_ne]; omega
    have n4 : (op == 4) = false := by rw [beq_eq_false_iff_ne]; omega
    have n5 : (op == 5) = false := by rw [beq_eq_false_iff_ne]; omega
    have n6 : (op == 6) = false := by rw [beq_eq_false_iff_ne]; omega
    have n7 : (op == 7) = false := by rw [beq_eq_false_iff_ne]; omega
    have n8 : (op == 8) = false := by rw [beq_eq_false_iff_ne]; omega
    have n9 : (op == 9) = false := by rw [beq_eq_false_iff_ne]; omega
    have n10 : (op == 10) = false := by rw [beq_eq_false_iff_ne]; omega
    have n11 : (op == 11) = false := by rw [beq_eq_false_iff_ne]; omega
    have n12 : (op == 12) = false := by rw [beq_eq_false_iff_ne]; omega
    have n13 : (op == 13) = false := by rw [beq_eq_false_iff_ne]; omega
    have n14 : (op == 14) = false := by rw [beq_eq_false_iff_ne]; omega
    have n15 : (op == 15) = false := by rw [beq_eq_false_iff_ne]; omega
    have n16 : (op == 16) = false := by rw [beq_eq_false_iff_ne]; omega
    have n17 : (op == 17) = false := by rw [beq_eq_false_iff_ne]; omega
    have n18 : (op == 18) = false := by rw [beq_eq_false_iff_ne]; omega
    have n19 : (op == 19) = false := by rw [beq_eq_false_iff_ne]; omega
    have n20 : (op == 20) = false := by rw [beq_eq_false_iff_ne]; omega
    have n21 : (op == 21) = false := by rw [beq_eq_false_iff_ne]; omega
    have e1 := hA' (by simp only [List.contains_cons, List.contains_nil, n1, n2, n3, n4, n5, n6, n7, n8, n9, n10, n11, n12, n13, n14, n15, n16, n17, n18, n19, n20, n21, Bool.or_self])
    have e2 := hE (by omega)
    subst e2
    subst e1
    simp only [code69, c69_0, c69_2, c69_3, c69_4, c69_5, c69_6, c69_7, c69_8, c69_9, c69_10, c69_11, c69_12, c69_14, c69_15, c69_16, c69_17, c69_18, c69_19, c69_20, c69_21, c69_22, c69_23, c69_24, c69_26, c69_27, c69_28, c69_29, c69_31, c69_32, c69_33, c69_34, c69_36, c69_37, c69_38, ci, b0, bo, h1, h40, i_eq, n1, n2, n3, n4, n5, n6, n7, n8, n9, n10, n11, n12, n13, n14, n15, n16, n17, n18, n19, n20, n21, Q0, Q1, Q2, Q3, Q4, Q5, Q6, Q7, Q8, Q9, Q10, Q11, Q12, Q13, Q14, Q15, Q16, Q17, Q18, Q19, Q20, Q21, Q22, Q23, Q24, Q25, Q26, Q27, Q28, Q29, Q30, Q31, Q32, Q33, Q35, Q36, Q37, Q38, Q39, Q40, Q41, Q42, Q43, Q44, Q45, Q46, Q47, Q48, Q49, Q50, Q51, Q52, Q53, Q54, Q55, Q56, Q57, Q58, Q59, Q60, Q61, Q62, Q63, Q64, Q65, Q66, Q67, Q68, Q69, Q70, Q71, Q72, Q73, Q99, Q100, Q101, Q102, Q103, Q74, Q75, Q77, Q78, Q79, Q80, Q81, Q82, Q83, Q84, clr, List.length_nil, List.length_cons, List.getElem?_cons_zero, List.getElem?_cons_succ, Nat.reduceAdd, Nat.zero_add, Nat.add_zero, Nat.reduceLeDiff, Nat.reduceSub, ↓reduceIte, List.drop_succ_cons, List.drop_zero, List.take_succ_cons, List.take_zero, Bool.false_eq_true, List.nil_append, List.cons_append, Bool.not_true, Bool.not_false, cond_true, cond_false, bne, Q85, Q86, Q87, Q88, Q89, Q90, Q91, Q92, Q93, Q94, Q95, Q96, Q97, Q98, Q110, Q111, Q116, Q117, Q118, Q119, Q120, Q121, Q122, Q123, Option.map_some, Option.map_none, -Q78]
  · clear hA hB hM hN hC
    have n1 : (op == 1) = false := by rw [beq_eq_false_iff_ne]; omega
    have n2 : (op == 2) = false := by rw [beq_eq_false_iff_ne]; omega
    have n3 : (op == 3) = false := by rw [beq_eq_false_iff_ne]; omega
    have n4 : (op == 4) = false := by rw [beq_eq_false_iff_ne]; omega
    have n5 : (op == 5) = false := by rw [beq_eq_false_iff_ne]; omega
    have n6 : (op == 6) = false := by rw [beq_eq_false_iff_ne]; omega
    have n7 : (op == 7) = false := by rw [beq_eq_false_iff_ne]; omega
    have n8 : (op == 8) = false := by rw [beq_eq_false_iff_ne]; omega
    have n9 : (op == 9) = false := by rw [beq_eq_false_iff_ne]; omega
    have n10 : (op == 10) = false := by rw [beq_eq_false_iff_ne]; omega
    have n11 : (op == 11) = false := by rw [beq_eq_false_iff_ne]; omega
    have n12 : (op == 12) = false := by rw [beq_eq_false_iff_ne]; omega
    have n13 : (op == 13) = false := by rw [beq_eq_false_iff_ne]; omega
    have n14 : (op == 14) = false := by rw [beq_eq_false_iff_ne]; omega
    have n15 : (op == 15) = false := by rw [beq_eq_false_iff_ne]; omega
    have n16 : (op == 16) = false := by rw [beq_eq_false_iff_ne]; omega
    have n17 : (op == 17) = false := by rw [beq_eq_false_iff_ne]; omega
    have n18 : (op == 18) = false := by rw [beq_eq_false_iff_ne]; omega
    have n19 : (op == 19) = false := by rw [beq_eq_false_iff_ne]; omega
    have n20 : (op == 20) = false := by rw [beq_eq_false_iff_ne]; omega
    have n21 : (op == 21) = false := by rw [beq_eq_false_iff_ne]; omega
    have e1 := hA' (by simp only [List.contains_cons, List.contains_nil, n1, n2, n3, n4, n5, n6, n7, n8, n9, n10, n11, n12, n13, n14, n15, n16, n17, n18, n19, n20, n21, Bool.or_self])
    have e2 := hE (by omega)
    subst e2
    subst e1
    simp only [code69, c69_0, c69_2, c69_3, c69_4, c69_5, c69_6, c69_7, c69_8, c69_9, c69_10, c69_11, c69_12, c69_14, c69_15, c69_16, c69_17, c69_18, c69_19, c69_20, c69_21, c69_22, c69_23, c69_24, c69_26, c69_27, c69_28, c69_29, c69_31, c69_32, c69_33, c69_34, c69_36, c69_37, c69_38, ci, b0, bo, h1, h40, i_eq, n1, n2, n3, n4, n5, n6, n7, n8, n9, n10, n11, n12, n13, n14, n15, n16, n17, n18, n19, n20, n21, Q0, Q1, Q2, Q3, Q4, Q5, Q6, Q7, Q8, Q9, Q10, Q11, Q12, Q13, Q14, Q15, Q16, Q17, Q18, Q19, Q20, Q21, Q22, Q23, Q24, Q25, Q26, Q27, Q28, Q29, Q30, Q31, Q32, Q33, Q35, Q36, Q37, Q38, Q39, Q40, Q41, Q42, Q43, Q44, Q45, Q46, Q47, Q48, Q49, Q50, Q51, Q52, Q53, Q54, Q55, Q56, Q57, Q58, Q59, Q60, Q61, Q62, Q63, Q64, Q65, Q66, Q67, Q68, Q69, Q70, Q71, Q72, Q73, Q99, Q100, Q101, Q102, Q103, Q74, Q75, Q77, Q78, Q79, Q80, Q81, Q82, Q83, Q84, clr, List.length_nil, List.length_cons, List.getElem?_cons_zero, List.getElem?_cons_succ, Nat.reduceAdd, Nat.zero_add, Nat.add_zero, Nat.reduceLeDiff, Nat.reduceSub, ↓reduceIte, List.drop_succ_cons, List.drop_zero, List.take_succ_cons, List.take_zero, Bool.false_eq_true, List.nil_append, List.cons_append, Bool.not_true, Bool.not_false, cond_true, cond_false, bne, Q85, Q86, Q87, Q88, Q89, Q90, Q91, Q92, Q93, Q94, Q95, Q96, Q97, Q98, Q110, Q111, Q116, Q117, Q118, Q119, Q120, Q121, Q122, Q123, Option.map_some, Option.map_none, -Q78]
  ·   skip
      have hA := hA rfl
      have hB := hB rfl
      have n1 : ((1 : Int) == 1) = true := rfl
      have n2 : ((1 : Int) == 2) = false := rfl
      have n3 : ((1 : Int) == 3) = false := rfl
      have n4 : ((1 : Int) == 4) = false := rfl
      have n5 : ((1 : Int) == 5) = false := rfl
      have n6 : ((1 : Int) == 6) = false := rfl
      have n7 : ((1 : Int) == 7) = false := rfl
      have n8 : ((1 : Int) == 8) = false := rfl
      have n9 : ((1 : Int) == 9) = false := rfl
      have n10 : ((1 : Int) == 10) = false := rfl
      have n11 : ((1 : Int) == 11) = false := rfl
      have n12 : ((1 : Int) == 12) = false := rfl
      have n13 : ((1 : Int) == 13) = false := rfl
      have n14 : ((1 : Int) == 14) = false := rfl
      have n15 : ((1 : Int) == 15) = false := rfl
      have n16 : ((1 : Int) == 16) = false := rfl
      have n17 : ((1 : Int) == 17) = false := rfl
      have n18 : ((1 : Int) == 18) = false := rfl
      have n19 : ((1 : Int) == 19) = false := rfl
      have n20 : ((1 : Int) == 20) = false := rfl
      have n21 : ((1 : Int) == 21) = false := rfl
      simp only [code69, c69_0, c69_2, c69_3, c69_4, c69_5, c69_6, c69_7, c69_8, c69_9, c69_10, c69_11, c69_12, c69_14, c69_15, c69_16, c69_17, c69_18, c69_19, c69_20, c69_21, c69_22, c69_23, c69_24, c69_26, c69_27, c69_28, c69_29, c69_31, c69_32, c69_33, c69_34, c69_36, c69_37, c69_38, ci, b0, bo, h1, h40, hA, hB, i_eq, n1, n2, n3, n4, n5, n6, n7, n8, n9, n10, n11, n12, n13, n14, n15, n16, n17, n18, n19, n20, n21, Q0, Q1, Q2, Q3, Q4, Q5, Q6, Q7, Q8, Q9, Q10, Q11, Q12, Q13, Q14, Q15, Q16, Q17, Q18, Q19, Q20, Q21, Q22, Q23, Q24, Q25, Q26, Q27, Q28, Q29, Q30, Q31, Q32, Q33, Q35, Q36, Q37, Q38, Q39, Q40, Q41, Q42, Q43, Q44, Q45, Q46, Q47, Q48, Q49, Q50, Q51, Q52, Q53, Q54, Q55, Q56, Q57, Q58, Q59, Q60, Q61, Q62, Q63, Q64, Q65, Q66, Q67, Q68, Q69, Q70, Q71, Q72, Q73, Q99, Q100, Q101, Q102, Q103, Q74, Q75, Q77, Q78, Q79, Q80, Q81, Q82, Q83, Q84, clr, List.length_nil, List.length_cons, List.getElem?_cons_zero, List.getElem?_cons_succ, Nat.reduceAdd, Nat.zero_add, Nat.add_zero, Nat.reduceLeDiff, Nat.reduceSub, ↓reduceIte, List.drop_succ_cons, List.drop_zero, List.take_succ_cons, List.take_zero, Bool.false_eq_true, List.nil_append, List.cons_append, Bool.not_true, Bool.not_false, cond_true, cond_false, bne, Q85, Q86, Q87, Q88, Q89, Q90, Q91, Q92, Q93, Q94, Q95, Q96, Q97, Q98, Q110, Q111, Q116, Q117, Q118, Q119, Q120, Q121, Q122, Q123, Option.map_some, Option.map_none, -Q78]
  ·   skip
      have hA := hA rfl
      have hB := hB rfl
      have n1 : ((2 : Int) == 1) = false := rfl
      have n2 : ((2 : Int) == 2) = true := rfl
      have n3 : ((2 : Int) == 3) = false := rfl
      have n4 : ((2 : Int) == 4) = false := rfl
      have n5 : ((2 : Int) == 5) = false := rfl
      have n6 : ((2 : Int) == 6) = false := rfl
      have n7 : ((2 : Int) == 7) = false := rfl
      have n8 : ((2 : Int) == 8) = false := rfl
      have n9 : ((2 : Int) == 9) = false := rfl
      have n10 : ((2 : Int) == 10) = false := rfl
      have n11 : ((2 : Int) == 11) = false := rfl
      have n12 : ((2 : Int) == 12) = false := rfl
      have n13 : ((2 : Int) == 13) = false := rfl
      have n14 : ((2 : Int) == 14) = false := rfl
      have n15 : ((2 : Int) == 15) = false := rfl
      have n16 : ((2 : Int) == 16) = false := rfl
      have n17 : ((2 : Int) == 17) = false := rfl
      have n18 : ((2 : Int) == 18) = false := rfl
      have n19 : ((2 : Int) == 19) = false := rfl
      have n20 : ((2 : Int) == 20) = false := rfl
      have n21 : ((2 : Int) == 21) = false := rfl
      simp only [code69, c69_0, c69_2, c69_3, c69_4, c69_5, c69_6, c69_7, c69_8, c69_9, c69_10, c69_11, c69_12, c69_14, c69_15, c69_16, c69_17, c69_18, c69_19, c69_20, c69_21, c69_22, c69_23, c69_24, c69_26, c69_27, c69_28, c69_29, c69_31, c69_32, c69_33, c69_34, c69_36, c69_37, c69_38, ci, b0, bo, h1, h40, hA, hB, i_eq, n1, n2, n3, n4, n5, n6, n7, n8, n9, n10, n11, n12, n13, n14, n15, n16, n17, n18, n19, n20, n21, Q0, Q1, Q2, Q3, Q4, Q5, Q6, Q7, Q8, Q9, Q10, Q11, Q12, Q13, Q14, Q15, Q16, Q17, Q18, Q19, Q20, Q21, Q22, Q23, Q24, Q25, Q26, Q27, Q28, Q29, Q30, Q31, Q32, Q33, Q35, Q36, Q37, Q38, Q39, Q40, Q41, Q42, Q43, Q44, Q45, Q46, Q47, Q48, Q49, Q50, Q51, Q52, Q53, Q54, Q55, Q56, Q57, Q58, Q59, Q60, Q61, Q62, Q63, Q64, Q65, Q66, Q67, Q68, Q69, Q70, Q71, Q72, Q73, Q99, Q100, Q101, Q102, Q103, Q74, Q75, Q77, Q78, Q79, Q80, Q81, Q82, Q83, Q84, clr, List.length_nil, List.length_cons, List.getElem?_cons_zero, List.getElem?_cons_succ, Nat.reduceAdd, Nat.zero_add, Nat.add_zero, Nat.reduceLeDiff, Nat.reduceSub, ↓reduceIte, List.drop_succ_cons, List.drop_zero, List.take_succ_cons, List.take_zero, Bool.false_eq_true, List.nil_append, List.cons_append, Bool.not_true, Bool.not_false, cond_true, cond_false, bne, Q85, Q86, Q87, Q88, Q89, Q90, Q91, Q92, Q93, Q94, Q95, Q96, Q97, Q98, Q110, Q111, Q116, Q117, Q118, Q119, Q120, Q121, Q122, Q123, Option.map_some, Option.map_none, -Q78]
  ·   skip
      have hA := hA rfl
      have hM := hM rfl
      have n1 : ((3 : Int) == 1) = false := rfl
      have n2 : ((3 : Int) == 2) = false := rfl
      have n3 : ((3 : Int) == 3) = true := rfl
      have n4 : ((3 : Int) == 4) = false := rfl
      have n5 : ((3 : Int) == 5) = false := rfl
      have n6 : ((3 : Int) == 6) = false := rfl
      have n7 : ((3 : Int) == 7) = false := rfl
      have n8 : ((3 : Int) == 8) = false := rfl
      have n9 : ((3 : Int) == 9) = false := rfl
      have n10 : ((3 : Int) == 10) = false := rfl
      have n11 : ((3 : Int) == 11) = false := rfl
      have n12 : ((3 : Int) == 12) = false := rfl
      have n13 : ((3 : Int) == 13) = false := rfl
      have n14 : ((3 : Int) == 14) = false := rfl
      have n15 : ((3 : Int) == 15) = false := rfl
      have n16 : ((3 : Int) == 16) = false := rfl
      have n17 : ((3 : Int) == 17) = false := rfl
      have n18 : ((3 : Int) == 18) = false := rfl
      have n19 : ((3 : Int) == 19) = false := rfl
      have n20 : ((3 : Int) == 20) = false := rfl
      have n21 : ((3 : Int) == 21) = false := rfl
      simp only [code69, c69_0, c69_2, c69_3, c69_4, c69_5, c69_6, c69_7, c69_8, c69_9, c69_10, c69_11, c69_12, c69_14, c69_15, c69_16, c69_17, c69_18, c69_19, c69_20, c69_21, c69_22, c69_23, c69_24, c69_26, c69_27, c69_28, c69_29, c69_31, c69_32, c69_33, c69_34, c69_36, c69_37, c69_38, ci, b0, bo, h1, h40, hA, hM, i_eq, n1, n2, n3, n4, n5, n6, n7, n8, n9, n10, n11, n12, n13, n14, n15, n16, n17, n18, n19, n20, n21, Q0, Q1, Q2, Q3, Q4, Q5, Q6, Q7, Q8, Q9, Q10, Q11, Q12, Q13, Q14, Q15, Q16, Q17, Q18, Q19, Q20, Q21, Q22, Q23, Q24, Q25, Q26, Q27, Q28, Q29, Q30, Q31, Q32, Q33, Q35, Q36, Q37, Q38, Q39, Q40, Q41, Q42, Q43, Q44, Q45, Q46, Q47, Q48, Q49, Q50, Q51, Q52, Q53, Q54, Q55, Q56, Q57, Q58, Q59, Q60, Q61, Q62, Q63, Q64, Q65, Q66, Q67, Q68, Q69, Q70, Q71, Q72, Q73, Q99, Q100, Q101, Q102, Q103, Q74, Q75, Q77, Q78, Q79, Q80, Q81, Q82, Q83, Q84, clr, List.length_nil, List.length_cons, List.getElem?_cons_zero, List.getElem?_cons_succ, Nat.reduceAdd, Nat.zero_add, Nat.add_zero, Nat.reduceLeDiff, Nat.reduceSub, ↓reduceIte, List.drop_succ_cons, List.drop_zero, List.take_succ_cons, List.take_zero, Bool.false_eq_true, List.nil_append, List.cons_append, Bool.not_true, Bool.not_false, cond_true, cond_false, bne, Q85, Q86, Q87, Q88, Q89, Q90, Q91, Q92, Q93, Q94, Q95, Q96, Q97, Q98, Q110, Q111, Q116, Q117, Q118, Q119, Q120, Q121, Q122, Q123, Option.map_some, Option.map_none, -Q78]
  ·   skip
      have hA := hA rfl
      have hN := hN rfl
      have n1 : ((4 : Int) == 1) = false := rfl
      have n2 : ((4 : Int) == 2) = false := rfl
      have n3 : ((4 : Int) == 3) = false := rfl
      have n4 : ((4 : Int) == 4) = true := rfl
      have n5 : ((4 : Int) == 5) = false := rfl
      have n6 : ((4 : Int) == 6) = false := rfl
      have n7 : ((4 : Int) == 7) = false := rfl
      have n8 : ((4 : Int) == 8) = false := rfl
      have n9 : ((4 : Int) == 9) = false := rfl
      have n10 : ((4 : Int) == 10) = false := rfl
      have n11 : ((4 : Int) == 11) = false := rfl
      have n12 : ((4 : Int) == 12) = false := rfl
      have n13 : ((4 : Int) == 13) = false := rfl
      have n14 : ((4 : Int) == 14) = false := rfl
      have n15 : ((4 : Int) == 15) = false := rfl
      have n16 : ((4 : Int) == 16) = false := rfl
      have n17 : ((4 : Int) == 17) = false := rfl
      have n18 : ((4 : Int) == 18) = false := rfl
      have n19 : ((4 : Int) == 19) = false := rfl
      have n20 : ((4 : Int) == 20) = false := rfl
      have n21 : ((4 : Int) == 21) = false := rfl
      simp only [code69, c69_0, c69_2, c69_3, c69_4, c69_5, c69_6, c69_7, c69_8, c69_9, c69_10, c69_11, c69_12, c69_14, c69_15, c69_16, c69_17, c69_18, c69_19, c69_20, c69_21, c69_22, c69_23, c69_24, c69_26, c69_27, c69_28, c69_29, c69_31, c69_32, c69_33, c69_34, c69_36, c69_37, c69_38, ci, b0, bo, h1, h40, hA, hN, i_eq, n1, n2, n3, n4, n5, n6, n7, n8, n9, n10, n11, n12, n13, n14, n15, n16, n17, n18, n19, n20, n21, Q0, Q1, Q2, Q3, Q4, Q5, Q6, Q7, Q8, Q9, Q10, Q11, Q12, Q13, Q14, Q15, Q16, Q17, Q18, Q19, Q20, Q21, Q22, Q23, Q24, Q25, Q26, Q27, Q28, Q29, Q30, Q31, Q32, Q33, Q35, Q36, Q37, Q38, Q39, Q40, Q41, Q42, Q43, Q44, Q45, Q46, Q47, Q48, Q49, Q50, Q51, Q52, Q53, Q54, Q55, Q56, Q57, Q58, Q59, Q60, Q61, Q62, Q63, Q64, Q65, Q66, Q67, Q68, Q69, Q70, Q71, Q72, Q73, Q99, Q100, Q101, Q102, Q103, Q74, Q75, Q77, Q78, Q79, Q80, Q81, Q82, Q83, Q84, clr, List.length_nil, List.length_cons, List.getElem?_cons_zero, List.getElem?_cons_succ, Nat.reduceAdd, Nat.zero_add, Nat.add_zero, Nat.reduceLeDiff, Nat.reduceSub, ↓reduceIte, List.drop_succ_cons, List.drop_zero, List.take_succ_cons, List.take_zero, Bool.false_eq_true, List.nil_append, List.cons_append, Bool.not_true, Bool.not_false, cond_true, cond_false, bne, Q85, Q86, Q87, Q88, Q89, Q90, Q91, Q92, Q93, Q94, Q95, Q96, Q97, Q98, Q110, Q111, Q116, Q117, Q118, Q119, Q120, Q121, Q122, Q123, Option.map_some, Option.map_none, -Q78]
  ·   skip
      have hA := hA rfl
      have hC := hC rfl
      have n1 : ((5 : Int) == 1) = false := rfl
      have n2 : ((5 : Int) == 2) = false := rfl
      have n3 : ((5 : Int) == 3) = false := rfl
      have n4 : ((5 : Int) == 4) = false := rfl
      have n5 : ((5 : Int) == 5) = true := rfl
      have n6 : ((5 : Int) == 6) = false := rfl
      have n7 : ((5 : Int) == 7) = false := rfl
      have n8 : ((5 : Int) == 8) = false := rfl
      have n9 : ((5 : Int) == 9) = false := rfl
      have n10 : ((5 : Int) == 10) = false := rfl
      have n11 : ((5 : Int) == 11) = false := rfl
      have n12 : ((5 : Int) == 12) = false := rfl
      have n13 : ((5 : Int) == 13) = false := rfl
      have n14 : ((5 : Int) == 14) = false := rfl
      have n15 : ((5 : Int) == 15) = false := rfl
      have n16 : ((5 : Int) == 16) = false := rfl
      have n17 : ((5 : Int) == 17) = false := rfl
      have n18 : ((5 : Int) == 18) = false := rfl
      have n19 : ((5 : Int) == 19) = false := rfl
      have n20 : ((5 : Int) == 20) = false := rfl
      have n21 : ((5 : Int) == 21) = false := rfl
      simp only [code69, c69_0, c69_2, c69_3, c69_4, c69_5, c69_6, c69_7, c69_8, c69_9, c69_10, c69_11, c69_12, c69_14, c69_15, c69_16, c69_17, c69_18, c69_19, c69_20, c69_21, c69_22, c69_23, c69_24, c69_26, c69_27, c69_28, c69_29, c69_31, c69_32, c69_33, c69_34, c69_36, c69_37, c69_38, ci, b0, bo, h1, h40, hA, hC, i_eq, n1, n2, n3, n4, n5, n6, n7, n8, n9, n10, n11, n12, n13, n14, n15, n16, n17, n18, n19, n20, n21, Q0, Q1, Q2, Q3, Q4, Q5, Q6, Q7, Q8, Q9, Q10, Q11, Q12, Q13, Q14, Q15, Q16, Q17, Q18, Q19, Q20, Q21, Q22, Q23, Q24, Q25, Q26, Q27, Q28, Q29, Q30, Q31, Q32, Q33, Q35, Q36, Q37, Q38, Q39, Q40, Q41, Q42, Q43, Q44, Q45, Q46, Q47, Q48, Q49, Q50, Q51, Q52, Q53, Q54, Q55, Q56, Q57, Q58, Q59, Q60, Q61, Q62, Q63, Q64, Q65, Q66, Q67, Q68, Q69, Q70, Q71, Q72, Q73, Q99, Q100, Q101, Q102, Q103, Q74, Q75, Q77, Q78, Q79, Q80, Q81, Q82, Q83, Q84, clr, List.length_nil, List.length_cons, List.getElem?_cons_zero, List.getElem?_cons_succ, Nat.reduceAdd, Nat.zero_add, Nat.add_zero, Nat.reduceLeDiff, Nat.reduceSub, ↓reduceIte, List.drop_succ_cons, List.drop_zero, List.take_succ_cons, List.take_zero, Bool.false_eq_true, List.nil_append, List.cons_append, Bool.not_true, Bool.not_false, cond_true, cond_false, bne, Q85, Q86, Q87, Q88, Q89, Q90, Q91, Q92, Q93, Q94, Q95, Q96, Q97, Q98, Q110, Q111, Q116, Q117, Q118, Q119, Q120, Q121, Q122, Q123, Option.map_some, Option.map_none, -Q78]
  ·   skip
      have e1 := hA' rfl
      subst e1
      have hB := hB rfl
      have n1 : ((6 : Int) == 1) = false := rfl
      have n2 : ((6 : Int) == 2) = false := rfl
      have n3 : ((6 : Int) == 3) = false := rfl
      have n4 : ((6 : Int) == 4) = false := rfl
      have n5 : ((6 : Int) == 5) = false := rfl
      have n6 : ((6 : Int) == 6) = true := rfl
      have n7 : ((6 : Int) == 7) = false := rfl
      have n8 : ((6 : Int) == 8) = false := rfl
      have n9 : ((6 : Int) == 9) = false := rfl
      have n10 : ((6 : Int) == 10) = false := rfl
      have n11 : ((6 : Int) == 11) = false := rfl
      have n12 : ((6 : Int) == 12) = false := rfl
      have n13 : ((6 : Int) == 13) = false := rfl
      have n14 : ((6 : Int) == 14) = false := rfl
      have n15 : ((6 : Int) == 15) = false := rfl
      have n16 : ((6 : Int) == 16) = false := rfl
      have n17 : ((6 : Int) == 17) = false := rfl
      have n18 : ((6 : Int) == 18) = false := rfl
      have n19 : ((6 : Int) == 19) = false := rfl
      have n20 : ((6 : Int) == 20) = false := rfl
      have n21 : ((6 : Int) == 21) = false := rfl
      simp only [code69, c69_0, c69_2, c69_3, c69_4, c69_5, c69_6, c69_7, c69_8, c69_9, c69_10, c69_11, c69_12, c69_14, c69_15, c69_16, c69_17, c69_18, c69_19, c69_20, c69_21, c69_22, c69_23, c69_24, c69_26, c69_27, c69_28, c69_29, c69_31, c69_32, c69_33, c69_34, c69_36, c69_37, c69_38, ci, b0, bo, h1, h40, hB, i_eq, n1, n2, n3, n4, n5, n6, n7, n8, n9, n10, n11, n12, n13, n14, n15, n16, n17, n18, n19, n20, n21, Q0, Q1, Q2, Q3, Q4, Q5, Q6, Q7, Q8, Q9, Q10, Q11, Q12, Q13, Q14, Q15, Q16, Q17, Q18, Q19, Q20, Q21, Q22, Q23, Q24, Q25, Q26, Q27, Q28, Q29, Q30, Q31, Q32, Q33, Q35, Q36, Q37, Q38, Q39, Q40, Q41, Q42, Q43, Q44, Q45, Q46, Q47, Q48, Q49, Q50, Q51, Q52, Q53, Q54, Q55, Q56, Q57, Q58, Q59, Q60, Q61, Q62, Q63, Q64, Q65, Q66, Q67, Q68, Q69, Q70, Q71, Q72, Q73, Q99, Q100, Q101, Q102, Q103, Q74, Q75, Q77, Q78, Q79, Q80, Q81, Q82, Q83, Q84, clr, List.length_nil, List.length_cons, List.getElem?_cons_zero, List.getElem?_cons_succ, Nat.reduceAdd, Nat.zero_add, Nat.add_zero, Nat.reduceLeDiff, Nat.reduceSub, ↓reduceIte, List.drop_succ_cons, List.drop_zero, List.take_succ_cons, List.take_zero, Bool.false_eq_true, List.nil_append, List.cons_append, Bool.not_true, Bool.not_false, cond_true, cond_false, bne, Q85, Q86, Q87, Q88, Q89, Q90, Q91, Q92, Q93, Q94, Q95, Q96, Q97, Q98, Q110, Q111, Q116, Q117, Q118, Q119, Q120, Q121, Q122, Q123, Option.map_some, Option.map_none, -Q78]
  ·   skip
      have e1 := hA' rfl
      subst e1
      have hB := hB rfl
      have n1 : ((7 : Int) == 1) = false := rfl
      have n2 : ((7 : Int) == 2) = false := rfl
      have n3 : ((7 : Int) == 3) = false := rfl
      have n4 : ((7 : Int) == 4) = false := rfl
      have n5 : ((7 : Int) == 5) = false := rfl
      have n6 : ((7 : Int) == 6) = false := rfl
      have n7 : ((7 : Int) == 7) = true := rfl
      have n8 : ((7 : Int) == 8) = false := rfl
      have n9 : ((7 : Int) == 9) = false := rfl
      have n10 : ((7 : Int) == 10) = false := rfl
      have n11 : ((7 : Int) == 11) = false := rfl
      have n12 : ((7 : Int) == 12) = false := rfl
      have n13 : ((7 : Int) == 13) = false := rfl
      have n14 : ((7 : Int) == 14) = false := rfl
      have n15 : ((7 : Int) == 15) = false := rfl
      have n16 : ((7 : Int) == 16) = false := rfl
      have n17 : ((7 : Int) == 17) = false := rfl
      have n18 : ((7 : Int) == 18) = false := rfl
      have n19 : ((7 : Int) == 19) = false := rfl
      have n20 : ((7 : Int) == 20) = false := rfl
      have n21 : ((7 : Int) == 21) = false := rfl
      simp only [code69, c69_0, c69_2, c69_3, c69_4, c69_5, c69_6, c69_7, c69_8, c69_9, c69_10, c69_11, c69_12, c69_14, c69_15, c69_16, c69_17, c69_18, c69_19, c69_20, c69_21, c69_22, c69_23, c69_24, c69_26, c69_27, c69_28, c69_29, c69_31, c69_32, c69_33, c69_34, c69_36, c69_37, c69_38, ci, b0, bo, h1, h40, hB, i_eq, n1, n2, n3, n4, n5, n6, n7, n8, n9, n10, n11, n12, n13, n14, n15, n16, n17, n18, n19, n20, n21, Q0, Q1, Q2, Q3, Q4, Q5, Q6, Q7, Q8, Q9, Q10, Q11, Q12, Q13, Q14, Q15, Q16, Q17, Q18, Q19, Q20, Q21, Q22, Q23, Q24, Q25, Q26, Q27, Q28, Q29, Q30, Q31, Q32, Q33, Q35, Q36, Q37, Q38, Q39, Q40, Q41, Q42, Q43, Q44, Q45, Q46, Q47, Q48, Q49, Q50, Q51, Q52, Q53, Q54, Q55, Q56, Q57, Q58, Q59, Q60, Q61, Q62, Q63, Q64, Q65, Q66, Q67, Q68, Q69, Q70, Q71, Q72, Q73, Q99, Q100, Q101, Q102, Q103, Q74, Q75, Q77, Q78, Q79, Q80, Q81, Q82, Q83, Q84, clr, List.length_nil, List.length_cons, List.getElem?_cons_zero, List.getElem?_cons_succ, Nat.reduceAdd, Nat.zero_add, Nat.add_zero, Nat.reduceLeDiff, Nat.reduceSub, ↓reduceIte, List.drop_succ_cons, List.drop_zero, List.take_succ_cons, List.take_zero, Bool.false_eq_true, List.nil_append, List.cons_append, Bool.not_true, Bool.not_false, cond_true, cond_false, bne, Q85, Q86, Q87, Q88, Q89, Q90, Q91, Q92, Q93, Q94, Q95, Q96, Q97, Q98, Q110, Q111, Q116, Q117, Q118, Q119, Q120, Q121, Q122, Q123, Option.map_some, Option.map_none, -Q78]
  ·   skip
      have e1 := hA' rfl
      subst e1
      have hM := hM rfl
      have n1 : ((8 : Int) == 1) = false := rfl
      have n2 : ((8 : Int) == 2) = false := rfl
      have n3 : ((8 : Int) == 3) = false := rfl
      have n4 : ((8 : Int) == 4) = false := rfl
      have n5 : ((8 : Int) == 5) = false := rfl
      have n6 : ((8 : Int) == 6) = false := rfl
      have n7 : ((8 : Int) == 7) = false := rfl
      have n8 : ((8 : Int) == 8) = true := rfl
      have n9 : ((8 : Int) == 9) = false := rfl
      have n10 : ((8 : Int) == 10) = false := rfl
      have n11 : ((8 : Int) == 11) = false := rfl
      have n12 : ((8 : Int) == 12) = false := rfl
      have n13 : ((8 : Int) == 13) = false := rfl
      have n14 : ((8 : Int) == 14) = false := rfl
      have n15 : ((8 : Int) == 15) = false := rfl
      have n16 : ((8 : Int) == 16) = false := rfl
      have n17 : ((8 : Int) == 17) = false := rfl
      have n18 : ((8 : Int) == 18) = false := rfl
      have n19 : ((8 : Int) == 19) = false := rfl
      have n20 : ((8 : Int) == 20) = false := rfl
      have n21 : ((8 : Int) == 21) = false := rfl
      simp only [code69, c69_0, c69_2, c69_3, c69_4, c69_5, c69_6, c69_7, c69_8, c69_9, c69_10, c69_11, c69_12, c69_14, c69_15, c69_16, c69_17, c69_18, c69_19, c69_20, c69_21, c69_22, c69_23, c69_24, c69_26, c69_27, c69_28, c69_29, c69_31, c69_32, c69_33, c69_34, c69_36, c69_37, c69_38, ci, b0, bo, h1, h40, hM, i_eq, n1, n2, n3, n4, n5, n6, n7, n8, n9, n10, n11, n12, n13, n14, n15, n16, n17, n18, n19, n20, n21, Q0, Q1, Q2, Q3, Q4, Q5, Q6, Q7, Q8, Q9, Q10, Q11, Q12, Q13, Q14, Q15, Q16, Q17, Q18, Q19, Q20, Q21, Q22, Q23, Q24, Q25, Q26, Q27, Q28, Q29, Q30, Q31, Q32, Q33, Q35, Q36, Q37, Q38, Q39, Q40, Q41, Q42, Q43, Q44, Q45, Q46, Q47, Q48, Q49, Q50, Q51, Q52, Q53, Q54, Q55, Q56, Q57, Q58, Q59, Q60, Q61, Q62, Q63, Q64, Q65, Q66, Q67, Q68, Q69, Q70, Q71, Q72, Q73, Q99, Q100, Q101, Q102, Q103, Q74, Q75, Q77, Q78, Q79, Q80, Q81, Q82, Q83, Q84, clr, List.length_nil, List.length_cons, List.getElem?_cons_zero, List.getElem?_cons_succ, Nat.reduceAdd, Nat.zero_add, Nat.add_zero, Nat.reduceLeDiff, Nat.reduceSub, ↓reduceIte, List.drop_succ_cons, List.drop_zero, List.take_succ_cons, List.take_zero, Bool.false_eq_true, List.nil_append, List.cons_append, Bool.not_true, Bool.not_false, cond_true, cond_false, bne, Q85, Q86, Q87, Q88, Q89, Q90, Q91, Q92, Q93, Q94, Q95, Q96, Q97, Q98, Q110, Q111, Q116, Q117, Q118, Q119, Q120, Q121, Q122, Q123, Option.map_some, Option.map_none, -Q78]
  ·   skip
      have e1 := hA' rfl
      subst e1
      have hN := hN rfl
      have n1 : ((9 : Int) == 1) = false := rfl
      have n2 : ((9 : Int) == 2) = false := rfl
      have n3 : ((9 : Int) == 3) = false := rfl
      have n4 : ((9 : Int) == 4) = false := rfl
      have n5 : ((9 : Int) == 5) = false := rfl
      have n6 : ((9 : Int) == 6) = false := rfl
      have n7 : ((9 : Int) == 7) = false := rfl
      have n8 : ((9 : Int) == 8) = false := rfl
      have n9 : ((9 : Int) == 9) = true := rfl
      have n10 : ((9 : Int) == 10) = false := rfl
      have n11 : ((9 : Int) == 11) = false := rfl
      have n12 : ((9 : Int) == 12) = false := rfl
      have n13 : ((9 : Int) == 13) = false := rfl
      have n14 : ((9 : Int) == 14) = false := rfl
      have n15 : ((9 : Int) == 15) = false := rfl
      have n16 : ((9 : Int) == 16) = false := rfl
      have n17 : ((9 : Int) == 17) = false := rfl
      have n18 : ((9 : Int) == 18) = false := rfl
      have n19 : ((9 : Int) == 19) = false := rfl
      have n20 : ((9 : Int) == 20) = false := rfl
      have n21 : ((9 : Int) == 21) = false := rfl
      simp only [code69, c69_0, c69_2, c69_3, c69_4, c69_5, c69_6, c69_7, c69_8, c69_9, c69_10, c69_11, c69_12, c69_14, c69_15, c69_16, c69_17, c69_18, c69_19, c69_20, c69_21, c69_22, c69_23, c69_24, c69_26, c69_27, c69_28, c69_29, c69_31, c69_32, c69_33, c69_34, c69_36, c69_37, c69_38, ci, b0, bo, h1, h40, hN, i_eq, n1, n2, n3, n4, n5, n6, n7, n8, n9, n10, n11, n12, n13, n14, n15, n16, n17, n18, n19, n20, n21, Q0, Q1, Q2, Q3, Q4, Q5, Q6, Q7, Q8, Q9, Q10, Q11, Q12, Q13, Q14, Q15, Q16, Q17, Q18, Q19, Q20, Q21, Q22, Q23, Q24, Q25, Q26, Q27, Q28, Q29, Q30, Q31, Q32, Q33, Q35, Q36, Q37, Q38, Q39, Q40, Q41, Q42, Q43, Q44, Q45, Q46, Q47, Q48, Q49, Q50, Q51, Q52, Q53, Q54, Q55, Q56, Q57, Q58, Q59, Q60, Q61, Q62, Q63, Q64, Q65, Q66, Q67, Q68, Q69, Q70, Q71, Q72, Q73, Q99, Q100, Q101, Q102, Q103, Q74, Q75, Q77, Q78, Q79, Q80, Q81, Q82, Q83, Q84, clr, List.length_nil, List.length_cons, List.getElem?_cons_zero, List.getElem?_cons_succ, Nat.reduceAdd, Nat.zero_add, Nat.add_zero, Nat.reduceLeDiff, Nat.reduceSub, ↓reduceIte, List.drop_succ_cons, List.drop_zero, List.take_succ_cons, List.take_zero, Bool.false_eq_true, List.nil_append, List.cons_append, Bool.not_true, Bool.not_false, cond_true, cond_false, bne, Q85, Q86, Q87, Q88, Q89, Q90, Q91, Q92, Q93, Q94, Q95, Q96, Q97, Q98, Q110, Q111, Q116, Q117, Q118, Q119, Q120, Q121, Q122, Q123, Option.map_some, Option.map_none, -Q78]
  ·   skip
      have e1 := hA' rfl
      subst e1
      have hB := hB rfl
      have n1 : ((10 : Int) == 1) = false := rfl
      have n2 : ((10 : Int) == 2) = false := rfl
      have n3 : ((10 : Int) == 3) = false := rfl
      have n4 : ((10 : Int) == 4) = false := rfl
      have n5 : ((10 : Int) == 5) = false := rfl
      have n6 : ((10 : Int) == 6) = false := rfl
      have n7 : ((10 : Int) == 7) = false := rfl
      have n8 : ((10 : Int) == 8) = false := rfl
      have n9 : ((10 : Int) == 9) = false := rfl
      have n10 : ((10 : Int) == 10) = true := rfl
      have n11 : ((10 : Int) == 11) = false := rfl
      have n12 : ((10 : Int) == 12) = false := rfl
      have n13 : ((10 : Int) == 13) = false := rfl
      have n14 : ((10 : Int) == 14) = false := rfl
      have n15 : ((10 : Int) == 15) = false := rfl
      have n16 : ((10 : Int) == 16) = false := rfl
      have n17 : ((10 : Int) == 17) = false := rfl
      have n18 : ((10 : Int) == 18) = false := rfl
      have n19 : ((10 : Int) == 19) = false := rfl
      have n20 : ((10 : Int) == 20) = false := rfl
      have n21 : ((10 : Int) == 21) = false := rfl
      simp only [code69, c69_0, c69_2, c69_3, c69_4, c69_5, c69_6, c69_7, c69_8, c69_9, c69_10, c69_11, c69_12, c69_14, c69_15, c69_16, c69_17, c69_18, c69_19, c69_20, c69_21, c69_22, c69_23, c69_24, c69_26, c69_27, c69_28, c69_29, c69_31, c69_32, c69_33, c69_34, c69_36, c69_37, c69_38, ci, b0, bo, h1, h40, hB, i_eq, n1, n2, n3, n4, n5, n6, n7, n8, n9, n10, n11, n12, n13, n14, n15, n16, n17, n18, n19, n20, n21, Q0, Q1, Q2, Q3, Q4, Q5, Q6, Q7, Q8, Q9, Q10, Q11, Q12, Q13, Q14, Q15, Q16, Q17, Q18, Q19, Q20, Q21, Q22, Q23, Q24, Q25, Q26, Q27, Q28, Q29, Q30, Q31, Q32, Q33, Q35, Q36, Q37, Q38, Q39, Q40, Q41, Q42, Q43, Q44, Q45, Q46, Q47, Q48, Q49, Q50, Q51, Q52, Q53, Q54, Q55, Q56, Q57, Q58, Q59, Q60, Q61, Q62, Q63, Q64, Q65, Q66, Q67, Q68, Q69, Q70, Q71, Q72, Q73, Q99, Q100, Q101, Q102, Q103, Q74, Q75, Q77, Q78, Q79, Q80, Q81, Q82, Q83, Q84, clr, List.length_nil, List.length_cons, List.getElem?_cons_zero, List.getElem?_cons_succ, Nat.reduceAdd, Nat.zero_add, Nat.add_zero, Nat.reduceLeDiff, Nat.reduceSub, ↓reduceIte, List.drop_succ_cons, List.drop_zero, List.take_succ_cons, List.take_zero, Bool.false_eq_true, List.nil_append, List.cons_append, Bool.not_true, Bool.not_false, cond_true, cond_false, bne, Q85, Q86, Q87, Q88, Q89, Q90, Q91, Q92, Q93, Q94, Q95, Q96, Q97, Q98, Q110, Q111, Q116, Q117, Q118, Q119, Q120, Q121, Q122, Q123, Option.map_some, Option.map_none, -Q78]
  ·   skip
      have hA := hA rfl
      have hB := hB rfl
      have n1 : ((11 : Int) == 1) = false := rfl
      have n2 : ((11 : Int) == 2) = false := rfl
      have n3 : ((11 : Int) == 3) = false := rfl
      have n4 : ((11 : Int) == 4) = false := rfl
      have n5 : ((11 : Int) == 5) = false := rfl
      have n6 : ((11 : Int) == 6) = false := rfl
      have n7 : ((11 : Int) == 7) = false := rfl
      have n8 : ((11 : Int) == 8) = false := rfl
      have n9 : ((11 : Int) == 9) = false := rfl
      have n10 : ((11 : Int) == 10) = false := rfl
      have n11 : ((11 : Int) == 11) = true := rfl
      have n12 : ((11 : Int) == 12) = false := rfl
      have n13 : ((11 : Int) == 13) = false := rfl
      have n14 : ((11 : Int) == 14) = false := rfl
      have n15 : ((11 : Int) == 15) = false := rfl
      have n16 : ((11 : Int) == 16) = false := rfl
      have n17 : ((11 : Int) == 17) = false := rfl
      have n18 : ((11 : Int) == 18) = false := rfl
      have n19 : ((11 : Int) == 19) = false := rfl
      have n20 : ((11 : Int) == 20) = false := rfl
      have n21 : ((11 : Int) == 21) = false := rfl
      simp only [code69, c69_0, c69_2, c69_3, c69_4, c69_5, c69_6, c69_7, c69_8, c69_9, c69_10, c69_11, c69_12, c69_14, c69_15, c69_16, c69_17, c69_18, c69_19, c69_20, c69_21, c69_22, c69_23, c69_24, c69_26, c69_27, c69_28, c69_29, c69_31, c69_32, c69_33, c69_34, c69_36, c69_37, c69_38, ci, b0, bo, h1, h40, hA, hB, i_eq, n1, n2, n3, n4, n5, n6, n7, n8, n9, n10, n11, n12, n13, n14, n15, n16, n17, n18, n19, n20, n21, Q0, Q1, Q2, Q3, Q4, Q5, Q6, Q7, Q8, Q9, Q10, Q11, Q12, Q13, Q14, Q15, Q16, Q17, Q18, Q19, Q20, Q21, Q22, Q23, Q24, Q25, Q26, Q27, Q28, Q29, Q30, Q31, Q32, Q33, Q35, Q36, Q37, Q38, Q39, Q40, Q41, Q42, Q43, Q44, Q45, Q46, Q47, Q48, Q49, Q50, Q51, Q52, Q53, Q54, Q55, Q56, Q57, Q58, Q59, Q60, Q61, Q62, Q63, Q64, Q65, Q66, Q67, Q68, Q69, Q70, Q71, Q72, Q73, Q99, Q100, Q101, Q102, Q103, Q74, Q75, Q77, Q78, Q79, Q80, Q81, Q82, Q83, Q84, clr, List.length_nil, List.length_cons, List.getElem?_cons_zero, List.getElem?_cons_succ, Nat.reduceAdd, Nat.zero_add, Nat.add_zero, Nat.reduceLeDiff, Nat.reduceSub, ↓reduceIte, List.drop_succ_cons, List.drop_zero, List.take_succ_cons, List.take_zero, Bool.false_eq_true, List.nil_append, List.cons_append, Bool.not_true, Bool.not_false, cond_true, cond_false, bne, Q85, Q86, Q87, Q88, Q89, Q90, Q91, Q92, Q93, Q94, Q95, Q96, Q97, Q98, Q110, Q111, Q116, Q117, Q118, Q119, Q120, Q121, Q122, Q123, Option.map_some, Option.map_none, -Q78]
  ·   skip
      have hA := hA rfl
      have hB := hB rfl
      have n1 : ((12 : Int) == 1) = false := rfl
      have n2 : ((12 : Int) == 2) = false := rfl
      have n3 : ((12 : Int) == 3) = false := rfl
      have n4 : ((12 : Int) == 4) = false := rfl
      have n5 : ((12 : Int) == 5) = false := rfl
      have n6 : ((12 : Int) == 6) = false := rfl
      have n7 : ((12 : Int) == 7) = false := rfl
      have n8 : ((12 : Int) == 8) = false := rfl
      have n9 : ((12 : Int) == 9) = false := rfl
      have n10 : ((12 : Int) == 10) = false := rfl
      have n11 : ((12 : Int) == 11) = false := rfl
      have n12 : ((12 : Int) == 12) = true := rfl
      have n13 : ((12 : Int) == 13) = false := rfl
      have n14 : ((12 : Int) == 14) = false := rfl
      have n15 : ((12 : Int) == 15) = false := rfl
      have n16 : ((12 : Int) == 16) = false := rfl
      have n17 : ((12 : Int) == 17) = false := rfl
      have n18 : ((12 : Int) == 18) = false := rfl
      have n19 : ((12 : Int) == 19) = false := rfl
      have n20 : ((12 : Int) == 20) = false := rfl
      have n21 : ((12 : Int) == 21) = false := rfl
      simp only [code69, c69_0, c69_2, c69_3, c69_4, c69_5, c69_6, c69_7, c69_8, c69_9, c69_10, c69_11, c69_12, c69_14, c69_15, c69_16, c69_17, c69_18, c69_19, c69_20, c69_21, c69_22, c69_23, c69_24, c69_26, c69_27, c69_28, c69_29, c69_31, c69_32, c69_33, c69_34, c69_36, c69_37, c69_38, ci, b0, bo, h1, h40, hA, hB, i_eq, n1, n2, n3, n4, n5, n6, n7, n8, n9, n10, n11, n12, n13, n14, n15, n16, n17, n18, n19, n20, n21, Q0, Q1, Q2, Q3, Q4, Q5, Q6, Q7, Q8, Q9, Q10, Q11, Q12, Q13, Q14, Q15, Q16, Q17, Q18, Q19, Q20, Q21, Q22, Q23, Q24, Q25, Q26, Q27, Q28, Q29, Q30, Q31, Q32, Q33, Q35, Q36, Q37, Q38, Q39, Q40, Q41, Q42, Q43, Q44, Q45, Q46, Q47, Q48, Q49, Q50, Q51, Q52, Q53, Q54, Q55, Q56, Q57, Q58, Q59, Q60, Q61, Q62, Q63, Q64, Q65, Q66, Q67, Q68, Q69, Q70, Q71, Q72, Q73, Q99, Q100, Q101, Q102, Q103, Q74, Q75, Q77, Q78, Q79, Q80, Q81, Q82, Q83, Q84, clr, List.length_nil, List.length_cons, List.getElem?_cons_zero, List.getElem?_cons_succ, Nat.reduceAdd, Nat.zero_add, Nat.add_zero, Nat.reduceLeDiff, Nat.reduceSub, ↓reduceIte, List.drop_succ_cons, List.drop_zero, List.take_succ_cons, List.take_zero, Bool.false_eq_true, List.nil_append, List.cons_append, Bool.not_true, Bool.not_false, cond_true, cond_false, bne, Q85, Q86, Q87, Q88, Q89, Q90, Q91, Q92, Q93, Q94, Q95, Q96, Q97, Q98, Q110, Q111, Q116, Q117, Q118, Q119, Q120, Q121, Q122, Q123, Option.map_some, Option.map_none, -Q78]
  ·   skip
      have hA := hA rfl
      have hM := hM rfl
      have n1 : ((13 : Int) == 1) = false := rfl
      have n2 : ((13 : Int) == 2) = false := rfl
      have n3 : ((13 : Int) == 3) = false := rfl
      have n4 : ((13 : Int) == 4) = false := rfl
      have n5 : ((13 : Int) == 5) = false := rfl
      have n6 : ((13 : Int) == 6) = false := rfl
      have n7 : ((13 : Int) == 7) = false := rfl
      have n8 : ((13 : Int) == 8) = false := rfl
      have n9 : ((13 : Int) == 9) = false := rfl
      have n10 : ((13 : Int) == 10) = false := rfl
      have n11 : ((13 : Int) == 11) = false := rfl
      have n12 : ((13 : Int) == 12) = false := rfl
      have n13 : ((13 : Int) == 13) = true := rfl
      have n14 : ((13 : Int) == 14) = false := rfl
      have n15 : ((13 : Int) == 15) = false := rfl
      have n16 : ((13 : Int) == 16) = false := rfl
      have n17 : ((13 : Int) == 17) = false := rfl
      have n18 : ((13 : Int) == 18) = false := rfl
      have n19 : ((13 : Int) == 19) = false := rfl
      have n20 : ((13 : Int) == 20) = false := rfl
      have n21 : ((13 : Int) == 21) = false := rfl
      simp only [code69, c69_0, c69_2, c69_3, c69_4, c69_5, c69_6, c69_7, c69_8, c69_9, c69_10, c69_11, c69_12, c69_14, c69_15, c69_16, c69_17, c69_18, c69_19, c69_20, c69_21, c69_22, c69_23, c69_24, c69_26, c69_27, c69_28, c69_29, c69_31, c69_32, c69_33, c69_34, c69_36, c69_37, c69_38, ci, b0, bo, h1, h40, hA, hM, i_eq, n1, n2, n3, n4, n5, n6, n7, n8, n9, n10, n11, n12, n13, n14, n15, n16, n17, n18, n19, n20, n21, Q0, Q1, Q2, Q3, Q4, Q5, Q6, Q7, Q8, Q9, Q10, Q11, Q12, Q13, Q14, Q15, Q16, Q17, Q18, Q19, Q20, Q21, Q22, Q23, Q24, Q25, Q26, Q27, Q28, Q29, Q30, Q31, Q32, Q33, Q35, Q36, Q37, Q38, Q39, Q40, Q41, Q42, Q43, Q44, Q45, Q46, Q47, Q48, Q49, Q50, Q51, Q52, Q53, Q54, Q55, Q56, Q57, Q58, Q59, Q60, Q61, Q62, Q63, Q64, Q65, Q66, Q67, Q68, Q69, Q70, Q71, Q72, Q73, Q99, Q100, Q101, Q102, Q103, Q74, Q75, Q77, Q78, Q79, Q80, Q81, Q82, Q83, Q84, clr, List.length_nil, List.length_cons, List.getElem?_cons_zero, List.getElem?_cons_succ, Nat.reduceAdd, Nat.zero_add, Nat.add_zero, Nat.reduceLeDiff, Nat.reduceSub, ↓reduceIte, List.drop_succ_cons, List.drop_zero, List.take_succ_cons, List.take_zero, Bool.false_eq_true, List.nil_append, List.cons_append, Bool.not_true, Bool.not_false, cond_true, cond_false, bne, Q85, Q86, Q87, Q88, Q89, Q90, Q91, Q92, Q93, Q94, Q95, Q96, Q97, Q98, Q110, Q111, Q116, Q117, Q118, Q119, Q120, Q121, Q122, Q123, Option.map_some, Option.map_none, -Q78]
  ·   skip
      have hA := hA rfl
      have hN := hN rfl
      have n1 : ((14 : Int) == 1) = false := rfl
      have n2 : ((14 : Int) == 2) = false := rfl
      have n3 : ((14 : Int) == 3) = false := rfl
      have n4 : ((14 : Int) == 4) = false := rfl
      have n5 : ((14 : Int) == 5) = false := rfl
      have n6 : ((14 : Int) == 6) = false := rfl
      have n7 : ((14 : Int) == 7) = false := rfl
      have n8 : ((14 : Int) == 8) = false := rfl
      have n9 : ((14 : Int) == 9) = false := rfl
      have n10 : ((14 : Int) == 10) = false := rfl
      have n11 : ((14 : Int) == 11) = false := rfl
      have n12 : ((14 : Int) == 12) = false := rfl
      have n13 : ((14 : Int) == 13) = false := rfl
      have n14 : ((14 : Int) == 14) = true := rfl
      have n15 : ((14 : Int) == 15) = false := rfl
      have n16 : ((14 : Int) == 16) = false := rfl
      have n17 : ((14 : Int) == 17) = false := rfl
      have n18 : ((14 : Int) == 18) = false := rfl
      have n19 : ((14 : Int) == 19) = false := rfl
      have n20 : ((14 : Int) == 20) = false := rfl
      have n21 : ((14 : Int) == 21) = false := rfl
      simp only [code69, c69_0, c69_2, c69_3, c69_4, c69_5, c69_6, c69_7, c69_8, c69_9, c69_10, c69_11, c69_12, c69_14, c69_15, c69_16, c69_17, c69_18, c69_19, c69_20, c69_21, c69_22, c69_23, c69_24, c69_26, c69_27, c69_28, c69_29, c69_31, c69_32, c69_33, c69_34, c69_36, c69_37, c69_38, ci, b0, bo, h1, h40, hA, hN, i_eq, n1, n2, n3, n4, n5, n6, n7, n8, n9, n10, n11, n12, n13, n14, n15, n16, n17, n18, n19, n20, n21, Q0, Q1, Q2, Q3, Q4, Q5, Q6, Q7, Q8, Q9, Q10, Q11, Q12, Q13, Q14, Q15, Q16, Q17, Q18, Q19, Q20, Q21, Q22, Q23, Q24, Q25, Q26, Q27, Q28, Q29, Q30, Q31, Q32, Q33, Q35, Q36, Q37, Q38, Q39, Q40, Q41, Q42, Q43, Q44, Q45, Q46, Q47, Q48, Q49, Q50, Q51, Q52, Q53, Q54, Q55, Q56, Q57, Q58, Q59, Q60, Q61, Q62, Q63, Q64, Q65, Q66, Q67, Q68, Q69, Q70, Q71, Q72, Q73, Q99, Q100, Q101, Q102, Q103, Q74, Q75, Q77, Q78, Q79, Q80, Q81, Q82, Q83, Q84, clr, List.length_nil, List.length_cons, List.getElem?_cons_zero, List.getElem?_cons_succ, Nat.reduceAdd, Nat.zero_add, Nat.add_zero, Nat.reduceLeDiff, Nat.reduceSub, ↓reduceIte, List.drop_succ_cons, List.drop_zero, List.take_succ_cons, List.take_zero, Bool.false_eq_true, List.nil_append, List.cons_append, Bool.not_true, Bool.not_false, cond_true, cond_false, bne, Q85, Q86, Q87, Q88, Q89, Q90, Q91, Q92, Q93, Q94, Q95, Q96, Q97, Q98, Q110, Q111, Q116, Q117, Q118, Q119, Q120, Q121, Q122, Q123, Option.map_some, Option.map_none, -Q78]
  ·   skip
      have hA := hA rfl
      have hC := hC rfl
      have n1 : ((15 : Int) == 1) = false := rfl
      have n2 : ((15 : Int) == 2) = false := rfl
      have n3 : ((15 : Int) == 3) = false := rfl
      have n4 : ((15 : Int) == 4) = false := rfl
      have n5 : ((15 : Int) == 5) = false := rfl
      have n6 : ((15 : Int) == 6) = false := rfl
      have n7 : ((15 : Int) == 7) = false := rfl
      have n8 : ((15 : Int) == 8) = false := rfl
      have n9 : ((15 : Int) == 9) = false := rfl
      have n10 : ((15 : Int) == 10) = false := rfl
      have n11 : ((15 : Int) == 11) = false := rfl
      have n12 : ((15 : Int) == 12) = false := rfl
      have n13 : ((15 : Int) == 13) = false := rfl
      have n14 : ((15 : Int) == 14) = false := rfl
      have n15 : ((15 : Int) == 15) = true := rfl
      have n16 : ((15 : Int) == 16) = false := rfl
      have n17 : ((15 : Int) == 17) = false := rfl
      have n18 : ((15 : Int) == 18) = false := rfl
      have n19 : ((15 : Int) == 19) = false := rfl
      have n20 : ((15 : Int) == 20) = false := rfl
      have n21 : ((15 : Int) == 21) = false := rfl
      simp only [code69, c69_0, c69_2, c69_3, c69_4, c69_5, c69_6, c69_7, c69_8, c69_9, c69_10, c69_11, c69_12, c69_14, c69_15, c69_16, c69_17, c69_18, c69_19, c69_20, c69_21, c69_22, c69_23, c69_24, c69_26, c69_27, c69_28, c69_29, c69_31, c69_32, c69_33, c69_34, c69_36, c69_37, c69_38, ci, b0, bo, h1, h40, hA, hC, i_eq, n1, n2, n3, n4, n5, n6, n7, n8, n9, n10, n11, n12, n13, n14, n15, n16, n17, n18, n19, n20, n21, Q0, Q1, Q2, Q3, Q4, Q5, Q6, Q7, Q8, Q9, Q10, Q11, Q12, Q13, Q14, Q15, Q16, Q17, Q18, Q19, Q20, Q21, Q22, Q23, Q24, Q25, Q26, Q27, Q28, Q29, Q30, Q31, Q32, Q33, Q35, Q36, Q37, Q38, Q39, Q40, Q41, Q42, Q43, Q44, Q45, Q46, Q47, Q48, Q49, Q50, Q51, Q52, Q53, Q54, Q55, Q56, Q57, Q58, Q59, Q60, Q61, Q62, Q63, Q64, Q65, Q66, Q67, Q68, Q69, Q70, Q71, Q72, Q73, Q99, Q100, Q101, Q102, Q103, Q74, Q75, Q77, Q78, Q79, Q80, Q81, Q82, Q83, Q84, clr, List.length_nil, List.length_cons, List.getElem?_cons_zero, List.getElem?_cons_succ, Nat.reduceAdd, Nat.zero_add, Nat.add_zero, Nat.reduceLeDiff, Nat.reduceSub, ↓reduceIte, List.drop_succ_cons, List.drop_zero, List.take_succ_cons, List.take_zero, Bool.false_eq_true, List.nil_append, List.cons_append, Bool.not_true, Bool.not_false, cond_true, cond_false, bne, Q85, Q86, Q87, Q88, Q89, Q90, Q91, Q92, Q93, Q94, Q95, Q96, Q97, Q98, Q110, Q111, Q116, Q117, Q118, Q119, Q120, Q121, Q122, Q123, Option.map_some, Option.map_none, -Q78]
  ·   skip
      have e1 := hA' rfl
      subst e1
      have hB := hB rfl
      have n1 : ((16 : Int) == 1) = false := rfl
      have n2 : ((16 : Int) == 2) = false := rfl
      have n3 : ((16 : Int) == 3) = false := rfl
      have n4 : ((16 : Int) == 4) = false := rfl
      have n5 : ((16 : Int) == 5) = false := rfl
      have n6 : ((16 : Int) == 6) = false := rfl
      have n7 : ((16 : Int) == 7) = false := rfl
      have n8 : ((16 : Int) == 8) = false := rfl
      have n9 : ((16 : Int) == 9) = false := rfl
      have n10 : ((16 : Int) == 10) = false := rfl
      have n11 : ((16 : Int) == 11) = false := rfl
      have n12 : ((16 : Int) == 12) = false := rfl
      have n13 : ((16 : Int) == 13) = false := rfl
      have n14 : ((16 : Int) == 14) = false := rfl
      have n15 : ((16 : Int) == 15) = false := rfl
      have n16 : ((16 : Int) == 16) = true := rfl
      have n17 : ((16 : Int) == 17) = false := rfl
      have n18 : ((16 : Int) == 18) = false := rfl
      have n19 : ((16 : Int) == 19) = false := rfl
      have n20 : ((16 : Int) == 20) = false := rfl
      have n21 : ((16 : Int) == 21) = false := rfl
      simp only [code69, c69_0, c69_2, c69_3, c69_4, c69_5, c69_6, c69_7, c69_8, c69_9, c69_10, c69_11, c69_12, c69_14, c69_15, c69_16, c69_17, c69_18, c69_19, c69_20, c69_21, c69_22, c69_23, c69_24, c69_26, c69_27, c69_28, c69_29, c69_31, c69_32, c69_33, c69_34, c69_36, c69_37, c69_38, ci, b0, bo, h1, h40, hB, i_eq, n1, n2, n3, n4, n5, n6, n7, n8, n9, n10, n11, n12, n13, n14, n15, n16, n17, n18, n19, n20, n21, Q0, Q1, Q2, Q3, Q4, Q5, Q6, Q7, Q8, Q9, Q10, Q11, Q12, Q13, Q14, Q15, Q16, Q17, Q18, Q19, Q20, Q21, Q22, Q23, Q24, Q25, Q26, Q27, Q28, Q29, Q30, Q31, Q32, Q33, Q35, Q36, Q37, Q38, Q39, Q40, Q41, Q42, Q43, Q44, Q45, Q46, Q47, Q48, Q49, Q50, Q51, Q52, Q53, Q54, Q55, Q56, Q57, Q58, Q59, Q60, Q61, Q62, Q63, Q64, Q65, Q66, Q67, Q68, Q69, Q70, Q71, Q72, Q73, Q99, Q100, Q101, Q102, Q103, Q74, Q75, Q77, Q78, Q79, Q80, Q81, Q82, Q83, Q84, clr, List.length_nil, List.length_cons, List.getElem?_cons_zero, List.getElem?_cons_succ, Nat.reduceAdd, Nat.zero_add, Nat.add_zero, Nat.reduceLeDiff, Nat.reduceSub, ↓reduceIte, List.drop_succ_cons, List.drop_zero, List.take_succ_cons, List.take_zero, Bool.false_eq_true, List.nil_append, List.cons_append, Bool.not_true, Bool.not_false, cond_true, cond_false, bne, Q85, Q86, Q87, Q88, Q89, Q90, Q91, Q92, Q93, Q94, Q95, Q96, Q97, Q98, Q110, Q111, Q116, Q117, Q118, Q119, Q120, Q121, Q122, Q123, Option.map_some, Option.map_none, -Q78]
  ·   skip
      have e1 := hA' rfl
      subst e1
      have hB := hB rfl
      have n1 : ((17 : Int) == 1) = false := rfl
      have n2 : ((17 : Int) == 2) = false := rfl
      have n3 : ((17 : Int) == 3) = false := rfl
      have n4 : ((17 : Int) == 4) = false := rfl
      have n5 : ((17 : Int) == 5) = false := rfl
      have n6 : ((17 : Int) == 6) = false := rfl
      have n7 : ((17 : Int) == 7) = false := rfl
      have n8 : ((17 : Int) == 8) = false := rfl
      have n9 : ((17 : Int) == 9) = false := rfl
      have n10 : ((17 : Int) == 10) = false := rfl
      have n11 : ((17 : Int) == 11) = false := rfl
      have n12 : ((17 : Int) == 12) = false := rfl
      have n13 : ((17 : Int) == 13) = false := rfl
      have n14 : ((17 : Int) == 14) = false := rfl
      have n15 : ((17 : Int) == 15) = false := rfl
      have n16 : ((17 : Int) == 16) = false := rfl
      have n17 : ((17 : Int) == 17) = true := rfl
      have n18 : ((17 : Int) == 18) = false := rfl
      have n19 : ((17 : Int) == 19) = false := rfl
      have n20 : ((17 : Int) == 20) = false := rfl
      have n21 : ((17 : Int) == 21) = false := rfl
      simp only [code69, c69_0, c69_2, c69_3, c69_4, c69_5, c69_6, c69_7, c69_8, c69_9, c69_10, c69_11, c69_12, c69_14, c69_15, c69_16, c69_17, c69_18, c69_19, c69_20, c69_21, c69_22, c69_23, c69_24, c69_26, c69_27, c69_28, c69_29, c69_31, c69_32, c69_33, c69_34, c69_36, c69_37, c69_38, ci, b0, bo, h1, h40, hB, i_eq, n1, n2, n3, n4, n5, n6, n7, n8, n9, n10, n11, n12, n13, n14, n15, n16, n17, n18, n19, n20, n21, Q0, Q1, Q2, Q3, Q4, Q5, Q6, Q7, Q8, Q9, Q10, Q11, Q12, Q13, Q14, Q15, Q16, Q17, Q18, Q19, Q20, Q21, Q22, Q23, Q24, Q25, Q26, Q27, Q28, Q29, Q30, Q31, Q32, Q33, Q35, Q36, Q37, Q38, Q39, Q40, Q41, Q42, Q43, Q44, Q45, Q46, Q47, Q48, Q49, Q50, Q51, Q52, Q53, Q54, Q55, Q56, Q57, Q58, Q59, Q60, Q61, Q62, Q63, Q64, Q65, Q66, Q67, Q68, Q69, Q70, Q71, Q72, Q73, Q99, Q100, Q101, Q102, Q103, Q74, Q75, Q77, Q78, Q79, Q80, Q81, Q82, Q83, Q84, clr, List.length_nil, List.length_cons, List.getElem?_cons_zero, List.getElem?_cons_succ, Nat.reduceAdd, Nat.zero_add, Nat.add_zero, Nat.reduceLeDiff, Nat.reduceSub, ↓reduceIte, List.drop_succ_cons, List.drop_zero, List.take_succ_cons, List.take_zero, Bool.false_eq_true, List.nil_append, List.cons_append, Bool.not_true, Bool.not_false, cond_true, cond_false, bne, Q85, Q86, Q87, Q88, Q89, Q90, Q91, Q92, Q93, Q94, Q95, Q96, Q97, Q98, Q110, Q111, Q116, Q117, Q118, Q119, Q120, Q121, Q122, Q123, Option.map_some, Option.map_none, -Q78]
  ·   skip
      have e1 := hA' rfl
      subst e1
      have hM := hM rfl
      have n1 : ((18 : Int) == 1) = false := rfl
      have n2 : ((18 : Int) == 2) = false := rfl
      have n3 : ((18 : Int) == 3) = false := rfl
      have n4 : ((18 : Int) == 4) = false := rfl
      have n5 : ((18 : Int) == 5) = false := rfl
      have n6 : ((18 : Int) == 6) = false := rfl
      have n7 : ((18 : Int) == 7) = false := rfl
      have n8 : ((18 : Int) == 8) = false := rfl
      have n9 : ((18 : Int) == 9) = false := rfl
      have n10 : ((18 : Int) == 10) = false := rfl
      have n11 : ((18 : Int) == 11) = false := rfl
      have n12 : ((18 : Int) == 12) = false := rfl
      have n13 : ((18 : Int) == 13) = false := rfl
      have n14 : ((18 : Int) == 14) = false := rfl
      have n15 : ((18 : Int) == 15) = false := rfl
      have n16 : ((18 : Int) == 16) = false := rfl
      have n17 : ((18 : Int) == 17) = false := rfl
      have n18 : ((18 : Int) == 18) = true := rfl
      have n19 : ((18 : Int) == 19) = false := rfl
      have n20 : ((18 : Int) == 20) = false := rfl
      have n21 : ((18 : Int) == 21) = false := rfl
      simp only [code69, c69_0, c69_2, c69_3, c69_4, c69_5, c69_6, c69_7, c69_8, c69_9, c69_10, c69_11, c69_12, c69_14, c69_15, c69_16, c69_17, c69_18, c69_19, c69_20, c69_21, c69_22, c69_23, c69_24, c69_26, c69_27, c69_28, c69_29, c69_31, c69_32, c69_33, c69_34, c69_36, c69_37, c69_38, ci, b0, bo, h1, h40, hM, i_eq, n1, n2, n3, n4, n5, n6, n7, n8, n9, n10, n11, n12, n13, n14, n15, n16, n17, n18, n19, n20, n21, Q0, Q1, Q2, Q3, Q4, Q5, Q6, Q7, Q8, Q9, Q10, Q11, Q12, Q13, Q14, Q15, Q16, Q17, Q18, Q19, Q20, Q21, Q22, Q23, Q24, Q25, Q26, Q27, Q28, Q29, Q30, Q31, Q32, Q33, Q35, Q36, Q37, Q38, Q39, Q40, Q41, Q42, Q43, Q44, Q45, Q46, Q47, Q48, Q49, Q50, Q51, Q52, Q53, Q54, Q55, Q56, Q57, Q58, Q59, Q60, Q61, Q62, Q63, Q64, Q65, Q66, Q67, Q68, Q69, Q70, Q71, Q72, Q73, Q99, Q100, Q101, Q102, Q103, Q74, Q75, Q77, Q78, Q79, Q80, Q81, Q82, Q83, Q84, clr, List.length_nil, List.length_cons, List.getElem?_cons_zero, List.getElem?_cons_succ, Nat.reduceAdd, Nat.zero_add, Nat.add_zero, Nat.reduceLeDiff, Nat.reduceSub, ↓reduceIte, List.drop_succ_cons, List.drop_zero, List.take_succ_cons, List.take_zero, Bool.false_eq_true, List.nil_append, List.cons_append, Bool.not_true, Bool.not_false, cond_true, cond_false, bne, Q85, Q86, Q87, Q88, Q89, Q90, Q91, Q92, Q93, Q94, Q95, Q96, Q97, Q98, Q110, Q111, Q116, Q117, Q118, Q119, Q120, Q121, Q122, Q123, Option.map_some, Option.map_none, -Q78]
  ·   skip
      have e1 := hA' rfl
      subst e1
      have hN := hN rfl
      have n1 : ((19 : Int) == 1) = false := rfl
      have n2 : ((19 : Int) == 2) = false := rfl
      have n3 : ((19 : Int) == 3) = false := rfl
      have n4 : ((19 : Int) == 4) = false := rfl
      have n5 : ((19 : Int) == 5) = false := rfl
      have n6 : ((19 : Int) == 6) = false := rfl
      have n7 : ((19 : Int) == 7) = false := rfl
      have n8 : ((19 : Int) == 8) = false := rfl
      have n9 : ((19 : Int) == 9) = false := rfl
      have n10 : ((19 : Int) == 10) = false := rfl
      have n11 : ((19 : Int) == 11) = false := rfl
      have n12 : ((19 : Int) == 12) = false := rfl
      have n13 : ((19 : Int) == 13) = false := rfl
      have n14 : ((19 : Int) == 14) = false := rfl
      have n15 : ((19 : Int) == 15) = false := rfl
      have n16 : ((19 : Int) == 16) = false := rfl
      have n17 : ((19 : Int) == 17) = false := rfl
      have n18 : ((19 : Int) == 18) = false := rfl
      have n19 : ((19 : Int) == 19) = true := rfl
      have n20 : ((19 : Int) == 20) = false := rfl
      have n21 : ((19 : Int) == 21) = false := rfl
      simp only [code69, c69_0, c69_2, c69_3, c69_4, c69_5, c69_6, c69_7, c69_8, c69_9, c69_10, c69_11, c69_12, c69_14, c69_15, c69_16, c69_17, c69_18, c69_19, c69_20, c69_21, c69_22, c69_23, c69_24, c69_26, c69_27, c69_28, c69_29, c69_31, c69_32, c69_33, c69_34, c69_36, c69_37, c69_38, ci, b0, bo, h1, h40, hN, i_eq, n1, n2, n3, n4, n5, n6, n7, n8, n9, n10, n11, n12, n13, n14, n15, n16, n17, n18, n19, n20, n21, Q0, Q1, Q2, Q3, Q4, Q5, Q6, Q7, Q8, Q9, Q10, Q11, Q12, Q13, Q14, Q15, Q16, Q17, Q18, Q19, Q20, Q21, Q22, Q23, Q24, Q25, Q26, Q27, Q28, Q29, Q30, Q31, Q32, Q33, Q35, Q36, Q37, Q38, Q39, Q40, Q41, Q42, Q43, Q44, Q45, Q46, Q47, Q48, Q49, Q50, Q51, Q52, Q53, Q54, Q55, Q56, Q57, Q58, Q59, Q60, Q61, Q62, Q63, Q64, Q65, Q66, Q67, Q68, Q69, Q70, Q71, Q72, Q73, Q99, Q100, Q101, Q102, Q103, Q74, Q75, Q77, Q78, Q79, Q80, Q81, Q82, Q83, Q84, clr, List.length_nil, List.length_cons, List.getElem?_cons_zero, List.getElem?_cons_succ, Nat.reduceAdd, Nat.zero_add, Nat.add_zero, Nat.reduceLeDiff, Nat.reduceSub, ↓reduceIte, List.drop_succ_cons, List.drop_zero, List.take_succ_cons, List.take_zero, Bool.false_eq_true, List.nil_append, List.cons_append, Bool.not_true, Bool.not_false, cond_true, cond_false, bne, Q85, Q86, Q87, Q88, Q89, Q90, Q91, Q92, Q93, Q94, Q95, Q96, Q97, Q98, Q110, Q111, Q116, Q117, Q118, Q119, Q120, Q121, Q122, Q123, Option.map_some, Option.map_none, -Q78]
  ·   skip
      have e1 := hA' rfl
      subst e1
      have hB := hB rfl
      have n1 : ((20 : Int) == 1) = false := rfl
      have n2 : ((20 : Int) == 2) = false := rfl
      have n3 : ((20 : Int) == 3) = false := rfl
      have n4 : ((20 : Int) == 4) = false := rfl
      have n5 : ((20 : Int) == 5) = false := rfl
      have n6 : ((20 : Int) == 6) = false := rfl
      have n7 : ((20 : Int) == 7) = false := rfl
      have n8 : ((20 : Int) == 8) = false := rfl
      have n9 : ((20 : Int) == 9) = false := rfl
      have n10 : ((20 : Int) == 10) = false := rfl
      have n11 : ((20 : Int) == 11) = false := rfl
      have n12 : ((20 : Int) == 12) = false := rfl
      have n13 : ((20 : Int) == 13) = false := rfl
      have n14 : ((20 : Int) == 14) = false := rfl
      have n15 : ((20 : Int) == 15) = false := rfl
      have n16 : ((20 : Int) == 16) = false := rfl
      have n17 : ((20 : Int) == 17) = false := rfl
      have n18 : ((20 : Int) == 18) = false := rfl
      have n19 : ((20 : Int) == 19) = false := rfl
      have n20 : ((20 : Int) == 20) = true := rfl
      have n21 : ((20 : Int) == 21) = false := rfl
      simp only [code69, c69_0, c69_2, c69_3, c69_4, c69_5, c69_6, c69_7, c69_8, c69_9, c69_10, c69_11, c69_12, c69_14, c69_15, c69_16, c69_17, c69_18, c69_19, c69_20, c69_21, c69_22, c69_23, c69_24, c69_26, c69_27, c69_28, c69_29, c69_31, c69_32, c69_33, c69_34, c69_36, c69_37, c69_38, ci, b0, bo, h1, h40, hB, i_eq, n1, n2, n3, n4, n5, n6, n7, n8, n9, n10, n11, n12, n13, n14, n15, n16, n17, n18, n19, n20, n21, Q0, Q1, Q2, Q3, Q4, Q5, Q6, Q7, Q8, Q9, Q10, Q11, Q12, Q13, Q14, Q15, Q16, Q17, Q18, Q19, Q20, Q21, Q22, Q23, Q24, Q25, Q26, Q27, Q28, Q29, Q30, Q31, Q32, Q33, Q35, Q36, Q37, Q38, Q39, Q40, Q41, Q42, Q43, Q44, Q45, Q46, Q47, Q48, Q49, Q50, Q51, Q52, Q53, Q54, Q55, Q56, Q57, Q58, Q59, Q60, Q61, Q62, Q63, Q64, Q65, Q66, Q67, Q68, Q69, Q70, Q71, Q72, Q73, Q99, Q100, Q101, Q102, Q103, Q74, Q75, Q77, Q78, Q79, Q80, Q81, Q82, Q83, Q84, clr, List.length_nil, List.length_cons, List.getElem?_cons_zero, List.getElem?_cons_succ, Nat.reduceAdd, Nat.zero_add, Nat.add_zero, Nat.reduceLeDiff, Nat.reduceSub, ↓reduceIte, List.drop_succ_cons, List.drop_zero, List.take_succ_cons, List.take_zero, Bool.false_eq_true, List.nil_append, List.cons_append, Bool.not_true, Bool.not_false, cond_true, cond_false, bne, Q85, Q86, Q87, Q88, Q89, Q90, Q91, Q92, Q93, Q94, Q95, Q96, Q97, Q98, Q110, Q111, Q116, Q117, Q118, Q119, Q120, Q121, Q122, Q123, Option.map_some, Option.map_none, -Q78]
  ·   skip
      have e1 := hA' rfl
      subst e1
      have hC := hC rfl
      have n1 : ((21 : Int) == 1) = false := rfl
      have n2 : ((21 : Int) == 2) = false := rfl
      have n3 : ((21 : Int) == 3) = false := rfl
      have n4 : ((21 : Int) == 4) = false := rfl
      have n5 : ((21 : Int) == 5) = false := rfl
      have n6 : ((21 : Int) == 6) = false := rfl
      have n7 : ((21 : Int) == 7) = false := rfl
      have n8 : ((21 : Int) == 8) = false := rfl
      have n9 : ((21 : Int) == 9) = false := rfl
      have n10 : ((21 : Int) == 10) = false := rfl
      have n11 : ((21 : Int) == 11) = false := rfl
      have n12 : ((21 : Int) == 12) = false := rfl
      have n13 : ((21 : Int) == 13) = false := rfl
      have n14 : ((21 : Int) == 14) = false := rfl
      have n15 : ((21 : Int) == 15) = false := rfl
      have n16 : ((21 : Int) == 16) = false := rfl
      have n17 : ((21 : Int) == 17) = false := rfl
      have n18 : ((21 : Int) == 18) = false := rfl
      have n19 : ((21 : Int) == 19) = false := rfl
      have n20 : ((21 : Int) == 20) = false := rfl
      have n21 : ((21 : Int) == 21) = true := rfl
      simp only [code69, c69_0, c69_2, c69_3, c69_4, c69_5, c69_6, c69_7, c69_8, c69_9, c69_10, c69_11, c69_12, c69_14, c69_15, c69_16, c69_17, c69_18, c69_19, c69_20, c69_21, c69_22, c69_23, c69_24, c69_26, c69_27, c69_28, c69_29, c69_31, c69_32, c69_33, c69_34, c69_36, c69_37, c69_38, ci, b0, bo, h1, h40, hC, i_eq, n1, n2, n3, n4, n5, n6, n7, n8, n9, n10, n11, n12, n13, n14, n15, n16, n17, n18, n19, n20, n21, Q0, Q1, Q2, Q3, Q4, Q5, Q6, Q7, Q8, Q9, Q10, Q11, Q12, Q13, Q14, Q15, Q16, Q17, Q18, Q19, Q20, Q21, Q22, Q23, Q24, Q25, Q26, Q27, Q28, Q29, Q30, Q31, Q32, Q33, Q35, Q36, Q37, Q38, Q39, Q40, Q41, Q42, Q43, Q44, Q45, Q46, Q47, Q48, Q49, Q50, Q51, Q52, Q53, Q54, Q55, Q56, Q57, Q58, Q59, Q60, Q61, Q62, Q63, Q64, Q65, Q66, Q67, Q68, Q69, Q70, Q71, Q72, Q73, Q99, Q100, Q101, Q102, Q103, Q74, Q75, Q77, Q78, Q79, Q80, Q81, Q82, Q83, Q84, clr, List.length_nil, List.length_cons, List.getElem?_cons_zero, List.getElem?_cons_succ, Nat.reduceAdd, Nat.zero_add, Nat.add_zero, Nat.reduceLeDiff, Nat.reduceSub, ↓reduceIte, List.drop_succ_cons, List.drop_zero, List.take_succ_cons, List.take_zero, Bool.false_eq_true, List.nil_append, List.cons_append, Bool.not_true, Bool.not_false, cond_true, cond_false, bne, Q85, Q86, Q87, Q88, Q89, Q90, Q91, Q92, Q93, Q94, Q95, Q96, Q97, Q98, Q110, Q111, Q116, Q117, Q118, Q119, Q120, Q121, Q122, Q123, Option.map_some, Option.map_none, -Q78]
end Go.AE.YtinhjhkmpknbbaaDoor
end

/-! An instruction's text: the document's line tells what the program's does. -/
section
set_option linter.unusedVariables false
set_option linter.unusedSimpArgs false
namespace Go.AE.YtinhjhkmpknbbaaDoor
open Go Go.AE Go.Proofs.YtinhjhkmpknbbaaDoor

theorem tabA : (List.range 20).map (fun (k : Nat) => [1, 2, 3, 4, 5, 11, 12, 13, 14, 15].contains ((k : Int) + 1)) = (List.range 20).map fun k => (k / 5) % 2 == 0 := by kernel_rfl
theorem tabB : (List.range 20).map (fun (k : Nat) => [1, 2, 6, 7, 10, 11, 12, 16, 17, 20].contains ((k : Int) + 1)) = (List.range 20).map fun k => isReg (nmS (k / 5) (k % 5)) := by kernel_rfl
theorem tabM : (List.range 20).map (fun (k : Nat) => [3, 8, 13, 18].contains ((k : Int) + 1)) = (List.range 20).map fun k => !isReg (nmS (k / 5) (k % 5)) && sEq (nmS (k / 5) (k % 5)) ⟨#[97, 116, 111, 109]⟩ := by kernel_rfl
theorem tabN : (List.range 20).map (fun (k : Nat) => [4, 9, 14, 19].contains ((k : Int) + 1)) = (List.range 20).map fun k => !isReg (nmS (k / 5) (k % 5)) && (!sEq (nmS (k / 5) (k % 5)) ⟨#[97, 116, 111, 109]⟩ && sEq (nmS (k / 5) (k % 5)) ⟨#[105, 110, 116]⟩) := by kernel_rfl
theorem tabC : (List.range 20).map (fun (k : Nat) => [5, 15, 21].contains ((k : Int) + 1)) = (List.range 20).map fun k => !isReg (nmS (k / 5) (k % 5)) && (!sEq (nmS (k / 5) (k % 5)) ⟨#[97, 116, 111, 109]⟩ && !sEq (nmS (k / 5) (k % 5)) ⟨#[105, 110, 116]⟩) := by kernel_rfl
theorem at20 {α : Type} {f g : Nat → α} (h : (List.range 20).map f = (List.range 20).map g) {k : Nat} (hk : k < 20) : f k = g k := List.map_inj_left.1 h k (List.mem_range.2 hk)
theorem opL {k : Nat} (hk : k < 20) : ((k : Int) + 1 = 1 ∨ (k : Int) + 1 = 2 ∨ (k : Int) + 1 = 3 ∨ (k : Int) + 1 = 4 ∨ (k : Int) + 1 = 5 ∨ (k : Int) + 1 = 6 ∨ (k : Int) + 1 = 7 ∨ (k : Int) + 1 = 8 ∨ (k : Int) + 1 = 9 ∨ (k : Int) + 1 = 10 ∨ (k : Int) + 1 = 11 ∨ (k : Int) + 1 = 12 ∨ (k : Int) + 1 = 13 ∨ (k : Int) + 1 = 14 ∨ (k : Int) + 1 = 15 ∨ (k : Int) + 1 = 16 ∨ (k : Int) + 1 = 17 ∨ (k : Int) + 1 = 18 ∨ (k : Int) + 1 = 19 ∨ (k : Int) + 1 = 20 ∨ (k : Int) + 1 = 21) := by omega
theorem leaf1 {call : CallF} {K : Nat} {i : In} {S : ByteArray} {v0 v2 v3 v4 v5 v6 v7 v8 v9 v10 : AV} (hx : call 98 [.v (.int .i64 i.op)] [] = some (.v (.string S), [])) : exec call K (.region [] [] c69_1) [v0, .ptr 0 0, v2, v3, v4, v5, v6, v7, v8, v9, v10] (bI i) = some (.normal, [v0, .ptr 0 0, v2, .v (.string S), v4, v5, v6, v7, v8, v9, v10], bI i) := by
  simp only [c69_1, bO, hx, snap_int, Q0, Q1, Q2, Q3, Q4, Q5, Q6, Q7, Q8, Q9, Q10, Q11, Q12, Q13, Q14, Q15, Q16, Q17, Q18, Q19, Q20, Q21, Q22, Q23, Q24, Q25, Q26, Q27, Q28, Q29, Q30, Q31, Q32, Q33, Q35, Q36, Q37, Q38, Q39, Q40, Q41, Q42, Q43, Q44, Q45, Q46, Q47, Q48, Q49, Q50, Q51, Q52, Q53, Q54, Q55, Q56, Q57, Q58, Q59, Q60, Q61, Q62, Q63, Q64, Q65, Q66, Q67, Q68, Q69, Q70, Q71, Q72, Q73, Q99, Q100, Q101, Q102, Q103, Q74, Q75, Q77, Q78, Q79, Q80, Q81, Q82, Q83, Q84, clr, List.length_nil, List.length_cons, List.getElem?_cons_zero, List.getElem?_cons_succ, Nat.reduceAdd, Nat.zero_add, Nat.add_zero, Nat.reduceLeDiff, Nat.reduceSub, ↓reduceIte, List.drop_succ_cons, List.drop_zero, List.take_succ_cons, List.take_zero, Bool.false_eq_true, List.nil_append, List.cons_append, Bool.not_true, Bool.not_false, cond_true, cond_false, bne, Q85, Q86, Q87, Q88, Q89, Q90, Q91, Q92, Q93, Q94, Q95, Q96, Q97, Q98, Q110, Q111, Q116, Q117, Q118, Q119, Q120, Q121, Q122, Q123, Option.map_some, Option.map_none, Q34]
end Go.AE.YtinhjhkmpknbbaaDoor
end

/-! An instruction's text: the document's line, of an instruction that names a register or a part. -/
section
set_option linter.unusedVariables false
set_option linter.unusedSimpArgs false
namespace Go.AE.YtinhjhkmpknbbaaDoor
open Go Go.AE Go.Proofs.YtinhjhkmpknbbaaDoor

theorem bl_mk (L : List UInt8) : bl ⟨L.toArray⟩ = L := by simp [bl]
theorem addL {P : ByteArray} {L : List UInt8} (h : (bl P).length + L.length ≤ 1000000000) : Q78 .add (.v (.string P)) (.v (.string ⟨L.toArray⟩)) = some (.v (.string ⟨(bl P ++ L).toArray⟩)) := by
  have := addS (x := bl P) (y := L) (z := bl P ++ L) h rfl
  rwa [← cstr P] at this
theorem add32 {L : List UInt8} (h : L.length ≤ 100000) : Q78 .add (.v (.string ⟨#[32]⟩)) (.v (.string ⟨L.toArray⟩)) = some (.v (.string ⟨(32 :: L).toArray⟩)) :=
  addS (x := [32]) (y := L) (z := 32 :: L) (by simp only [List.length_cons, List.length_nil]; omega) rfl
theorem rline_20 {i : In} (ra : rg i.a) (rb : rg i.b) (rc : rg i.n) {k : Nat} (hk : k < 20) (hop : i.op = (k : Int) + 1) :
    callW F 69 [.agg (inC i)] [] = some (.v (.string ⟨(bl (nmR k) ++ midL i (k / 5) ++ lastL i (nmS (k / 5) (k % 5)) ++ [10]).toArray⟩), []) := by
  have eA : [1, 2, 3, 4, 5, 11, 12, 13, 14, 15].contains ((k : Int) + 1) = ((k / 5) % 2 == 0) := at20 tabA hk
  have eB : [1, 2, 6, 7, 10, 11, 12, 16, 17, 20].contains ((k : Int) + 1) = isReg (nmS (k / 5) (k % 5)) := at20 tabB hk
  have eM : [3, 8, 13, 18].contains ((k : Int) + 1) = (!isReg (nmS (k / 5) (k % 5)) && sEq (nmS (k / 5) (k % 5)) ⟨#[97, 116, 111, 109]⟩) := at20 tabM hk
  have eN : [4, 9, 14, 19].contains ((k : Int) + 1) = (!isReg (nmS (k / 5) (k % 5)) && (!sEq (nmS (k / 5) (k % 5)) ⟨#[97, 116, 111, 109]⟩ && sEq (nmS (k / 5) (k % 5)) ⟨#[105, 110, 116]⟩)) := at20 tabN hk
  have eC : [5, 15, 21].contains ((k : Int) + 1) = (!isReg (nmS (k / 5) (k % 5)) && (!sEq (nmS (k / 5) (k % 5)) ⟨#[97, 116, 111, 109]⟩ && !sEq (nmS (k / 5) (k % 5)) ⟨#[105, 110, 116]⟩)) := at20 tabC hk
  have l0 : (bl (nmR k)).length ≤ 8 := by
    have h1 := rn_len (k / 5)
    have h2 := nm_len (k / 5) (k % 5)
    rw [nmR, if_pos hk, bl_mk, List.length_append, List.length_cons]; omega
  have na := rnum_ok ra
  have nb := rnum_ok rb
  have nc := rnum_ok rc
  have la := numT_len ra
  have lb := numT_len rb
  have lc := numT_len rc
  have lw := wrS_len i.nm
  have nw := rwrite_any i.nm
  rw [cstr (numT i.a)] at na
  rw [cstr (numT i.b)] at nb
  rw [cstr (numT i.n)] at nc
  have lm : (midL i (k / 5)).length ≤ 22 := by unfold midL; split <;> simp only [List.length_cons, List.length_nil] <;> omega
  have hcl := call_len rc
  obtain ⟨M, hM⟩ : ∃ M, M = midL i (k / 5) := ⟨_, rfl⟩
  obtain ⟨N, hN⟩ : ∃ N, N = nmS (k / 5) (k % 5) := ⟨_, rfl⟩
  obtain ⟨L, hL⟩ : ∃ L, L = lastL i N := ⟨_, rfl⟩
  have ll : L.length ≤ 1400 := by
    rw [hL]; unfold lastL
    split
    · simp only [List.length_cons]; omega
    · split
      · simp only [List.length_cons]; omega
      · split
        · simp only [List.length_cons]; omega
        · exact hcl
  rw [← hN] at eB eM eN eC ⊢
  rw [← hM] at lm ⊢
  rw [← hL]
  have b1 := bl_mk (bl (nmR k) ++ M)
  have b2 := bl_mk (bl (nmR k) ++ M ++ L)
  have lP1 : (bl (nmR k) ++ M).length ≤ 100 := by rw [List.length_append]; omega
  have lP2 : (bl (nmR k) ++ M ++ L).length ≤ 2000 := by rw [List.length_append]; omega
  have a0 := addL (P := nmR k) (L := M) (by omega)
  have a1 := addL (P := ⟨(bl (nmR k) ++ M).toArray⟩) (L := L) (by rw [b1]; omega)
  rw [b1] at a1
  have a2 := addL (P := ⟨(bl (nmR k) ++ M ++ L).toArray⟩) (L := [10]) (by rw [b2]; simp only [List.length_cons, List.length_nil]; omega)
  rw [b2] at a2
  refine run69 (P0 := nmR k) (P1 := ⟨(bl (nmR k) ++ M).toArray⟩) (P2 := ⟨(bl (nmR k) ++ M ++ L).toArray⟩) (P3 := ⟨(bl (nmR k) ++ M ++ L ++ [10]).toArray⟩) hop code69_eq ?h1 ?hA ?hA' ?hB ?hM ?hN ?hC ?hE ?h40 (.inr (.inr (opL hk)))
  case h1 => exact fun _ _ _ _ _ _ _ _ _ _ => leaf1 (by rw [hop]; exact name_ok (by omega))
  case hA =>
    intro h
    rw [eA] at h
    rw [midL, if_pos h] at hM
    subst hM
    exact fun _ _ _ _ _ _ _ _ _ => rlN bA na (add32 (by omega)) a0
  case hA' =>
    intro h
    rw [eA] at h
    rw [midL, if_neg (by rw [h]; simp)] at hM
    rw [hM, List.append_nil, ← cstr (nmR k)]
  case hB =>
    intro h
    rw [eB] at h
    rw [lastL, if_pos h] at hL
    subst hL
    exact fun _ _ _ _ _ _ _ _ _ => rlN bB nb (add32 (by omega)) a1
  case hM =>
    intro h
    rw [eM, Bool.and_eq_true, Bool.not_eq_true'] at h
    rw [lastL, if_neg (by rw [h.1]; simp), if_pos h.2] at hL
    subst hL
    exact fun _ _ _ _ _ _ _ _ _ => rlM nw (add32 (by omega)) a1
  case hN =>
    intro h
    rw [eN, Bool.and_eq_true, Bool.and_eq_true, Bool.not_eq_true', Bool.not_eq_true'] at h
    rw [lastL, if_neg (by rw [h.1]; simp), if_neg (by rw [h.2.1]; simp), if_pos h.2.2] at hL
    subst hL
    exact fun _ _ _ _ _ _ _ _ _ => rlN bN nc (add32 (by omega)) a1
  case hC =>
    intro h
    rw [eC, Bool.and_eq_true, Bool.and_eq_true, Bool.not_eq_true', Bool.not_eq_true', Bool.not_eq_true'] at h
    rw [lastL, if_neg (by rw [h.1]; simp), if_neg (by rw [h.2.1]; simp), if_neg (by rw [h.2.2]; simp)] at hL
    subst hL
    have c1 := add32 (L := wrS i.nm) (by omega)
    have c2 := addS (x := 32 :: wrS i.nm) (y := [47]) (z := 32 :: (wrS i.nm ++ [47])) (by simp only [List.length_cons, List.length_nil]; omega) rfl
    have c3 := addS (x := 32 :: (wrS i.nm ++ [47])) (y := bl (numT i.n)) (z := callL i) (by simp only [List.length_cons, List.length_append, List.length_nil]; omega) (by simp [callL])
    exact fun _ _ _ _ _ _ _ _ _ => rlC nw nc c1 c2 c3 a1
  case hE => intro h; omega
  case h40 => exact fun _ _ _ _ _ _ _ _ _ => rlE a2
end Go.AE.YtinhjhkmpknbbaaDoor
end

/-! An instruction's text: the document's line, of any instruction. -/
section
set_option linter.unusedVariables false
set_option linter.unusedSimpArgs false
namespace Go.AE.YtinhjhkmpknbbaaDoor
open Go Go.AE Go.Proofs.YtinhjhkmpknbbaaDoor

theorem rline_0 {i : In} {op : Int} {S : ByteArray} (hop : i.op = op) (hn : callW F 98 [.v (.int .i64 i.op)] [] = some (.v (.string S), [])) (ho : op < 1 ∨ op > 21) (hl : (bl S).length ≤ 1000) :
    callW F 69 [.agg (inC i)] [] = some (.v (.string ⟨(bl S ++ [10]).toArray⟩), []) := by
  have a2 := addL (P := S) (L := [10]) (by simp only [List.length_cons, List.length_nil]; omega)
  have no : ∀ l : List Int, (∀ c ∈ l, 1 ≤ c ∧ c ≤ 21) → l.contains op = true → False := by
    intro l hl h
    have := List.contains_iff_mem.1 h
    have := hl _ this
    omega
  refine run69 (P0 := S) (P1 := S) (P2 := S) (P3 := ⟨(bl S ++ [10]).toArray⟩) hop code69_eq ?h1 ?hA ?hA' ?hB ?hM ?hN ?hC ?hE ?h40 (ho.elim .inl fun h => .inr (.inl h))
  case h1 => exact fun _ _ _ _ _ _ _ _ _ _ => leaf1 hn
  case hA => intro h; exact (no _ (by decide) h).elim
  case hA' => intro _; rfl
  case hB => intro h; exact (no _ (by decide) h).elim
  case hM => intro h; exact (no _ (by decide) h).elim
  case hN => intro h; exact (no _ (by decide) h).elim
  case hC => intro h; exact (no _ (by decide) h).elim
  case hE => intro _; rfl
  case h40 => exact fun _ _ _ _ _ _ _ _ _ => rlE a2
theorem rline_21 {i : In} (rc : rg i.n) (hop : i.op = 21) : callW F 69 [.agg (inC i)] [] = some (.v (.string ⟨(bl (nmR 20) ++ callL i ++ [10]).toArray⟩), []) := by
  have nc := rnum_ok rc
  have lc := numT_len rc
  have lw := wrS_len i.nm
  have nw := rwrite_any i.nm
  rw [cstr (numT i.n)] at nc
  have hcl := call_len rc
  have l0 : (bl (nmR 20)).length = 4 := by decide
  have b1 := bl_mk (bl (nmR 20) ++ callL i)
  have a1 := addL (P := nmR 20) (L := callL i) (by omega)
  have a2 := addL (P := ⟨(bl (nmR 20) ++ callL i).toArray⟩) (L := [10]) (by rw [b1, List.length_append]; simp only [List.length_cons, List.length_nil]; omega)
  rw [b1] at a2
  have c1 := add32 (L := wrS i.nm) (by omega)
  have c2 := addS (x := 32 :: wrS i.nm) (y := [47]) (z := 32 :: (wrS i.nm ++ [47])) (by simp only [List.length_cons, List.length_nil]; omega) rfl
  have c3 := addS (x := 32 :: (wrS i.nm ++ [47])) (y := bl (numT i.n)) (z := callL i) (by simp only [List.length_cons, List.length_append, List.length_nil]; omega) (by simp [callL])
  refine run69 (P0 := nmR 20) (P1 := nmR 20) (P2 := ⟨(bl (nmR 20) ++ callL i).toArray⟩) (P3 := ⟨(bl (nmR 20) ++ callL i ++ [10]).toArray⟩) hop code69_eq ?h1 ?hA ?hA' ?hB ?hM ?hN ?hC ?hE ?h40 (by simp)
  case h1 => exact fun _ _ _ _ _ _ _ _ _ _ => leaf1 (by rw [hop]; exact name_ok (k := 20) (by omega))
  case hA => intro h; cases h
  case hA' => intro _; rfl
  case hB => intro h; cases h
  case hM => intro h; cases h
  case hN => intro h; cases h
  case hC => intro _; exact fun _ _ _ _ _ _ _ _ _ => rlC nw nc c1 c2 c3 a1
  case hE => intro h; omega
  case h40 => exact fun _ _ _ _ _ _ _ _ _ => rlE a2
end Go.AE.YtinhjhkmpknbbaaDoor
end

/-! An instruction's text: the document's line tells what the program's does. -/
section
set_option linter.unusedVariables false
set_option linter.unusedSimpArgs false
namespace Go.AE.YtinhjhkmpknbbaaDoor
open Go Go.AE Go.Proofs.YtinhjhkmpknbbaaDoor

def NL : AV := .slc 1 true true ((List.range 23).map fun k => .v (.string (nmR k)))
theorem r98 {call : CallF} {v0 v1 v2 v3 : AV} : exec call 0 (.region [] [] c98_1) [v0, v1, v2, v3] [] = some (.normal, [v0, v1, NL, v3], []) := by kernel_rfl
theorem name_none {op : Int} (h : op < 1 ∨ op > 23) : callW F 98 [.v (.int .i64 op)] [] = some (.v (.string ⟨#[63]⟩), []) := by
  have r := fun v0 v1 v2 v3 => r98 (call := callW F) (v0 := v0) (v1 := v1) (v2 := v2) (v3 := v3)
  have ln : ∀ H : List AO, evLen H .slice NL = some 23 := fun _ => rfl
  refine callW_pure (c := c98) rfl rfl 0 ?_
  rw [show c98.body = (.seq (.region [] [] c98_0) (.seq (.region [] [] c98_1) (.seq (.seq (.region [] [] c98_2) (.cond (.var 3) (.seq (.region [] [] c98_3) .ret) .skip)) (.seq (.region [] [] c98_4) .ret)))) from rfl]
  generalize (CC.region [] [] c98_1) = X1 at r ⊢
  generalize (CC.seq (.region [] [] c98_4) .ret) = rest
  generalize NL = L at r ln
  cases hlo : decide (op < 1) with
  | true => simp only [c98, start, List.replicate, c98_0, c98_2, c98_3, r, hlo, Q122, Q0, Q1, Q2, Q3, Q4, Q5, Q6, Q7, Q8, Q9, Q10, Q11, Q12, Q13, Q14, Q15, Q16, Q17, Q18, Q19, Q20, Q21, Q22, Q23, Q24, Q25, Q26, Q27, Q28, Q29, Q30, Q31, Q32, Q33, Q35, Q36, Q37, Q38, Q39, Q40, Q41, Q42, Q43, Q44, Q45, Q46, Q47, Q48, Q49, Q50, Q51, Q52, Q53, Q54, Q55, Q56, Q57, Q58, Q59, Q60, Q61, Q62, Q63, Q64, Q65, Q66, Q67, Q68, Q69, Q70, Q71, Q72, Q73, Q99, Q100, Q101, Q102, Q103, Q74, Q75, Q77, Q78, Q79, Q80, Q81, Q82, Q83, Q84, clr, List.length_nil, List.length_cons, List.getElem?_cons_zero, List.getElem?_cons_succ, Nat.reduceAdd, Nat.zero_add, Nat.add_zero, Nat.reduceLeDiff, Nat.reduceSub, ↓reduceIte, List.drop_succ_cons, List.drop_zero, List.take_succ_cons, List.take_zero, Bool.false_eq_true, List.nil_append, List.cons_append, Bool.not_true, Bool.not_false, cond_true, cond_false, bne, Q85, Q86, Q87, Q88, Q89, Q90, Q91, Q92, Q93, Q94, Q95, Q96, Q97, Q98, Q110, Q111, Q116, Q117, Q118, Q119, Q120, Q121, Q122, Q123, Option.map_some, Option.map_none, Q34]
  | false =>
    have hhi : decide (op > ((23 : Nat) : Int)) = true := decide_eq_true (by have := of_decide_eq_false hlo; omega)
    simp only [c98, start, List.replicate, c98_0, c98_2, c98_3, r, ln, hlo, hhi, Q122, Q0, Q1, Q2, Q3, Q4, Q5, Q6, Q7, Q8, Q9, Q10, Q11, Q12, Q13, Q14, Q15, Q16, Q17, Q18, Q19, Q20, Q21, Q22, Q23, Q24, Q25, Q26, Q27, Q28, Q29, Q30, Q31, Q32, Q33, Q35, Q36, Q37, Q38, Q39, Q40, Q41, Q42, Q43, Q44, Q45, Q46, Q47, Q48, Q49, Q50, Q51, Q52, Q53, Q54, Q55, Q56, Q57, Q58, Q59, Q60, Q61, Q62, Q63, Q64, Q65, Q66, Q67, Q68, Q69, Q70, Q71, Q72, Q73, Q99, Q100, Q101, Q102, Q103, Q74, Q75, Q77, Q78, Q79, Q80, Q81, Q82, Q83, Q84, clr, List.length_nil, List.length_cons, List.getElem?_cons_zero, List.getElem?_cons_succ, Nat.reduceAdd, Nat.zero_add, Nat.add_zero, Nat.reduceLeDiff, Nat.reduceSub, ↓reduceIte, List.drop_succ_cons, List.drop_zero, List.take_succ_cons, List.take_zero, Bool.false_eq_true, List.nil_append, List.cons_append, Bool.not_true, Bool.not_false, cond_true, cond_false, bne, Q85, Q86, Q87, Q88, Q89, Q90, Q91, Q92, Q93, Q94, Q95, Q96, Q97, Q98, Q110, Q111, Q116, Q117, Q118, Q119, Q120, Q121, Q122, Q123, Option.map_some, Option.map_none, Q34]
theorem rline_ok {i : In} (h : rgI i) : callW F 69 [.agg (inC i)] [] = some (.v (.string ⟨(lineL i ++ [10]).toArray⟩), []) := by
  obtain ⟨ra, rb, rc⟩ := h
  unfold lineL
  cases h21 : (i.op == 21) with
  | true => rw [if_pos rfl]; exact rline_21 rc (by simpa using h21)
  | false =>
  rw [if_neg (by simp)]
  cases h22 : (i.op == 22) with
  | true =>
    have e : i.op = 22 := by simpa using h22
    rw [if_pos rfl]; exact rline_0 (S := nmR 21) e (by rw [e]; exact name_ok (k := 21) (by omega)) (by omega) (by decide)
  | false =>
  rw [if_neg (by simp)]
  cases h23 : (i.op == 23) with
  | true =>
    have e : i.op = 23 := by simpa using h23
    rw [if_pos rfl]; exact rline_0 (S := nmR 22) e (by rw [e]; exact name_ok (k := 22) (by omega)) (by omega) (by decide)
  | false =>
  rw [if_neg (by simp)]
  rw [beq_eq_false_iff_ne] at h21 h22 h23
  by_cases ho : i.op < 1 ∨ i.op > 20
  · have e : (decide (i.op < 1) || decide (i.op > 20)) = true := by simpa using ho
    rw [e, if_pos rfl]
    exact rline_0 (S := ⟨#[63]⟩) rfl (name_none (by omega)) (by omega) (by decide)
  · have e : (decide (i.op < 1) || decide (i.op > 20)) = false := by
      rw [Bool.or_eq_false_iff]; exact ⟨decide_eq_false (by omega), decide_eq_false (by omega)⟩
    rw [e, if_neg (by simp)]
    obtain ⟨k, hk⟩ : ∃ k : Nat, i.op = (k : Int) + 1 := ⟨(i.op - 1).toNat, by omega⟩
    have hk20 : k < 20 := by omega
    have e1 : ((i.op - 1) / 5).toNat = k / 5 := by omega
    have e2 : ((i.op - 1) % 5).toNat = k % 5 := by omega
    have hR := rline_20 ra rb rc hk20 hk
    rw [e1, e2]
    have en : bl (nmR k) = bl (rn (k / 5)) ++ 95 :: bl (nmS (k / 5) (k % 5)) := by rw [nmR, if_pos hk20, bl_mk]
    rw [en] at hR
    simpa [List.append_assoc] using hR
end Go.AE.YtinhjhkmpknbbaaDoor
end

/-! Instructions' text: the document's. -/
section
set_option linter.unusedVariables false
set_option linter.unusedSimpArgs false
namespace Go.AE.YtinhjhkmpknbbaaDoor
open Go Go.AE Go.Proofs.YtinhjhkmpknbbaaDoor

def V35 (P : ByteArray) (c : AV) (len i : Int) (x7 : AV) : List AV := [.junk, .junk, .v (.string P), .junk, c, .v (.int .i64 len), .v (.int .i64 i), x7]
theorem e35 {call : CallF} {K : Nat} {h : List AO} {P S R : ByteArray} {e : AV} {v0 v1 v3 v4 v5 v6 v7 : AV} (hf : Q76 h true 5 v3 = some e) (hs : e.snap1 h = some e) (hx : call 69 [e] [] = some (.v (.string S), [])) (a1 : Q78 .add (.v (.string P)) (.v (.string S)) = some (.v (.string R))) : exec call K (.region [] [] c35_5) [v0, v1, .v (.string P), v3, v4, v5, v6, v7] h = some (.normal, [v0, v1, .v (.string R), v3, v4, v5, v6, v7], h) := by
  simp only [c35_5, hf, hs, hx, a1, Q0, Q1, Q2, Q3, Q4, Q5, Q6, Q7, Q8, Q9, Q10, Q11, Q12, Q13, Q14, Q15, Q16, Q17, Q18, Q19, Q20, Q21, Q22, Q23, Q24, Q25, Q26, Q27, Q28, Q29, Q30, Q31, Q32, Q33, Q35, Q36, Q37, Q38, Q39, Q40, Q41, Q42, Q43, Q44, Q45, Q46, Q47, Q48, Q49, Q50, Q51, Q52, Q53, Q54, Q55, Q56, Q57, Q58, Q59, Q60, Q61, Q62, Q63, Q64, Q65, Q66, Q67, Q68, Q69, Q70, Q71, Q72, Q73, Q99, Q100, Q101, Q102, Q103, Q74, Q75, Q77, Q78, Q79, Q80, Q81, Q82, Q83, Q84, clr, List.length_nil, List.length_cons, List.getElem?_cons_zero, List.getElem?_cons_succ, Nat.reduceAdd, Nat.zero_add, Nat.add_zero, Nat.reduceLeDiff, Nat.reduceSub, ↓reduceIte, List.drop_succ_cons, List.drop_zero, List.take_succ_cons, List.take_zero, Bool.false_eq_true, List.nil_append, List.cons_append, Bool.not_true, Bool.not_false, cond_true, cond_false, bne, Q85, Q86, Q87, Q88, Q89, Q90, Q91, Q92, Q93, Q94, Q95, Q96, Q97, Q98, Q110, Q111, Q116, Q117, Q118, Q119, Q120, Q121, Q122, Q123, Option.map_some, Option.map_none, Q34, -Q78]
theorem rtext_loop {K : Nat} {c : AV} {l : List In} (hc : Ins c l) (hr : ∀ i ∈ l, rgI i) (hl : l.length ≤ 2000) (hK : l.length < K) (v : List AV) (hv : clr K34 v = V35 ⟨#[]⟩ c l.length 0 .junk) :
    ∃ h', loopN (exec (callW F) K c35_7) K34 K v [] = some (.exit 0, V35 ⟨(textL l).toArray⟩ c l.length l.length (.v (.bool false)), h') := by
  obtain ⟨e, v', h', g1, g2, rfl, rfl⟩ := loop_rule0 (call := callW F) (K := K) (b := c35_7) (keep := K34) (fun i v h => v = V35 ⟨(textL (l.take i)).toArray⟩ c l.length i .junk)
    (fun e v h => e = .exit 0 ∧ v = V35 ⟨(textL l).toArray⟩ c l.length l.length (.v (.bool false))) l.length (m := K) (v := v) (h := []) hK hv (by
      rintro i v h hi rfl
      by_cases hil : i < l.length
      · have hlt := lt_t hil
        have hw := wrap_succ hil hc.max
        have e1 := fun H => hc.at hil H
        have hx := hr _ (List.getElem_mem hil)
        have hq := text_len (l := l.take i) fun j hj => hr j (List.mem_of_mem_take hj)
        have hti : (l.take i).length ≤ 2000 := by rw [List.length_take]; omega
        have hll := line_len hx.1 hx.2.1 hx.2.2
        have z : (ofVal (.agg #[.int .i64 0, .int .i64 0, .int .i64 0, .string ⟨#[]⟩, .int .i64 0])).cl = some [.v (.int .i64 0), .v (.int .i64 0), .v (.int .i64 0), .v (.string ⟨#[]⟩), .v (.int .i64 0)] := by kernel_rfl
        have ip5 : ∀ H : List AO, Q76 H true 5 (.ip (inC l[i])) = some (.agg (inC l[i])) := fun _ => rfl
        have st : Q113 (h ++ [.box 58 [.v (.int .i64 0), .v (.int .i64 0), .v (.int .i64 0), .v (.string ⟨#[]⟩), .v (.int .i64 0)]]) 5 (.ptr h.length 0) (.agg (inC l[i])) = some (h ++ [.box 58 (inC l[i])]) := st_new (show (AV.agg (inC l[i])).cl = some (inC l[i]) from rfl) rfl rfl
        have ld : Q76 (h ++ [.box 58 (inC l[i])]) true 5 (.ptr h.length 0) = some (.agg (inC l[i])) := by rw [ld_new]; rfl
        have a1 := addS (x := textL (l.take i)) (y := lineL l[i] ++ [10]) (z := textL (l.take (i + 1))) (by rw [List.length_append]; simp only [List.length_cons, List.length_nil]; omega) (text_take hil).symm
        have k5 := fun (v0 v1 v4 v5 v6 v7 : AV) => e35 (call := callW F) (K := K) (v0 := v0) (v1 := v1) (v3 := .ptr h.length 0) (v4 := v4) (v5 := v5) (v6 := v6) (v7 := v7) ld rfl (rline_ok hx) a1
        refine ⟨.normal, [.junk, .junk, .v (.string ⟨(textL (l.take (i + 1))).toArray⟩), .ptr h.length 0, c, .v (.int .i64 l.length), .v (.int .i64 ((i + 1 : Nat) : Int)), .v (.bool true)], h ++ [.box 58 (inC l[i])], ?_, hil, rfl⟩
        rw [show c35_7 = (.seq (.region [] [] c35_3) (.seq (.cond (.var 7) .skip (.exit 0)) (.seq (.block 1 (.seq (.region [] [] c35_4) (.region [] [] c35_5))) (.region [] [] c35_6)))) from rfl]
        generalize (CC.region [] [] c35_5) = X5 at k5 ⊢
        generalize (⟨(textL (l.take (i + 1))).toArray⟩ : ByteArray) = W at k5 ⊢
        generalize (⟨(textL (l.take i)).toArray⟩ : ByteArray) = P at k5 ⊢
        generalize inC l[i] = C at *
        simp only [V35, c35_3, c35_4, c35_6, hlt, hw, e1, ip5, z, st, k5, Q0, Q1, Q2, Q3, Q4, Q5, Q6, Q7, Q8, Q9, Q10, Q11, Q12, Q13, Q14, Q15, Q16, Q17, Q18, Q19, Q20, Q21, Q22, Q23, Q24, Q25, Q26, Q27, Q28, Q29, Q30, Q31, Q32, Q33, Q35, Q36, Q37, Q38, Q39, Q40, Q41, Q42, Q43, Q44, Q45, Q46, Q47, Q48, Q49, Q50, Q51, Q52, Q53, Q54, Q55, Q56, Q57, Q58, Q59, Q60, Q61, Q62, Q63, Q64, Q65, Q66, Q67, Q68, Q69, Q70, Q71, Q72, Q73, Q99, Q100, Q101, Q102, Q103, Q74, Q75, Q77, Q78, Q79, Q80, Q81, Q82, Q83, Q84, clr, List.length_nil, List.length_cons, List.getElem?_cons_zero, List.getElem?_cons_succ, Nat.reduceAdd, Nat.zero_add, Nat.add_zero, Nat.reduceLeDiff, Nat.reduceSub, ↓reduceIte, List.drop_succ_cons, List.drop_zero, List.take_succ_cons, List.take_zero, Bool.false_eq_true, List.nil_append, List.cons_append, Bool.not_true, Bool.not_false, cond_true, cond_false, bne, Q85, Q86, Q87, Q88, Q89, Q90, Q91, Q92, Q93, Q94, Q95, Q96, Q97, Q98, Q110, Q111, Q116, Q117, Q118, Q119, Q120, Q121, Q122, Q123, Option.map_some, Option.map_none, Q34]
      · have hie : i = l.length := by omega
        subst hie
        have hlt := lt_f (n := l.length)
        rw [List.take_length]
        refine ⟨.exit 0, V35 ⟨(textL l).toArray⟩ c l.length l.length (.v (.bool false)), h, ?_, rfl, rfl⟩
        generalize (⟨(textL l).toArray⟩ : ByteArray) = W
        simp only [V35, c35_7, c35_3, hlt, Q0, Q1, Q2, Q3, Q4, Q5, Q6, Q7, Q8, Q9, Q10, Q11, Q12, Q13, Q14, Q15, Q16, Q17, Q18, Q19, Q20, Q21, Q22, Q23, Q24, Q25, Q26, Q27, Q28, Q29, Q30, Q31, Q32, Q33, Q35, Q36, Q37, Q38, Q39, Q40, Q41, Q42, Q43, Q44, Q45, Q46, Q47, Q48, Q49, Q50, Q51, Q52, Q53, Q54, Q55, Q56, Q57, Q58, Q59, Q60, Q61, Q62, Q63, Q64, Q65, Q66, Q67, Q68, Q69, Q70, Q71, Q72, Q73, Q99, Q100, Q101, Q102, Q103, Q74, Q75, Q77, Q78, Q79, Q80, Q81, Q82, Q83, Q84, clr, List.length_nil, List.length_cons, List.getElem?_cons_zero, List.getElem?_cons_succ, Nat.reduceAdd, Nat.zero_add, Nat.add_zero, Nat.reduceLeDiff, Nat.reduceSub, ↓reduceIte, List.drop_succ_cons, List.drop_zero, List.take_succ_cons, List.take_zero, Bool.false_eq_true, List.nil_append, List.cons_append, Bool.not_true, Bool.not_false, cond_true, cond_false, bne, Q85, Q86, Q87, Q88, Q89, Q90, Q91, Q92, Q93, Q94, Q95, Q96, Q97, Q98, Q110, Q111, Q116, Q117, Q118, Q119, Q120, Q121, Q122, Q123, Option.map_some, Option.map_none, Q34])
  exact ⟨h', g1⟩
theorem rtext_ok {c : AV} {l : List In} (hc : Ins c l) (hr : ∀ i ∈ l, rgI i) (hl : l.length ≤ 2000) : callW F 35 [c] [] = some (.v (.string ⟨(textL l).toArray⟩), []) := by
  have q1 := fun H => hc.len H
  obtain ⟨h', lp⟩ := rtext_loop (K := l.length + 1) hc hr hl (by omega) [c, .v (.string ⟨#[]⟩), .v (.string ⟨#[]⟩), .v undef, c, .v (.int .i64 l.length), .v (.int .i64 0), .v undef] rfl
  generalize (⟨(textL l).toArray⟩ : ByteArray) = W at lp ⊢
  refine callW_pure (c := c35) rfl rfl (l.length + 1) ?_
  rw [show c35.body = (.seq (.region [] [] c35_0) (.seq (.region [] [] c35_1) (.seq (.seq (.region [] [] c35_2) (.block 0 (.loop K34 [] c35_7))) (.seq (.region [] [] c35_8) .ret)))) from rfl]
  simp only [V35] at lp
  generalize c35_7 = bb at lp ⊢
  simp only [c35, start, List.replicate, c35_0, c35_1, c35_2, c35_8, q1, lp, Q0, Q1, Q2, Q3, Q4, Q5, Q6, Q7, Q8, Q9, Q10, Q11, Q12, Q13, Q14, Q15, Q16, Q17, Q18, Q19, Q20, Q21, Q22, Q23, Q24, Q25, Q26, Q27, Q28, Q29, Q30, Q31, Q32, Q33, Q35, Q36, Q37, Q38, Q39, Q40, Q41, Q42, Q43, Q44, Q45, Q46, Q47, Q48, Q49, Q50, Q51, Q52, Q53, Q54, Q55, Q56, Q57, Q58, Q59, Q60, Q61, Q62, Q63, Q64, Q65, Q66, Q67, Q68, Q69, Q70, Q71, Q72, Q73, Q99, Q100, Q101, Q102, Q103, Q74, Q75, Q77, Q78, Q79, Q80, Q81, Q82, Q83, Q84, clr, List.length_nil, List.length_cons, List.getElem?_cons_zero, List.getElem?_cons_succ, Nat.reduceAdd, Nat.zero_add, Nat.add_zero, Nat.reduceLeDiff, Nat.reduceSub, ↓reduceIte, List.drop_succ_cons, List.drop_zero, List.take_succ_cons, List.take_zero, Bool.false_eq_true, List.nil_append, List.cons_append, Bool.not_true, Bool.not_false, cond_true, cond_false, bne, Q85, Q86, Q87, Q88, Q89, Q90, Q91, Q92, Q93, Q94, Q95, Q96, Q97, Q98, Q110, Q111, Q116, Q117, Q118, Q119, Q120, Q121, Q122, Q123, Option.map_some, Option.map_none, Q34]
end Go.AE.YtinhjhkmpknbbaaDoor
end

/-! The example. -/
section
set_option linter.unusedVariables false
namespace Go.AE.YtinhjhkmpknbbaaDoor
open Go Go.AE Go.Proofs.YtinhjhkmpknbbaaDoor
set_option maxRecDepth 1000000 in
theorem live_n : callN F 60 23 [] [] = some (.v (.bool true), []) := by kernel_rfl
theorem live_ok : callW F 23 [] [] = some (.v (.bool true), []) := callW_iff.2 ⟨_, live_n⟩
end Go.AE.YtinhjhkmpknbbaaDoor
end

/-! CodeTexts, over the evaluator. -/
section
set_option linter.unusedVariables false
set_option linter.unusedSimpArgs false
namespace Go.AE.YtinhjhkmpknbbaaDoor
open Go Go.AE Go.Proofs.YtinhjhkmpknbbaaDoor

def K9 : List Bool := [true, false, true, false, false, true, true, true, false, false]
def V9 (c : AV) (len i : Int) (x8 : AV) : List AV := [c, .junk, .v (.bool true), .junk, .junk, c, .v (.int .i64 len), .v (.int .i64 i), x8, .junk]
theorem big_loop {K : Nat} {c : AV} {l : List In} (hc : Ins c l) (hK : l.length < K) (v : List AV) (hv : clr K9 v = V9 c l.length 0 .junk) :
    ∃ e v' h', loopN (exec (callW F) K c9_10) K9 K v [] = some (e, v', h') ∧ ((e = .ret ∧ getO v' [] (.var 1) = .v (.bool true)) ∨ (e = .exit 0 ∧ v' = V9 c l.length l.length (.v (.bool false)))) := by
  obtain ⟨e, v', h', g1, g2, g3⟩ := loop_rule0 (call := callW F) (K := K) (b := c9_10) (keep := K9) (fun i v h' => v = V9 c l.length i .junk)
    (fun e v h' => ((e = .ret ∧ getO v [] (.var 1) = .v (.bool true)) ∨ (e = .exit 0 ∧ v = V9 c l.length l.length (.v (.bool false))))) l.length (m := K) (v := v) (h := []) hK hv (by
      rintro i v h' hi rfl
      by_cases hil : i < l.length
      · have hlt := lt_t hil
        have hw := wrap_succ hil hc.max
        have e1 := fun H => hc.at hil H
        have z : (ofVal (.agg #[.int .i64 0, .int .i64 0, .int .i64 0, .string ⟨#[]⟩, .int .i64 0])).cl = some [.v (.int .i64 0), .v (.int .i64 0), .v (.int .i64 0), .v (.string ⟨#[]⟩), .v (.int .i64 0)] := by kernel_rfl
        have ip5 : ∀ H : List AO, Q76 H true 5 (.ip (inC l[i])) = some (.agg (inC l[i])) := fun _ => rfl
        have st : Q113 (h' ++ [.box 58 [.v (.int .i64 0), .v (.int .i64 0), .v (.int .i64 0), .v (.string ⟨#[]⟩), .v (.int .i64 0)]]) 5 (.ptr h'.length 0) (.agg (inC l[i])) = some (h' ++ [.box 58 (inC l[i])]) := st_new (show (AV.agg (inC l[i])).cl = some (inC l[i]) from rfl) rfl rfl
        have ld : Q76 (h' ++ [.box 58 (inC l[i])]) false 1 (.ptr h'.length 3) = some (.v (.string l[i].nm)) := by rw [ld_new]; rfl
        have ln : ∀ h : List AO, evLen h .string (.v (.string l[i].nm)) = some l[i].nm.size := fun _ => rfl
        generalize inC l[i] = C at *
        cases hb : decide ((l[i].nm.size : Int) > 1000) with
        | true =>
          refine ⟨.ret, [c, .v (.bool true), .v (.bool true), .ptr h'.length 0, .junk, c, .v (.int .i64 l.length), .v (.int .i64 i), .v (.bool true), .v (.bool true)], h' ++ [.box 58 C], ?_, .inl ⟨rfl, rfl⟩⟩
          simp only [V9, c9_10, c9_5, c9_6, c9_7, c9_8, hlt, e1, ip5, z, st, ld, ln, hb, Q0, Q1, Q2, Q3, Q4, Q5, Q6, Q7, Q8, Q9, Q10, Q11, Q12, Q13, Q14, Q15, Q16, Q17, Q18, Q19, Q20, Q21, Q22, Q23, Q24, Q25, Q26, Q27, Q28, Q29, Q30, Q31, Q32, Q33, Q35, Q36, Q37, Q38, Q39, Q40, Q41, Q42, Q43, Q44, Q45, Q46, Q47, Q48, Q49, Q50, Q51, Q52, Q53, Q54, Q55, Q56, Q57, Q58, Q59, Q60, Q61, Q62, Q63, Q64, Q65, Q66, Q67, Q68, Q69, Q70, Q71, Q72, Q73, Q99, Q100, Q101, Q102, Q103, Q74, Q75, Q77, Q78, Q79, Q80, Q81, Q82, Q83, Q84, clr, List.length_nil, List.length_cons, List.getElem?_cons_zero, List.getElem?_cons_succ, Nat.reduceAdd, Nat.zero_add, Nat.add_zero, Nat.reduceLeDiff, Nat.reduceSub, ↓reduceIte, List.drop_succ_cons, List.drop_zero, List.take_succ_cons, List.take_zero, Bool.false_eq_true, List.nil_append, List.cons_append, Bool.not_true, Bool.not_false, cond_true, cond_false, bne, Q85, Q86, Q87, Q88, Q89, Q90, Q91, Q92, Q93, Q94, Q95, Q96, Q97, Q98, Q110, Q111, Q116, Q117, Q118, Q119, Q120, Q121, Q122, Q123, Option.map_some, Option.map_none, Q34]
        | false =>
          refine ⟨.normal, [c, .junk, .v (.bool true), .ptr h'.length 0, .junk, c, .v (.int .i64 l.length), .v (.int .i64 ((i + 1 : Nat) : Int)), .v (.bool true), .v (.bool false)], h' ++ [.box 58 C], ?_, hil, rfl⟩
          simp only [V9, c9_10, c9_5, c9_6, c9_7, c9_9, hlt, hw, e1, ip5, z, st, ld, ln, hb, Q0, Q1, Q2, Q3, Q4, Q5, Q6, Q7, Q8, Q9, Q10, Q11, Q12, Q13, Q14, Q15, Q16, Q17, Q18, Q19, Q20, Q21, Q22, Q23, Q24, Q25, Q26, Q27, Q28, Q29, Q30, Q31, Q32, Q33, Q35, Q36, Q37, Q38, Q39, Q40, Q41, Q42, Q43, Q44, Q45, Q46, Q47, Q48, Q49, Q50, Q51, Q52, Q53, Q54, Q55, Q56, Q57, Q58, Q59, Q60, Q61, Q62, Q63, Q64, Q65, Q66, Q67, Q68, Q69, Q70, Q71, Q72, Q73, Q99, Q100, Q101, Q102, Q103, Q74, Q75, Q77, Q78, Q79, Q80, Q81, Q82, Q83, Q84, clr, List.length_nil, List.length_cons, List.getElem?_cons_zero, List.getElem?_cons_succ, Nat.reduceAdd, Nat.zero_add, Nat.add_zero, Nat.reduceLeDiff, Nat.reduceSub, ↓reduceIte, List.drop_succ_cons, List.drop_zero, List.take_succ_cons, List.take_zero, Bool.false_eq_true, List.nil_append, List.cons_append, Bool.not_true, Bool.not_false, cond_true, cond_false, bne, Q85, Q86, Q87, Q88, Q89, Q90, Q91, Q92, Q93, Q94, Q95, Q96, Q97, Q98, Q110, Q111, Q116, Q117, Q118, Q119, Q120, Q121, Q122, Q123, Option.map_some, Option.map_none, Q34]
      · have hie : i = l.length := by omega
        subst hie
        have hlt := lt_f (n := l.length)
        refine ⟨.exit 0, V9 c l.length l.length (.v (.bool false)), h', ?_, .inr ⟨rfl, rfl⟩⟩
        simp only [V9, c9_10, c9_5, hlt, Q0, Q1, Q2, Q3, Q4, Q5, Q6, Q7, Q8, Q9, Q10, Q11, Q12, Q13, Q14, Q15, Q16, Q17, Q18, Q19, Q20, Q21, Q22, Q23, Q24, Q25, Q26, Q27, Q28, Q29, Q30, Q31, Q32, Q33, Q35, Q36, Q37, Q38, Q39, Q40, Q41, Q42, Q43, Q44, Q45, Q46, Q47, Q48, Q49, Q50, Q51, Q52, Q53, Q54, Q55, Q56, Q57, Q58, Q59, Q60, Q61, Q62, Q63, Q64, Q65, Q66, Q67, Q68, Q69, Q70, Q71, Q72, Q73, Q99, Q100, Q101, Q102, Q103, Q74, Q75, Q77, Q78, Q79, Q80, Q81, Q82, Q83, Q84, clr, List.length_nil, List.length_cons, List.getElem?_cons_zero, List.getElem?_cons_succ, Nat.reduceAdd, Nat.zero_add, Nat.add_zero, Nat.reduceLeDiff, Nat.reduceSub, ↓reduceIte, List.drop_succ_cons, List.drop_zero, List.take_succ_cons, List.take_zero, Bool.false_eq_true, List.nil_append, List.cons_append, Bool.not_true, Bool.not_false, cond_true, cond_false, bne, Q85, Q86, Q87, Q88, Q89, Q90, Q91, Q92, Q93, Q94, Q95, Q96, Q97, Q98, Q110, Q111, Q116, Q117, Q118, Q119, Q120, Q121, Q122, Q123, Option.map_some, Option.map_none, Q34])
  exact ⟨e, v', h', g1, g3⟩
theorem textsLaw_ok {c : AV} {l : List In} (hc : Ins c l) (hr : ∀ i ∈ l, rgI i) : callW F 9 [c] [] = some (.v (.bool true), []) := by
  have hlive := live_ok
  have q1 := fun H => hc.len H
  have s1 := fun H => hc.sn H
  cases hb : decide ((l.length : Int) > 2000) with
  | true =>
    refine callW_pure (c := c9) rfl rfl 0 ?_
    simp only [c9, start, List.replicate, c9_0, c9_1, c9_2, c9_3, hlive, q1, hb, Q0, Q1, Q2, Q3, Q4, Q5, Q6, Q7, Q8, Q9, Q10, Q11, Q12, Q13, Q14, Q15, Q16, Q17, Q18, Q19, Q20, Q21, Q22, Q23, Q24, Q25, Q26, Q27, Q28, Q29, Q30, Q31, Q32, Q33, Q35, Q36, Q37, Q38, Q39, Q40, Q41, Q42, Q43, Q44, Q45, Q46, Q47, Q48, Q49, Q50, Q51, Q52, Q53, Q54, Q55, Q56, Q57, Q58, Q59, Q60, Q61, Q62, Q63, Q64, Q65, Q66, Q67, Q68, Q69, Q70, Q71, Q72, Q73, Q99, Q100, Q101, Q102, Q103, Q74, Q75, Q77, Q78, Q79, Q80, Q81, Q82, Q83, Q84, clr, List.length_nil, List.length_cons, List.getElem?_cons_zero, List.getElem?_cons_succ, Nat.reduceAdd, Nat.zero_add, Nat.add_zero, Nat.reduceLeDiff, Nat.reduceSub, ↓reduceIte, List.drop_succ_cons, List.drop_zero, List.take_succ_cons, List.take_zero, Bool.false_eq_true, List.nil_append, List.cons_append, Bool.not_true, Bool.not_false, cond_true, cond_false, bne, Q85, Q86, Q87, Q88, Q89, Q90, Q91, Q92, Q93, Q94, Q95, Q96, Q97, Q98, Q110, Q111, Q116, Q117, Q118, Q119, Q120, Q121, Q122, Q123, Option.map_some, Option.map_none, Q34]
  | false =>
  have hl : l.length ≤ 2000 := by have := of_decide_eq_false hb; omega
  have t1 := text_ok hc hr hl
  have t2 := rtext_ok hc hr hl
  generalize (⟨(textL l).toArray⟩ : ByteArray) = W at t1 t2
  have eW : Q78 .eql (.v (.string W)) (.v (.string W)) = some (.v (.bool true)) := by
    show some (AV.v (.bool (W.toList == W.toList))) = _
    rw [beq_self_eq_true]
  obtain ⟨e, v', h', lp, g⟩ := big_loop (K := l.length + 1) hc (by omega) [c, .v (.bool false), .v (.bool true), .v undef, .v (.bool false), c, .v (.int .i64 l.length), .v (.int .i64 0), .v undef, .v undef] rfl
  refine callW_pure (c := c9) rfl rfl (l.length + 1) ?_
  rw [show c9.body = (.seq (.region [] [] c9_0) (.seq (.region [] [] c9_1) (.seq (.seq (.region [] [] c9_2) (.cond (.var 4) (.seq (.region [] [] c9_3) .ret) .skip)) (.seq (.seq (.region [] [] c9_4) (.block 0 (.loop K9 [] c9_10))) (.seq (.region [] [] c9_11) .ret))))) from rfl, show c9.res = [.var 1] from rfl]
  generalize c9_10 = bb at lp ⊢
  have i_gt' : ∀ a b : Int, Q78 .gtr (.v (.int .i64 a)) (.v (.int .i64 b)) = some (.v (.bool (decide (a > b)))) := fun _ _ => rfl
  rcases g with ⟨rfl, g⟩ | ⟨rfl, rfl⟩
  · generalize (CC.seq (.region [] [] c9_11) .ret) = rest
    simp only [c9, start, List.replicate, c9_0, c9_1, c9_2, c9_4, hlive, q1, i_gt', hb, lp, Q0, Q1, Q2, Q3, Q4, Q5, Q6, Q7, Q8, Q9, Q10, Q11, Q12, Q13, Q14, Q15, Q16, Q17, Q18, Q19, Q20, Q21, Q22, Q23, Q24, Q25, Q26, Q27, Q28, Q29, Q30, Q31, Q32, Q33, Q35, Q36, Q37, Q38, Q39, Q40, Q41, Q42, Q43, Q44, Q45, Q46, Q47, Q48, Q49, Q50, Q51, Q52, Q53, Q54, Q55, Q56, Q57, Q58, Q59, Q60, Q61, Q62, Q63, Q64, Q65, Q66, Q67, Q68, Q69, Q70, Q71, Q72, Q73, Q99, Q100, Q101, Q102, Q103, Q74, Q75, Q77, Q78, Q79, Q80, Q81, Q82, Q83, Q84, clr, List.length_nil, List.length_cons, List.getElem?_cons_zero, List.getElem?_cons_succ, Nat.reduceAdd, Nat.zero_add, Nat.add_zero, Nat.reduceLeDiff, Nat.reduceSub, ↓reduceIte, List.drop_succ_cons, List.drop_zero, List.take_succ_cons, List.take_zero, Bool.false_eq_true, List.nil_append, List.cons_append, Bool.not_true, Bool.not_false, cond_true, cond_false, bne, Q85, Q86, Q87, Q88, Q89, Q90, Q91, Q92, Q93, Q94, Q95, Q96, Q97, Q98, Q110, Q111, Q116, Q117, Q118, Q119, Q120, Q121, Q122, Q123, Option.map_some, Option.map_none, Q34, -Q78]
    simp only [Q85, Q87, g, Q92]
  · simp only [V9] at lp
    simp only [c9, start, List.replicate, c9_0, c9_1, c9_2, c9_4, c9_11, hlive, q1, s1, i_gt', hb, lp, t1, t2, eW, Q122, Q0, Q1, Q2, Q3, Q4, Q5, Q6, Q7, Q8, Q9, Q10, Q11, Q12, Q13, Q14, Q15, Q16, Q17, Q18, Q19, Q20, Q21, Q22, Q23, Q24, Q25, Q26, Q27, Q28, Q29, Q30, Q31, Q32, Q33, Q35, Q36, Q37, Q38, Q39, Q40, Q41, Q42, Q43, Q44, Q45, Q46, Q47, Q48, Q49, Q50, Q51, Q52, Q53, Q54, Q55, Q56, Q57, Q58, Q59, Q60, Q61, Q62, Q63, Q64, Q65, Q66, Q67, Q68, Q69, Q70, Q71, Q72, Q73, Q99, Q100, Q101, Q102, Q103, Q74, Q75, Q77, Q78, Q79, Q80, Q81, Q82, Q83, Q84, clr, List.length_nil, List.length_cons, List.getElem?_cons_zero, List.getElem?_cons_succ, Nat.reduceAdd, Nat.zero_add, Nat.add_zero, Nat.reduceLeDiff, Nat.reduceSub, ↓reduceIte, List.drop_succ_cons, List.drop_zero, List.take_succ_cons, List.take_zero, Bool.false_eq_true, List.nil_append, List.cons_append, Bool.not_true, Bool.not_false, cond_true, cond_false, bne, Q85, Q86, Q87, Q88, Q89, Q90, Q91, Q92, Q93, Q94, Q95, Q96, Q97, Q98, Q110, Q111, Q116, Q117, Q118, Q119, Q120, Q121, Q122, Q123, Option.map_some, Option.map_none, Q34, -Q78]
end Go.AE.YtinhjhkmpknbbaaDoor
end

/-! What comes in, out of its types: instructions. -/
section
set_option linter.unusedVariables false
namespace Go.AE.YtinhjhkmpknbbaaDoor
open Go Go.AE Go.Proofs.YtinhjhkmpknbbaaDoor
theorem rg_of {n : Int} (h : (Lit.int .i64 n).wf = true) : rg n := by
  simp only [Lit.wf, Bool.and_eq_true, decide_eq_true_eq] at h
  exact h
theorem instr_in {cs : List AV} (w : WT T 58 cs) : ∃ i, cs = inC i ∧ rgI i := by
  obtain ⟨a, b, c, d, e, rfl, wa, wb, wc, wd, we⟩ := wt_struct5 (t := 58) rfl rfl w
  obtain ⟨op, rfl, _⟩ := wt_int_of (t := 3) (k := .i64) rfl rfl wa
  obtain ⟨x, rfl, hx⟩ := wt_int_of (t := 3) (k := .i64) rfl rfl wb
  obtain ⟨y, rfl, hy⟩ := wt_int_of (t := 3) (k := .i64) rfl rfl wc
  obtain ⟨s, rfl, _⟩ := wt_str_of (t := 9) rfl rfl wd
  obtain ⟨n, rfl, hn⟩ := wt_int_of (t := 2) (k := .i64) rfl rfl we
  exact ⟨⟨op, x, y, s, n⟩, rfl, rg_of hx, rg_of hy, rg_of hn⟩
theorem allIn_of : ∀ {l : List AV}, (∀ el ∈ l, ∃ i, IsIn el i ∧ rgI i) → ∃ xs, AllR IsIn l xs ∧ ∀ i ∈ xs, rgI i
  | [], _ => ⟨[], .nil, fun _ h => by simp at h⟩
  | a :: l, h => by
    obtain ⟨t, ht, h1⟩ := h a (by simp)
    obtain ⟨ts, hts, h2⟩ := allIn_of (l := l) (fun el hm => h el (by simp [hm]))
    refine ⟨t :: ts, .cons a t l ts ht hts, fun i hi => ?_⟩
    rcases List.mem_cons.1 hi with rfl | hi
    · exact h1
    · exact h2 i hi
theorem instrs_in {a : AV} (w : WT T 50 a.cells) (e : Q77 ti50.agg a.cells = some a) : ∃ l, Ins a l ∧ ∀ i ∈ l, rgI i := by
  rcases wt_slice_of (t := 50) (e := 58) rfl rfl rfl w with h | ⟨l, h, hl, hel, has⟩
  · exact ⟨[], one_cell e h ▸ ⟨[], .nil, .nil, by simp⟩, fun _ h => by simp at h⟩
  · obtain ⟨xs, hxs, hr⟩ := allIn_of (l := l) (fun el hm => by
      obtain ⟨x, hx, hr⟩ := instr_in (hel el hm)
      have := has el hm
      refine ⟨x, ?_, hr⟩
      rw [IsIn, ← hx]
      exact agg_cells this)
    exact ⟨xs, one_cell e h ▸ ⟨l, .slc _ _ _, hxs, hl⟩, hr⟩
end Go.AE.YtinhjhkmpknbbaaDoor
end

/-! What all rows of this program need. -/
section
set_option linter.unusedVariables false
namespace Go.Proofs.YtinhjhkmpknbbaaDoor
open Go Go.AE Go.Proofs Go.ChangeShapes Go.WideShapes Go.ChangeAt Go.RowKit
open Go.ChangeMaps (open_string shut_string)

theorem own : ownKnob Tryd.prog.godebug = none := by kernel_rfl
theorem laidOut : laidOutB Tryd.prog = true := by kernel_rfl
theorem mixed : Tryd.prog.follows .mixedOrders = true := by kernel_rfl
def G : List TypeId := [2, 3, 9, 22, 24, 46, 50, 58]
theorem hG : goodB T G = true := by kernel_rfl

theorem push_ok : ∀ f, T.push f = true → (∃ g, F f = some (.oracle g) ∧ ∀ args h r h', g args h = some (r, h') → ∃ X, h' = h ++ X) ∨ ∃ c, F f = some (.pkeep c) := by
  intro f h
  have h : pushes.contains f = true := h
  simp only [pushes, List.contains_cons, List.contains_nil, Bool.or_false, beq_iff_eq] at h
  subst h
  exact .inr ⟨_, rfl⟩
theorem law_calls {f : FuncId} {args : List AV} {vals : Array Value} {W : World} (hK : K W.heap.size W) (ha : ArgsRep (AllCells W) W [] args vals) {n : Nat} (he : callN F n f args [] = some (.v (.bool true), [])) :
    Calls Tryd.prog f vals W fun e W' => e = .returned (.bool true) ∧ Below W.heap.size W W' := by
  have hI : AE.Inv W.heap.size W (AllCells W) [] W [] := ⟨Below.refl _ _, Nat.le_refl _, rfl, fun id o L h => by simp at h, fun id L h => by simp at h, fun i j Li Lj h => by simp at h, fun b x h => h⟩
  refine ((callN_ok mixed hT hKs hF push_ok n W.heap.size W hK).calls f args [] _ _ he (AllCells W) [] W vals hI ha).mono fun e W' h => ?_
  obtain ⟨v, I', σ', rfl, hI', _, hr⟩ := h
  cases hr
  exact ⟨rfl, hI'.below⟩
end Go.Proofs.YtinhjhkmpknbbaaDoor
end

/-! What all rows of this seat need: the world in which the library's two tables lie. -/
section
set_option linter.unusedVariables false
namespace Go.Proofs.YtinhjhkmpknbbaaDoor
open Go Go.AE Go.Proofs Go.RowKit Go.Lib Go.Shelf

def d32 : List Value := [0, 1, 28, 2, 29, 14, 24, 3, 30, 22, 20, 15, 25, 17, 4, 8, 31, 27, 13, 23, 21, 19, 16, 7, 26, 12, 18, 6, 11, 5, 10, 9].map fun z : Int => Value.int .u8 z
def d64 : List Value := [0, 1, 56, 2, 57, 49, 28, 3, 61, 58, 42, 50, 38, 29, 17, 4, 62, 47, 59, 36, 45, 43, 51, 22, 53, 39, 33, 30, 24, 18, 12, 5, 63, 55, 48, 27, 60, 41, 37, 16, 46, 35, 44, 21, 52, 32, 23, 11, 54, 26, 40, 15, 34, 20, 31, 10, 25, 14, 19, 9, 13, 8, 7, 6].map fun z : Int => Value.int .u8 z
def p10 : List Value := [1, 10, 100, 1000, 10000, 100000, 1000000, 10000000, 100000000, 1000000000, 10000000000, 100000000000, 1000000000000, 10000000000000, 100000000000000, 1000000000000000, 10000000000000000, 100000000000000000, 1000000000000000000, 10000000000000000000].map fun z : Int => Value.int .u64 z
noncomputable def laidWorld (os : Os) : World :=
  let w0 := World.holding Tryd.prog os ⟨#[], #[], []⟩
  let put (h : Array Obj) (g : Nat) (cs : Array Value) : Array Obj := h.modify g fun
    | .cells _ t frozen => .cells cs t frozen
    | o => o
  let h1 := put w0.heap (Tryd.lays196_ren.g 3) (Lib.firstTab.map fun z => Value.int .u8 z).toArray
  let h2 := put h1 (Tryd.lays196_ren.g 4) ((List.range 16).flatMap fun i => [Value.int .u8 (Lib.accLo i), Value.int .u8 (Lib.accHi i)]).toArray
  let h3 := put h2 3 d32.toArray
  let h4 := put h3 4 d64.toArray
  let h5 := put h4 2 p10.toArray
  { w0 with heap := h5 }
set_option maxRecDepth 1000000 in
theorem laid_met (os : Os) (args : Array Value) : laidMetH Tryd.prog Rows.codeTextsRow.laid ((laidWorld os).forCall (fun _ _ => 0) ⟨#[], args, []⟩).memory :=
  (LaidIn.of_run (l := [("math/bits.deBruijn32tab", Rows.laid_math_bits_deBruijn32tab), ("math/bits.deBruijn64tab", Rows.laid_math_bits_deBruijn64tab), ("internal/strconv.uint64pow10", Rows.laid_internal_strconv_uint64pow10), ("unicode/utf8.acceptRanges", Rows.laid_unicode_utf8_acceptRanges), ("unicode/utf8.first", Rows.laid_unicode_utf8_first)]) [0, 1, 2, 3, 4] 8 (by kernel_rfl) (by kernel_rfl) (by kernel_rfl) (by kernel_rfl)).met
def z64 : List Int := [0, 1, 56, 2, 57, 49, 28, 3, 61, 58, 42, 50, 38, 29, 17, 4, 62, 47, 59, 36, 45, 43, 51, 22, 53, 39, 33, 30, 24, 18, 12, 5, 63, 55, 48, 27, 60, 41, 37, 16, 46, 35, 44, 21, 52, 32, 23, 11, 54, 26, 40, 15, 34, 20, 31, 10, 25, 14, 19, 9, 13, 8, 7, 6]
theorem tz_of {W : World} (hL : laidMetH Tryd.prog Rows.codeTextsRow.laid W) : W.cell? ⟨4, 15, none⟩ = some (.int .u8 4) ∧ 4 < W.heap.size := by
  obtain ⟨g, t, cs, fuel, p, hg, hty, hvar, hd⟩ := (Lib.laidMet.reads (l := Rows.codeTextsRow.laid) hL (.tail _ (.head _)) : Lib.VarReads Tryd.prog W "math/bits.deBruijn64tab" Rows.laid_math_bits_deBruijn64tab)
  obtain rfl : g = 4 := Option.some.inj (hg.symm.trans (by kernel_rfl))
  obtain rfl : t = 206 := Option.some.inj (hty.symm.trans (by kernel_rfl))
  have hcs := Lib.cells_of_tab (zs := z64) Tryd.underlying206 Tryd.underlying5 (by kernel_rfl) (by kernel_rfl) hd
  have h1 := World.var?_cell hg hvar 15
  rw [← Array.getElem?_toList, hcs] at h1
  have h1 : W.cell? ⟨4, 15, none⟩ = some (.int .u8 4) := h1
  refine ⟨h1, ?_⟩
  unfold World.cell? at h1
  split at h1
  all_goals first
    | exact (Array.getElem?_eq_some_iff.1 ‹_›).1
    | cases h1
set_option maxRecDepth 1000000 in
theorem tabs_of {W : World} (hL : laidMetH Tryd.prog Rows.codeTextsRow.laid W) : Lib.Utf8Tabs (Tryd.lays196_ren.g 3) (Tryd.lays196_ren.g 4) W ∧ (W.cell? ⟨4, 15, none⟩ = some (.int .u8 4) ∧ 4 < W.heap.size) :=
  ⟨utf8Tabs_of_readsT (U8Types.of196 Tryd.lays196) ⟨by kernel_rfl, by kernel_rfl, by kernel_rfl, by kernel_rfl, by kernel_rfl, by kernel_rfl, by kernel_rfl⟩ (Lib.laidMet.reads (l := Rows.codeTextsRow.laid) hL (.tail _ (.tail _ (.tail _ (.tail _ (.head _)))))) (Lib.laidMet.reads (l := Rows.codeTextsRow.laid) hL (.tail _ (.tail _ (.tail _ (.head _))))), tz_of hL⟩
end Go.Proofs.YtinhjhkmpknbbaaDoor
end

/-! The row and the card of CodeTexts, out of its plain law. -/
section
set_option linter.unusedVariables false
namespace Go.Proofs.YtinhjhkmpknbbaaDoor
open Go Go.AE Go.Proofs Go.ChangeShapes Go.WideShapes Go.ChangeAt Go.RowKit
open Go.ChangeMaps (open_string shut_string)
namespace codeTexts
theorem args {I : Cells} {W : World} {a0 : AV} {v0 : Value} (r0 : Rep I W [] a0 v0) : ArgsRep I W [] [a0] #[v0] := by
  refine ⟨rfl, fun i a h => ?_⟩
  match i, h with
  | 0, h => cases h; exact r0
def Plain : Prop := ∀ a0 : AV, WT T 50 a0.cells → Q77 ti50.agg a0.cells = some a0 →
  ∃ n, callN F n 9 [a0] [] = some (.v (.bool true), [])

set_option maxRecDepth 100000 in
theorem lifted (plain : Plain) (os : Os) (started : os.Started) (H : Type) (enc : TypeId × Value → H) :
    ReturnsInHanded {} Tryd.checked os 9 .any (fun w args => (Rows.codeTextsSpec.pre enc Tryd.prog Tryd.f9 [] false w args ∧ laidMetH Tryd.prog Rows.codeTextsRow.laid w) ∧ sizedMet enc Tryd.prog Tryd.f9 (OpenSpec.ofChange Rows.codeTextsSpec) false w args)
      (Rows.codeTextsSpec.post enc Tryd.prog Tryd.f9 false true false false) := by
  refine returnsInHanded_of_change_and (C := Tryd.checked) (X := fun w _ => laidMetH Tryd.prog Rows.codeTextsRow.laid w) (fun _ _ _ hh h => h.of_heap hh) own started (by kernel_rfl) Tryd.func9
    (ChangeSpec.witness_at (enc := enc) (C := Tryd.checked) (os := os) (X := fun w _ => laidMetH Tryd.prog Rows.codeTextsRow.laid w) false (laidWorld os) #[ti50.zero] 8 rfl (by kernel_rfl) (by kernel_rfl) (by kernel_rfl) (by kernel_rfl) (by kernel_rfl) (laid_met os _)) ?_
  intro W base args' ds gs before hval0 hW _ _ hL _
  have hval : ∀ (j : Nat) t v, Tryd.f9.params[j]? = some t → args'[j]? = some v → Value.okWide Tryd.prog W .any base t v := hval0
  have hW' := hW
  obtain ⟨p, q, hA0, hV, rfl, hfz, hnd⟩ := hW
  have hA : DataW.TrodAll enc Tryd.prog W 0 (fun _ => true) true Tryd.f9.params.toList args'.toList ds p := hA0
  rw [Tryd.params9] at hA hval
  obtain ⟨v0, vs0, d0, ds0, p0, q0, hargs, rfl, rfl, h0, r0⟩ := trodAll_cons hA
  obtain ⟨rfl, rfl, rfl⟩ := trodAll_nil r0
  obtain rfl : args' = #[v0] := by cases args'; simp_all
  obtain ⟨rfl, rfl⟩ := trodVars_none hV
  obtain ⟨a0, w0, e0, x0⟩ := trod_arg hT hG (t := 50) (i := ti50) (by decide) rfl (hval 0 50 v0 rfl rfl) h0
  have l0 : ∀ x ∈ p0, x.block < W.heap.size := by obtain ⟨m, hm⟩ := h0; exact DataW.trod_lt m _ _ _ hm
  obtain ⟨n, hn⟩ := plain a0 w0 e0
  refine (law_calls ⟨rfl, tabs_of hL⟩ (args x0) hn).mono fun e W' ⟨he, bel⟩ => ?_
  subst he
  exact ⟨_, rfl, _, _, _, [], _, [], hW', trodAll_mk1 (shut_bool Tryd.underlying4 _),
    (trodAll_cons_mk (Below.trod laidOut (by kernel_rfl) (of_decide_eq_true (by kernel_rfl)) h0 bel l0) trodAll_mk0), rfl, bel.frame _, fun h => by cases h⟩
theorem over (plain : Plain) : Rows.codeTextsRow.holds Tryd.pinned (OpenSpec.ofChange Rows.codeTextsSpec) :=
  OpenClaim.holds_of_wide 9 Tryd.f9 rfl rfl rfl rfl rfl rfl rfl ⟨rfl, rfl, rfl, rfl, rfl⟩ rfl rfl rfl rfl rfl (by kernel_rfl) Tryd.func9 (by kernel_rfl)
    (of_decide_eq_true (by kernel_rfl)) (by unfold Func.isWrapper; first | (rw [if_pos (by decide +kernel)]; kernel_rfl) | (rw [if_neg (by decide +kernel)]; exact ⟨rfl, rfl⟩))
    (fun os started H enc _ => lifted plain os started H enc)
theorem proved (plain : Plain) : Rows.CodeTextsCardSaid :=
  Claim7.holds_tied_plain_at .later [] Rows.codeTextsCard.laidKinds true Rows.codeTextsCard.stood.harness Rows.codeTextsCard.stood.looks
    (over plain) (fun _ h => by cases h) (by kernel_rfl) (fun _ h => by cases h) codeTexts_row_tie rfl ⟨rfl, rfl⟩ (by kernel_rfl) rfl
    (fun f fn hf hfn => by
      obtain rfl : f = 9 := Option.some.inj ((show Tryd.prog.funcNamed Rows.codeTextsRow.func = some 9 by kernel_rfl).symm.trans hf) |>.symm
      obtain rfl : fn = Tryd.f9 := (Option.some.inj (Tryd.func9.symm.trans hfn)).symm
      refine ⟨by kernel_rfl, fun j t ht => ?_⟩
      rw [Tryd.params9] at ht
      match j, ht with
      | 0, ht => cases ht; exact (show Tryd.prog.wantsStandIn 50 = false by kernel_rfl)
      | _ + 1, ht => simp at ht)
    (by kernel_rfl)
end codeTexts
end Go.Proofs.YtinhjhkmpknbbaaDoor
end
