/- Texts of this claim, put together. -/
import Derived.Test.YtgcbaefclkfnoaaDoorPart1
import Derived.Test.YtgcbaefclkfnoaaDoorEval3
import Derived.Test.YtgcbaefclkfnoaaDoorEval4
import Derived.Lib.RuneCountTail
import Derived.Lib.TrimU
import Derived.Shelf.Unicode.DecodeLastEight
/-! Size and Deep, the program's and the document's. -/
section
set_option linter.unusedVariables false
set_option linter.unusedSimpArgs false
namespace Go.AE.YtgcbaefclkfnoaaDoor
open Go Go.AE Go.Proofs.YtgcbaefclkfnoaaDoor

mutual
def sizI : Tm → Int
  | .mk _ _ _ l => sizL l 1
def sizL : List Tm → Int → Int
  | [], m => m
  | a :: l, m => sizL l (IntKind.i64.wrap (m + sizI a))
end
mutual
def depI : Tm → Int
  | .mk _ _ _ l => IntKind.i64.wrap (depL l 0 + 1)
def depL : List Tm → Int → Int
  | [], m => m
  | a :: l, m => depL l (max m (depI a))
end
def Vfold (c : AV) (m n i : Int) (x4 x8 : AV) : List AV := [.junk, .junk, .junk, .v (.int .i64 m), x4, c, .v (.int .i64 n), .v (.int .i64 i), x8]
theorem size_ok : ∀ (N : Nat) (t : Tm) (a : AV), SizeOf.sizeOf t < N → IsT a t → callW F 27 [a] [] = some (.v (.int .i64 (sizI t)), []) := by
  intro N
  induction N with
  | zero => intro t a h; omega
  | succ N ih =>
    intro t a hN ha
    cases ha with
    | mk k s n c l hc =>
    obtain ⟨es, hs, hes, hm⟩ := hc.sl
    have hll := hes.length
    refine callW_pure (c := c27) rfl rfl (l.length + 1) ?_
    have q1 := fun h : List AO => hs.len h
    obtain ⟨e, v', h', g1, g2, g3⟩ := loop_rule0 (call := callW F) (K := l.length + 1) (b := c27_7) (keep := [false, false, false, true, false, true, true, true, false])
      (fun i v h => ∃ m', v = Vfold c m' es.length i .junk .junk ∧ sizL (l.drop i) m' = sizL l 1)
      (fun e v h => e = .exit 0 ∧ ∃ x4, v = Vfold c (sizL l 1) es.length es.length x4 (.v (.bool false)))
      l.length (m := l.length + 1) (v := [.agg [.v (.int .i64 k), .v (.string s), .v (.int .i64 n), c], .ptr 0 0, .v (.int .i64 0), .v (.int .i64 1), .v undef, c, .v (.int .i64 es.length), .v (.int .i64 0), .v undef]) (h := [.box 24 [.v (.int .i64 k), .v (.string s), .v (.int .i64 n), c]])
      (by omega) ⟨_, rfl, rfl⟩ (by
        rintro i v h hi ⟨m', rfl, hR⟩
        by_cases hil : i < es.length
        · have hil' : i < l.length := by omega
          have hT := hes.at hil hil'
          have hlt := lt_t hil
          have he : es[i]? = some es[i] := List.getElem?_eq_getElem hil
          have q2 := fun h : List AO => hs.ia he h
          have hf := hT.facts
          have hd : l.drop i = l[i] :: l.drop (i + 1) := List.drop_eq_getElem_cons hil'
          have hw := wrap_succ hil hm
          rw [hd, sizL] at hR
          have hc := ih l[i] es[i] (by have := IsL.mem_size (k := k) (n := n) (s := s) (List.getElem_mem hil'); omega) hT
          refine ⟨.normal, [.junk, .junk, .junk, .v (.int .i64 (IntKind.i64.wrap (m' + sizI l[i]))), .ptr h.length 0, c, .v (.int .i64 es.length), .v (.int .i64 ((i + 1 : Nat) : Int)), .v (.bool true)], h ++ [.box 24 es[i].cells], ?_, by omega, _, rfl, hR⟩
          simp only [Vfold, c27_7, c27_3, c27_4, c27_5, c27_6, hlt, q1, q2, hf, hc, hw, q9z, Q96, Q97, Q0, Q1, Q2, Q3, Q4, Q5, Q6, Q7, Q8, Q9, Q10, Q11, Q12, Q13, Q14, Q15, Q16, Q17, Q18, Q19, Q20, Q21, Q22, Q23, Q24, Q25, Q26, Q27, Q28, Q29, Q30, Q31, Q32, Q33, Q35, Q36, Q37, Q38, Q39, Q40, Q41, Q42, Q43, Q44, Q45, Q46, Q47, Q48, Q49, Q50, Q51, Q52, Q53, Q54, Q55, Q56, Q57, Q58, Q59, Q60, Q61, Q62, Q63, Q64, Q65, Q66, Q67, Q68, Q69, Q70, Q71, Q72, Q73, Q99, Q100, Q101, Q102, Q103, Q74, Q75, Q77, Q78, Q79, Q80, Q81, Q82, Q83, Q84, clr, List.length_nil, List.length_cons, List.getElem?_cons_zero, List.getElem?_cons_succ, Nat.reduceAdd, Nat.zero_add, Nat.add_zero, Nat.reduceLeDiff, Nat.reduceSub, ↓reduceIte, List.drop_succ_cons, List.drop_zero, List.take_succ_cons, List.take_zero, Bool.false_eq_true, List.nil_append, List.cons_append, Bool.not_true, Bool.not_false, cond_true, cond_false, bne, Q85, Q86, Q87, Q88, Q89, Q90, Q91, Q92, Q93, Q94, Q95, Q96, Q97, Q98, Q110, Q111, Q116, Q117, Q118, Q119, Q120, Q121, Q122, Q123, Option.map_some, Option.map_none, Q34]
        · have hie : i = es.length := by omega
          subst hie
          have hlt := lt_f (n := es.length)
          rw [List.drop_of_length_le (by omega), sizL] at hR
          refine ⟨.exit 0, Vfold c m' es.length es.length .junk (.v (.bool false)), h, ?_, rfl, _, by rw [hR]⟩
          simp only [Vfold, c27_7, c27_3, hlt, Q0, Q1, Q2, Q3, Q4, Q5, Q6, Q7, Q8, Q9, Q10, Q11, Q12, Q13, Q14, Q15, Q16, Q17, Q18, Q19, Q20, Q21, Q22, Q23, Q24, Q25, Q26, Q27, Q28, Q29, Q30, Q31, Q32, Q33, Q35, Q36, Q37, Q38, Q39, Q40, Q41, Q42, Q43, Q44, Q45, Q46, Q47, Q48, Q49, Q50, Q51, Q52, Q53, Q54, Q55, Q56, Q57, Q58, Q59, Q60, Q61, Q62, Q63, Q64, Q65, Q66, Q67, Q68, Q69, Q70, Q71, Q72, Q73, Q99, Q100, Q101, Q102, Q103, Q74, Q75, Q77, Q78, Q79, Q80, Q81, Q82, Q83, Q84, clr, List.length_nil, List.length_cons, List.getElem?_cons_zero, List.getElem?_cons_succ, Nat.reduceAdd, Nat.zero_add, Nat.add_zero, Nat.reduceLeDiff, Nat.reduceSub, ↓reduceIte, List.drop_succ_cons, List.drop_zero, List.take_succ_cons, List.take_zero, Bool.false_eq_true, List.nil_append, List.cons_append, Bool.not_true, Bool.not_false, cond_true, cond_false, bne, Q85, Q86, Q87, Q88, Q89, Q90, Q91, Q92, Q93, Q94, Q95, Q96, Q97, Q98, Q110, Q111, Q116, Q117, Q118, Q119, Q120, Q121, Q122, Q123, Option.map_some, Option.map_none, Q34])
    have e5 : Q76 [.box 24 [.v (.int .i64 k), .v (.string s), .v (.int .i64 n), c]] false 1 (.ptr 0 3) = some c := rfl
    rw [sizI]
    rw [show c27.body = (.seq (.region [] [] c27_0) (.seq (.region [] [] c27_1) (.seq (.seq (.region [] [] c27_2) (.block 0 (.loop [false, false, false, true, false, true, true, true, false] [] c27_7))) (.seq (.region [] [] c27_8) .ret)))) from rfl, show c27.res = [.var 2] from rfl]
    rw [show start c27 [.agg [.v (.int .i64 k), .v (.string s), .v (.int .i64 n), c]] = [.agg [.v (.int .i64 k), .v (.string s), .v (.int .i64 n), c], .v undef, .v undef, .v undef, .v undef, .v undef, .v undef, .v undef, .v undef] from rfl]
    obtain ⟨rfl, x4, rfl⟩ := g3
    generalize c27_7 = bb at g1 ⊢
    simp only [Vfold, c27_0, c27_1, c27_2, c27_8, e5, q1, g1, Q0, Q1, Q2, Q3, Q4, Q5, Q6, Q7, Q8, Q9, Q10, Q11, Q12, Q13, Q14, Q15, Q16, Q17, Q18, Q19, Q20, Q21, Q22, Q23, Q24, Q25, Q26, Q27, Q28, Q29, Q30, Q31, Q32, Q33, Q35, Q36, Q37, Q38, Q39, Q40, Q41, Q42, Q43, Q44, Q45, Q46, Q47, Q48, Q49, Q50, Q51, Q52, Q53, Q54, Q55, Q56, Q57, Q58, Q59, Q60, Q61, Q62, Q63, Q64, Q65, Q66, Q67, Q68, Q69, Q70, Q71, Q72, Q73, Q99, Q100, Q101, Q102, Q103, Q74, Q75, Q77, Q78, Q79, Q80, Q81, Q82, Q83, Q84, clr, List.length_nil, List.length_cons, List.getElem?_cons_zero, List.getElem?_cons_succ, Nat.reduceAdd, Nat.zero_add, Nat.add_zero, Nat.reduceLeDiff, Nat.reduceSub, ↓reduceIte, List.drop_succ_cons, List.drop_zero, List.take_succ_cons, List.take_zero, Bool.false_eq_true, List.nil_append, List.cons_append, Bool.not_true, Bool.not_false, cond_true, cond_false, bne, Q85, Q86, Q87, Q88, Q89, Q90, Q91, Q92, Q93, Q94, Q95, Q96, Q97, Q98, Q110, Q111, Q116, Q117, Q118, Q119, Q120, Q121, Q122, Q123, Option.map_some, Option.map_none, Q34]
theorem rsize_ok : ∀ (N : Nat) (t : Tm) (a : AV), SizeOf.sizeOf t < N → IsT a t → callW F 28 [a] [] = some (.v (.int .i64 (sizI t)), []) := by
  intro N
  induction N with
  | zero => intro t a h; omega
  | succ N ih =>
    intro t a hN ha
    cases ha with
    | mk k s n c l hc =>
    obtain ⟨es, hs, hes, hm⟩ := hc.sl
    have hll := hes.length
    refine callW_pure (c := c28) rfl rfl (l.length + 1) ?_
    have q1 := fun h : List AO => hs.len h
    obtain ⟨e, v', h', g1, g2, g3⟩ := loop_rule0 (call := callW F) (K := l.length + 1) (b := c28_7) (keep := [false, false, false, true, false, true, true, true, false])
      (fun i v h => ∃ m', v = Vfold c m' es.length i .junk .junk ∧ sizL (l.drop i) m' = sizL l 1)
      (fun e v h => e = .exit 0 ∧ ∃ x4, v = Vfold c (sizL l 1) es.length es.length x4 (.v (.bool false)))
      l.length (m := l.length + 1) (v := [.agg [.v (.int .i64 k), .v (.string s), .v (.int .i64 n), c], .ptr 0 0, .v (.int .i64 0), .v (.int .i64 1), .v undef, c, .v (.int .i64 es.length), .v (.int .i64 0), .v undef]) (h := [.box 24 [.v (.int .i64 k), .v (.string s), .v (.int .i64 n), c]])
      (by omega) ⟨_, rfl, rfl⟩ (by
        rintro i v h hi ⟨m', rfl, hR⟩
        by_cases hil : i < es.length
        · have hil' : i < l.length := by omega
          have hT := hes.at hil hil'
          have hlt := lt_t hil
          have he : es[i]? = some es[i] := List.getElem?_eq_getElem hil
          have q2 := fun h : List AO => hs.ia he h
          have hf := hT.facts
          have hd : l.drop i = l[i] :: l.drop (i + 1) := List.drop_eq_getElem_cons hil'
          have hw := wrap_succ hil hm
          rw [hd, sizL] at hR
          have hc := ih l[i] es[i] (by have := IsL.mem_size (k := k) (n := n) (s := s) (List.getElem_mem hil'); omega) hT
          refine ⟨.normal, [.junk, .junk, .junk, .v (.int .i64 (IntKind.i64.wrap (m' + sizI l[i]))), .ptr h.length 0, c, .v (.int .i64 es.length), .v (.int .i64 ((i + 1 : Nat) : Int)), .v (.bool true)], h ++ [.box 24 es[i].cells], ?_, by omega, _, rfl, hR⟩
          simp only [Vfold, c28_7, c28_3, c28_4, c28_5, c28_6, hlt, q1, q2, hf, hc, hw, q9z, Q96, Q97, Q0, Q1, Q2, Q3, Q4, Q5, Q6, Q7, Q8, Q9, Q10, Q11, Q12, Q13, Q14, Q15, Q16, Q17, Q18, Q19, Q20, Q21, Q22, Q23, Q24, Q25, Q26, Q27, Q28, Q29, Q30, Q31, Q32, Q33, Q35, Q36, Q37, Q38, Q39, Q40, Q41, Q42, Q43, Q44, Q45, Q46, Q47, Q48, Q49, Q50, Q51, Q52, Q53, Q54, Q55, Q56, Q57, Q58, Q59, Q60, Q61, Q62, Q63, Q64, Q65, Q66, Q67, Q68, Q69, Q70, Q71, Q72, Q73, Q99, Q100, Q101, Q102, Q103, Q74, Q75, Q77, Q78, Q79, Q80, Q81, Q82, Q83, Q84, clr, List.length_nil, List.length_cons, List.getElem?_cons_zero, List.getElem?_cons_succ, Nat.reduceAdd, Nat.zero_add, Nat.add_zero, Nat.reduceLeDiff, Nat.reduceSub, ↓reduceIte, List.drop_succ_cons, List.drop_zero, List.take_succ_cons, List.take_zero, Bool.false_eq_true, List.nil_append, List.cons_append, Bool.not_true, Bool.not_false, cond_true, cond_false, bne, Q85, Q86, Q87, Q88, Q89, Q90, Q91, Q92, Q93, Q94, Q95, Q96, Q97, Q98, Q110, Q111, Q116, Q117, Q118, Q119, Q120, Q121, Q122, Q123, Option.map_some, Option.map_none, Q34]
        · have hie : i = es.length := by omega
          subst hie
          have hlt := lt_f (n := es.length)
          rw [List.drop_of_length_le (by omega), sizL] at hR
          refine ⟨.exit 0, Vfold c m' es.length es.length .junk (.v (.bool false)), h, ?_, rfl, _, by rw [hR]⟩
          simp only [Vfold, c28_7, c28_3, hlt, Q0, Q1, Q2, Q3, Q4, Q5, Q6, Q7, Q8, Q9, Q10, Q11, Q12, Q13, Q14, Q15, Q16, Q17, Q18, Q19, Q20, Q21, Q22, Q23, Q24, Q25, Q26, Q27, Q28, Q29, Q30, Q31, Q32, Q33, Q35, Q36, Q37, Q38, Q39, Q40, Q41, Q42, Q43, Q44, Q45, Q46, Q47, Q48, Q49, Q50, Q51, Q52, Q53, Q54, Q55, Q56, Q57, Q58, Q59, Q60, Q61, Q62, Q63, Q64, Q65, Q66, Q67, Q68, Q69, Q70, Q71, Q72, Q73, Q99, Q100, Q101, Q102, Q103, Q74, Q75, Q77, Q78, Q79, Q80, Q81, Q82, Q83, Q84, clr, List.length_nil, List.length_cons, List.getElem?_cons_zero, List.getElem?_cons_succ, Nat.reduceAdd, Nat.zero_add, Nat.add_zero, Nat.reduceLeDiff, Nat.reduceSub, ↓reduceIte, List.drop_succ_cons, List.drop_zero, List.take_succ_cons, List.take_zero, Bool.false_eq_true, List.nil_append, List.cons_append, Bool.not_true, Bool.not_false, cond_true, cond_false, bne, Q85, Q86, Q87, Q88, Q89, Q90, Q91, Q92, Q93, Q94, Q95, Q96, Q97, Q98, Q110, Q111, Q116, Q117, Q118, Q119, Q120, Q121, Q122, Q123, Option.map_some, Option.map_none, Q34])
    have e5 : Q76 [.box 24 [.v (.int .i64 k), .v (.string s), .v (.int .i64 n), c]] false 1 (.ptr 0 3) = some c := rfl
    rw [sizI]
    rw [show c28.body = (.seq (.region [] [] c28_0) (.seq (.region [] [] c28_1) (.seq (.seq (.region [] [] c28_2) (.block 0 (.loop [false, false, false, true, false, true, true, true, false] [] c28_7))) (.seq (.region [] [] c28_8) .ret)))) from rfl, show c28.res = [.var 2] from rfl]
    rw [show start c28 [.agg [.v (.int .i64 k), .v (.string s), .v (.int .i64 n), c]] = [.agg [.v (.int .i64 k), .v (.string s), .v (.int .i64 n), c], .v undef, .v undef, .v undef, .v undef, .v undef, .v undef, .v undef, .v undef] from rfl]
    obtain ⟨rfl, x4, rfl⟩ := g3
    generalize c28_7 = bb at g1 ⊢
    simp only [Vfold, c28_0, c28_1, c28_2, c28_8, e5, q1, g1, Q0, Q1, Q2, Q3, Q4, Q5, Q6, Q7, Q8, Q9, Q10, Q11, Q12, Q13, Q14, Q15, Q16, Q17, Q18, Q19, Q20, Q21, Q22, Q23, Q24, Q25, Q26, Q27, Q28, Q29, Q30, Q31, Q32, Q33, Q35, Q36, Q37, Q38, Q39, Q40, Q41, Q42, Q43, Q44, Q45, Q46, Q47, Q48, Q49, Q50, Q51, Q52, Q53, Q54, Q55, Q56, Q57, Q58, Q59, Q60, Q61, Q62, Q63, Q64, Q65, Q66, Q67, Q68, Q69, Q70, Q71, Q72, Q73, Q99, Q100, Q101, Q102, Q103, Q74, Q75, Q77, Q78, Q79, Q80, Q81, Q82, Q83, Q84, clr, List.length_nil, List.length_cons, List.getElem?_cons_zero, List.getElem?_cons_succ, Nat.reduceAdd, Nat.zero_add, Nat.add_zero, Nat.reduceLeDiff, Nat.reduceSub, ↓reduceIte, List.drop_succ_cons, List.drop_zero, List.take_succ_cons, List.take_zero, Bool.false_eq_true, List.nil_append, List.cons_append, Bool.not_true, Bool.not_false, cond_true, cond_false, bne, Q85, Q86, Q87, Q88, Q89, Q90, Q91, Q92, Q93, Q94, Q95, Q96, Q97, Q98, Q110, Q111, Q116, Q117, Q118, Q119, Q120, Q121, Q122, Q123, Option.map_some, Option.map_none, Q34]
theorem deep_ok : ∀ (N : Nat) (t : Tm) (a : AV), SizeOf.sizeOf t < N → IsT a t → callW F 25 [a] [] = some (.v (.int .i64 (depI t)), []) := by
  intro N
  induction N with
  | zero => intro t a h; omega
  | succ N ih =>
    intro t a hN ha
    cases ha with
    | mk k s n c l hc =>
    obtain ⟨es, hs, hes, hm⟩ := hc.sl
    have hll := hes.length
    refine callW_pure (c := c25) rfl rfl (l.length + 1) ?_
    have q1 := fun h : List AO => hs.len h
    obtain ⟨e, v', h', g1, g2, g3⟩ := loop_rule0 (call := callW F) (K := l.length + 1) (b := c25_7) (keep := [false, false, false, true, false, true, true, true, false])
      (fun i v h => ∃ m', v = Vfold c m' es.length i .junk .junk ∧ depL (l.drop i) m' = depL l 0)
      (fun e v h => e = .exit 0 ∧ ∃ x4, v = Vfold c (depL l 0) es.length es.length x4 (.v (.bool false)))
      l.length (m := l.length + 1) (v := [.agg [.v (.int .i64 k), .v (.string s), .v (.int .i64 n), c], .ptr 0 0, .v (.int .i64 0), .v (.int .i64 0), .v undef, c, .v (.int .i64 es.length), .v (.int .i64 0), .v undef]) (h := [.box 24 [.v (.int .i64 k), .v (.string s), .v (.int .i64 n), c]])
      (by omega) ⟨_, rfl, rfl⟩ (by
        rintro i v h hi ⟨m', rfl, hR⟩
        by_cases hil : i < es.length
        · have hil' : i < l.length := by omega
          have hT := hes.at hil hil'
          have hlt := lt_t hil
          have he : es[i]? = some es[i] := List.getElem?_eq_getElem hil
          have q2 := fun h : List AO => hs.ia he h
          have hf := hT.facts
          have hd : l.drop i = l[i] :: l.drop (i + 1) := List.drop_eq_getElem_cons hil'
          have hw := wrap_succ hil hm
          rw [hd, depL] at hR
          have hc := ih l[i] es[i] (by have := IsL.mem_size (k := k) (n := n) (s := s) (List.getElem_mem hil'); omega) hT
          refine ⟨.normal, [.junk, .junk, .junk, .v (.int .i64 (max m' (depI l[i]))), .ptr h.length 0, c, .v (.int .i64 es.length), .v (.int .i64 ((i + 1 : Nat) : Int)), .v (.bool true)], h ++ [.box 24 es[i].cells], ?_, by omega, _, rfl, hR⟩
          simp only [Vfold, c25_7, c25_3, c25_4, c25_5, c25_6, hlt, q1, q2, hf, hc, hw, q9z, Q96, Q97, Q0, Q1, Q2, Q3, Q4, Q5, Q6, Q7, Q8, Q9, Q10, Q11, Q12, Q13, Q14, Q15, Q16, Q17, Q18, Q19, Q20, Q21, Q22, Q23, Q24, Q25, Q26, Q27, Q28, Q29, Q30, Q31, Q32, Q33, Q35, Q36, Q37, Q38, Q39, Q40, Q41, Q42, Q43, Q44, Q45, Q46, Q47, Q48, Q49, Q50, Q51, Q52, Q53, Q54, Q55, Q56, Q57, Q58, Q59, Q60, Q61, Q62, Q63, Q64, Q65, Q66, Q67, Q68, Q69, Q70, Q71, Q72, Q73, Q99, Q100, Q101, Q102, Q103, Q74, Q75, Q77, Q78, Q79, Q80, Q81, Q82, Q83, Q84, clr, List.length_nil, List.length_cons, List.getElem?_cons_zero, List.getElem?_cons_succ, Nat.reduceAdd, Nat.zero_add, Nat.add_zero, Nat.reduceLeDiff, Nat.reduceSub, ↓reduceIte, List.drop_succ_cons, List.drop_zero, List.take_succ_cons, List.take_zero, Bool.false_eq_true, List.nil_append, List.cons_append, Bool.not_true, Bool.not_false, cond_true, cond_false, bne, Q85, Q86, Q87, Q88, Q89, Q90, Q91, Q92, Q93, Q94, Q95, Q96, Q97, Q98, Q110, Q111, Q116, Q117, Q118, Q119, Q120, Q121, Q122, Q123, Option.map_some, Option.map_none, Q34]
        · have hie : i = es.length := by omega
          subst hie
          have hlt := lt_f (n := es.length)
          rw [List.drop_of_length_le (by omega), depL] at hR
          refine ⟨.exit 0, Vfold c m' es.length es.length .junk (.v (.bool false)), h, ?_, rfl, _, by rw [hR]⟩
          simp only [Vfold, c25_7, c25_3, hlt, Q0, Q1, Q2, Q3, Q4, Q5, Q6, Q7, Q8, Q9, Q10, Q11, Q12, Q13, Q14, Q15, Q16, Q17, Q18, Q19, Q20, Q21, Q22, Q23, Q24, Q25, Q26, Q27, Q28, Q29, Q30, Q31, Q32, Q33, Q35, Q36, Q37, Q38, Q39, Q40, Q41, Q42, Q43, Q44, Q45, Q46, Q47, Q48, Q49, Q50, Q51, Q52, Q53, Q54, Q55, Q56, Q57, Q58, Q59, Q60, Q61, Q62, Q63, Q64, Q65, Q66, Q67, Q68, Q69, Q70, Q71, Q72, Q73, Q99, Q100, Q101, Q102, Q103, Q74, Q75, Q77, Q78, Q79, Q80, Q81, Q82, Q83, Q84, clr, List.length_nil, List.length_cons, List.getElem?_cons_zero, List.getElem?_cons_succ, Nat.reduceAdd, Nat.zero_add, Nat.add_zero, Nat.reduceLeDiff, Nat.reduceSub, ↓reduceIte, List.drop_succ_cons, List.drop_zero, List.take_succ_cons, List.take_zero, Bool.false_eq_true, List.nil_append, List.cons_append, Bool.not_true, Bool.not_false, cond_true, cond_false, bne, Q85, Q86, Q87, Q88, Q89, Q90, Q91, Q92, Q93, Q94, Q95, Q96, Q97, Q98, Q110, Q111, Q116, Q117, Q118, Q119, Q120, Q121, Q122, Q123, Option.map_some, Option.map_none, Q34])
    have e5 : Q76 [.box 24 [.v (.int .i64 k), .v (.string s), .v (.int .i64 n), c]] false 1 (.ptr 0 3) = some c := rfl
    rw [depI]
    rw [show c25.body = (.seq (.region [] [] c25_0) (.seq (.region [] [] c25_1) (.seq (.seq (.region [] [] c25_2) (.block 0 (.loop [false, false, false, true, false, true, true, true, false] [] c25_7))) (.seq (.region [] [] c25_8) .ret)))) from rfl, show c25.res = [.var 2] from rfl]
    rw [show start c25 [.agg [.v (.int .i64 k), .v (.string s), .v (.int .i64 n), c]] = [.agg [.v (.int .i64 k), .v (.string s), .v (.int .i64 n), c], .v undef, .v undef, .v undef, .v undef, .v undef, .v undef, .v undef, .v undef] from rfl]
    obtain ⟨rfl, x4, rfl⟩ := g3
    generalize c25_7 = bb at g1 ⊢
    simp only [Vfold, c25_0, c25_1, c25_2, c25_8, e5, q1, g1, Int.add_comm 1, Q0, Q1, Q2, Q3, Q4, Q5, Q6, Q7, Q8, Q9, Q10, Q11, Q12, Q13, Q14, Q15, Q16, Q17, Q18, Q19, Q20, Q21, Q22, Q23, Q24, Q25, Q26, Q27, Q28, Q29, Q30, Q31, Q32, Q33, Q35, Q36, Q37, Q38, Q39, Q40, Q41, Q42, Q43, Q44, Q45, Q46, Q47, Q48, Q49, Q50, Q51, Q52, Q53, Q54, Q55, Q56, Q57, Q58, Q59, Q60, Q61, Q62, Q63, Q64, Q65, Q66, Q67, Q68, Q69, Q70, Q71, Q72, Q73, Q99, Q100, Q101, Q102, Q103, Q74, Q75, Q77, Q78, Q79, Q80, Q81, Q82, Q83, Q84, clr, List.length_nil, List.length_cons, List.getElem?_cons_zero, List.getElem?_cons_succ, Nat.reduceAdd, Nat.zero_add, Nat.add_zero, Nat.reduceLeDiff, Nat.reduceSub, ↓reduceIte, List.drop_succ_cons, List.drop_zero, List.take_succ_cons, List.take_zero, Bool.false_eq_true, List.nil_append, List.cons_append, Bool.not_true, Bool.not_false, cond_true, cond_false, bne, Q85, Q86, Q87, Q88, Q89, Q90, Q91, Q92, Q93, Q94, Q95, Q96, Q97, Q98, Q110, Q111, Q116, Q117, Q118, Q119, Q120, Q121, Q122, Q123, Option.map_some, Option.map_none, Q34]
theorem rdeep_ok : ∀ (N : Nat) (t : Tm) (a : AV), SizeOf.sizeOf t < N → IsT a t → callW F 26 [a] [] = some (.v (.int .i64 (depI t)), []) := by
  intro N
  induction N with
  | zero => intro t a h; omega
  | succ N ih =>
    intro t a hN ha
    cases ha with
    | mk k s n c l hc =>
    obtain ⟨es, hs, hes, hm⟩ := hc.sl
    have hll := hes.length
    refine callW_pure (c := c26) rfl rfl (l.length + 1) ?_
    have q1 := fun h : List AO => hs.len h
    obtain ⟨e, v', h', g1, g2, g3⟩ := loop_rule0 (call := callW F) (K := l.length + 1) (b := c26_7) (keep := [false, false, false, true, false, true, true, true, false])
      (fun i v h => ∃ m', v = Vfold c m' es.length i .junk .junk ∧ depL (l.drop i) m' = depL l 0)
      (fun e v h => e = .exit 0 ∧ ∃ x4, v = Vfold c (depL l 0) es.length es.length x4 (.v (.bool false)))
      l.length (m := l.length + 1) (v := [.agg [.v (.int .i64 k), .v (.string s), .v (.int .i64 n), c], .ptr 0 0, .v (.int .i64 0), .v (.int .i64 0), .v undef, c, .v (.int .i64 es.length), .v (.int .i64 0), .v undef]) (h := [.box 24 [.v (.int .i64 k), .v (.string s), .v (.int .i64 n), c]])
      (by omega) ⟨_, rfl, rfl⟩ (by
        rintro i v h hi ⟨m', rfl, hR⟩
        by_cases hil : i < es.length
        · have hil' : i < l.length := by omega
          have hT := hes.at hil hil'
          have hlt := lt_t hil
          have he : es[i]? = some es[i] := List.getElem?_eq_getElem hil
          have q2 := fun h : List AO => hs.ia he h
          have hf := hT.facts
          have hd : l.drop i = l[i] :: l.drop (i + 1) := List.drop_eq_getElem_cons hil'
          have hw := wrap_succ hil hm
          rw [hd, depL] at hR
          have hc := ih l[i] es[i] (by have := IsL.mem_size (k := k) (n := n) (s := s) (List.getElem_mem hil'); omega) hT
          refine ⟨.normal, [.junk, .junk, .junk, .v (.int .i64 (max m' (depI l[i]))), .ptr h.length 0, c, .v (.int .i64 es.length), .v (.int .i64 ((i + 1 : Nat) : Int)), .v (.bool true)], h ++ [.box 24 es[i].cells], ?_, by omega, _, rfl, hR⟩
          simp only [Vfold, c26_7, c26_3, c26_4, c26_5, c26_6, hlt, q1, q2, hf, hc, hw, q9z, Q96, Q97, Q0, Q1, Q2, Q3, Q4, Q5, Q6, Q7, Q8, Q9, Q10, Q11, Q12, Q13, Q14, Q15, Q16, Q17, Q18, Q19, Q20, Q21, Q22, Q23, Q24, Q25, Q26, Q27, Q28, Q29, Q30, Q31, Q32, Q33, Q35, Q36, Q37, Q38, Q39, Q40, Q41, Q42, Q43, Q44, Q45, Q46, Q47, Q48, Q49, Q50, Q51, Q52, Q53, Q54, Q55, Q56, Q57, Q58, Q59, Q60, Q61, Q62, Q63, Q64, Q65, Q66, Q67, Q68, Q69, Q70, Q71, Q72, Q73, Q99, Q100, Q101, Q102, Q103, Q74, Q75, Q77, Q78, Q79, Q80, Q81, Q82, Q83, Q84, clr, List.length_nil, List.length_cons, List.getElem?_cons_zero, List.getElem?_cons_succ, Nat.reduceAdd, Nat.zero_add, Nat.add_zero, Nat.reduceLeDiff, Nat.reduceSub, ↓reduceIte, List.drop_succ_cons, List.drop_zero, List.take_succ_cons, List.take_zero, Bool.false_eq_true, List.nil_append, List.cons_append, Bool.not_true, Bool.not_false, cond_true, cond_false, bne, Q85, Q86, Q87, Q88, Q89, Q90, Q91, Q92, Q93, Q94, Q95, Q96, Q97, Q98, Q110, Q111, Q116, Q117, Q118, Q119, Q120, Q121, Q122, Q123, Option.map_some, Option.map_none, Q34]
        · have hie : i = es.length := by omega
          subst hie
          have hlt := lt_f (n := es.length)
          rw [List.drop_of_length_le (by omega), depL] at hR
          refine ⟨.exit 0, Vfold c m' es.length es.length .junk (.v (.bool false)), h, ?_, rfl, _, by rw [hR]⟩
          simp only [Vfold, c26_7, c26_3, hlt, Q0, Q1, Q2, Q3, Q4, Q5, Q6, Q7, Q8, Q9, Q10, Q11, Q12, Q13, Q14, Q15, Q16, Q17, Q18, Q19, Q20, Q21, Q22, Q23, Q24, Q25, Q26, Q27, Q28, Q29, Q30, Q31, Q32, Q33, Q35, Q36, Q37, Q38, Q39, Q40, Q41, Q42, Q43, Q44, Q45, Q46, Q47, Q48, Q49, Q50, Q51, Q52, Q53, Q54, Q55, Q56, Q57, Q58, Q59, Q60, Q61, Q62, Q63, Q64, Q65, Q66, Q67, Q68, Q69, Q70, Q71, Q72, Q73, Q99, Q100, Q101, Q102, Q103, Q74, Q75, Q77, Q78, Q79, Q80, Q81, Q82, Q83, Q84, clr, List.length_nil, List.length_cons, List.getElem?_cons_zero, List.getElem?_cons_succ, Nat.reduceAdd, Nat.zero_add, Nat.add_zero, Nat.reduceLeDiff, Nat.reduceSub, ↓reduceIte, List.drop_succ_cons, List.drop_zero, List.take_succ_cons, List.take_zero, Bool.false_eq_true, List.nil_append, List.cons_append, Bool.not_true, Bool.not_false, cond_true, cond_false, bne, Q85, Q86, Q87, Q88, Q89, Q90, Q91, Q92, Q93, Q94, Q95, Q96, Q97, Q98, Q110, Q111, Q116, Q117, Q118, Q119, Q120, Q121, Q122, Q123, Option.map_some, Option.map_none, Q34])
    have e5 : Q76 [.box 24 [.v (.int .i64 k), .v (.string s), .v (.int .i64 n), c]] false 1 (.ptr 0 3) = some c := rfl
    rw [depI]
    rw [show c26.body = (.seq (.region [] [] c26_0) (.seq (.region [] [] c26_1) (.seq (.seq (.region [] [] c26_2) (.block 0 (.loop [false, false, false, true, false, true, true, true, false] [] c26_7))) (.seq (.region [] [] c26_8) .ret)))) from rfl, show c26.res = [.var 2] from rfl]
    rw [show start c26 [.agg [.v (.int .i64 k), .v (.string s), .v (.int .i64 n), c]] = [.agg [.v (.int .i64 k), .v (.string s), .v (.int .i64 n), c], .v undef, .v undef, .v undef, .v undef, .v undef, .v undef, .v undef, .v undef] from rfl]
    obtain ⟨rfl, x4, rfl⟩ := g3
    generalize c26_7 = bb at g1 ⊢
    simp only [Vfold, c26_0, c26_1, c26_2, c26_8, e5, q1, g1, Q0, Q1, Q2, Q3, Q4, Q5, Q6, Q7, Q8, Q9, Q10, Q11, Q12, Q13, Q14, Q15, Q16, Q17, Q18, Q19, Q20, Q21, Q22, Q23, Q24, Q25, Q26, Q27, Q28, Q29, Q30, Q31, Q32, Q33, Q35, Q36, Q37, Q38, Q39, Q40, Q41, Q42, Q43, Q44, Q45, Q46, Q47, Q48, Q49, Q50, Q51, Q52, Q53, Q54, Q55, Q56, Q57, Q58, Q59, Q60, Q61, Q62, Q63, Q64, Q65, Q66, Q67, Q68, Q69, Q70, Q71, Q72, Q73, Q99, Q100, Q101, Q102, Q103, Q74, Q75, Q77, Q78, Q79, Q80, Q81, Q82, Q83, Q84, clr, List.length_nil, List.length_cons, List.getElem?_cons_zero, List.getElem?_cons_succ, Nat.reduceAdd, Nat.zero_add, Nat.add_zero, Nat.reduceLeDiff, Nat.reduceSub, ↓reduceIte, List.drop_succ_cons, List.drop_zero, List.take_succ_cons, List.take_zero, Bool.false_eq_true, List.nil_append, List.cons_append, Bool.not_true, Bool.not_false, cond_true, cond_false, bne, Q85, Q86, Q87, Q88, Q89, Q90, Q91, Q92, Q93, Q94, Q95, Q96, Q97, Q98, Q110, Q111, Q116, Q117, Q118, Q119, Q120, Q121, Q122, Q123, Option.map_some, Option.map_none, Q34]
end Go.AE.YtgcbaefclkfnoaaDoor
end

/-! Whether a term may be: the program's Check and the document's. -/
section
set_option linter.unusedVariables false
set_option linter.unusedSimpArgs false
namespace Go.AE.YtgcbaefclkfnoaaDoor
open Go Go.AE Go.Proofs.YtgcbaefclkfnoaaDoor

def chkS (s : ByteArray) : Bool := decide ((s.size : Int) ≤ 255) && Lib.validD s.data.toList
def noS (s : ByteArray) : Bool := s.toList == (⟨#[]⟩ : ByteArray).toList
mutual
def mayT : Tm → Bool
  | .mk k s n l =>
    if (k == 1) = true then ((l.length : Int) == 0) && (noS s && decide (n ≥ 0))
    else if (k == 2) = true then ((l.length : Int) == 0) && ((n == 0) && chkS s)
    else if (k == 3) = true then ((l.length : Int) == 0) && noS s
    else if (k == 4) = true then !((l.length : Int) == 0) && ((n == 0) && (decide ((l.length : Int) ≤ 16) && (chkS s && mayL l)))
    else false
def mayL : List Tm → Bool
  | [] => true
  | a :: l => mayT a && mayL l
end
theorem valid_call (s : ByteArray) (h : s.size ≤ 9223372036854775807) : callW F 75 [.v (.string s)] [] = some (.v (.bool (Lib.validD s.data.toList)), []) := by
  refine callW_oracle (g := validG) rfl ?_
  simp only [validG, h, if_true]
theorem chk_ok (s : ByteArray) : callW F 70 [.v (.string s)] [] = some (.v (.bool (chkS s)), []) := by
  refine callW_pure (c := c70) rfl rfl 0 ?_
  unfold chkS
  cases h1 : decide ((s.size : Int) ≤ 255) with
  | true =>
    have hc := valid_call s (by simp at h1; omega)
    simp only [c70, start, List.replicate, c70_0, c70_1, h1, hc, snap_str, Bool.true_and, Q0, Q1, Q2, Q3, Q4, Q5, Q6, Q7, Q8, Q9, Q10, Q11, Q12, Q13, Q14, Q15, Q16, Q17, Q18, Q19, Q20, Q21, Q22, Q23, Q24, Q25, Q26, Q27, Q28, Q29, Q30, Q31, Q32, Q33, Q35, Q36, Q37, Q38, Q39, Q40, Q41, Q42, Q43, Q44, Q45, Q46, Q47, Q48, Q49, Q50, Q51, Q52, Q53, Q54, Q55, Q56, Q57, Q58, Q59, Q60, Q61, Q62, Q63, Q64, Q65, Q66, Q67, Q68, Q69, Q70, Q71, Q72, Q73, Q99, Q100, Q101, Q102, Q103, Q74, Q75, Q77, Q78, Q79, Q80, Q81, Q82, Q83, Q84, clr, List.length_nil, List.length_cons, List.getElem?_cons_zero, List.getElem?_cons_succ, Nat.reduceAdd, Nat.zero_add, Nat.add_zero, Nat.reduceLeDiff, Nat.reduceSub, ↓reduceIte, List.drop_succ_cons, List.drop_zero, List.take_succ_cons, List.take_zero, Bool.false_eq_true, List.nil_append, List.cons_append, Bool.not_true, Bool.not_false, cond_true, cond_false, bne, Q85, Q86, Q87, Q88, Q89, Q90, Q91, Q92, Q93, Q94, Q95, Q96, Q97, Q98, Q110, Q111, Q116, Q117, Q118, Q119, Q120, Q121, Q122, Q123, Option.map_some, Option.map_none, Q34]
  | false => simp only [c70, start, List.replicate, c70_0, c70_1, h1, Bool.false_and, Q0, Q1, Q2, Q3, Q4, Q5, Q6, Q7, Q8, Q9, Q10, Q11, Q12, Q13, Q14, Q15, Q16, Q17, Q18, Q19, Q20, Q21, Q22, Q23, Q24, Q25, Q26, Q27, Q28, Q29, Q30, Q31, Q32, Q33, Q35, Q36, Q37, Q38, Q39, Q40, Q41, Q42, Q43, Q44, Q45, Q46, Q47, Q48, Q49, Q50, Q51, Q52, Q53, Q54, Q55, Q56, Q57, Q58, Q59, Q60, Q61, Q62, Q63, Q64, Q65, Q66, Q67, Q68, Q69, Q70, Q71, Q72, Q73, Q99, Q100, Q101, Q102, Q103, Q74, Q75, Q77, Q78, Q79, Q80, Q81, Q82, Q83, Q84, clr, List.length_nil, List.length_cons, List.getElem?_cons_zero, List.getElem?_cons_succ, Nat.reduceAdd, Nat.zero_add, Nat.add_zero, Nat.reduceLeDiff, Nat.reduceSub, ↓reduceIte, List.drop_succ_cons, List.drop_zero, List.take_succ_cons, List.take_zero, Bool.false_eq_true, List.nil_append, List.cons_append, Bool.not_true, Bool.not_false, cond_true, cond_false, bne, Q85, Q86, Q87, Q88, Q89, Q90, Q91, Q92, Q93, Q94, Q95, Q96, Q97, Q98, Q110, Q111, Q116, Q117, Q118, Q119, Q120, Q121, Q122, Q123, Option.map_some, Option.map_none, Q34]
theorem rchk_ok (s : ByteArray) : callW F 62 [.v (.string s)] [] = some (.v (.bool (chkS s)), []) := by
  refine callW_pure (c := c62) rfl rfl 0 ?_
  unfold chkS
  cases h1 : decide ((s.size : Int) ≤ 255) with
  | true =>
    have hc := valid_call s (by simp at h1; omega)
    simp only [c62, start, List.replicate, c62_0, c62_1, h1, hc, snap_str, Bool.true_and, Q0, Q1, Q2, Q3, Q4, Q5, Q6, Q7, Q8, Q9, Q10, Q11, Q12, Q13, Q14, Q15, Q16, Q17, Q18, Q19, Q20, Q21, Q22, Q23, Q24, Q25, Q26, Q27, Q28, Q29, Q30, Q31, Q32, Q33, Q35, Q36, Q37, Q38, Q39, Q40, Q41, Q42, Q43, Q44, Q45, Q46, Q47, Q48, Q49, Q50, Q51, Q52, Q53, Q54, Q55, Q56, Q57, Q58, Q59, Q60, Q61, Q62, Q63, Q64, Q65, Q66, Q67, Q68, Q69, Q70, Q71, Q72, Q73, Q99, Q100, Q101, Q102, Q103, Q74, Q75, Q77, Q78, Q79, Q80, Q81, Q82, Q83, Q84, clr, List.length_nil, List.length_cons, List.getElem?_cons_zero, List.getElem?_cons_succ, Nat.reduceAdd, Nat.zero_add, Nat.add_zero, Nat.reduceLeDiff, Nat.reduceSub, ↓reduceIte, List.drop_succ_cons, List.drop_zero, List.take_succ_cons, List.take_zero, Bool.false_eq_true, List.nil_append, List.cons_append, Bool.not_true, Bool.not_false, cond_true, cond_false, bne, Q85, Q86, Q87, Q88, Q89, Q90, Q91, Q92, Q93, Q94, Q95, Q96, Q97, Q98, Q110, Q111, Q116, Q117, Q118, Q119, Q120, Q121, Q122, Q123, Option.map_some, Option.map_none, Q34]
  | false => simp only [c62, start, List.replicate, c62_0, c62_1, h1, Bool.false_and, Q0, Q1, Q2, Q3, Q4, Q5, Q6, Q7, Q8, Q9, Q10, Q11, Q12, Q13, Q14, Q15, Q16, Q17, Q18, Q19, Q20, Q21, Q22, Q23, Q24, Q25, Q26, Q27, Q28, Q29, Q30, Q31, Q32, Q33, Q35, Q36, Q37, Q38, Q39, Q40, Q41, Q42, Q43, Q44, Q45, Q46, Q47, Q48, Q49, Q50, Q51, Q52, Q53, Q54, Q55, Q56, Q57, Q58, Q59, Q60, Q61, Q62, Q63, Q64, Q65, Q66, Q67, Q68, Q69, Q70, Q71, Q72, Q73, Q99, Q100, Q101, Q102, Q103, Q74, Q75, Q77, Q78, Q79, Q80, Q81, Q82, Q83, Q84, clr, List.length_nil, List.length_cons, List.getElem?_cons_zero, List.getElem?_cons_succ, Nat.reduceAdd, Nat.zero_add, Nat.add_zero, Nat.reduceLeDiff, Nat.reduceSub, ↓reduceIte, List.drop_succ_cons, List.drop_zero, List.take_succ_cons, List.take_zero, Bool.false_eq_true, List.nil_append, List.cons_append, Bool.not_true, Bool.not_false, cond_true, cond_false, bne, Q85, Q86, Q87, Q88, Q89, Q90, Q91, Q92, Q93, Q94, Q95, Q96, Q97, Q98, Q110, Q111, Q116, Q117, Q118, Q119, Q120, Q121, Q122, Q123, Option.map_some, Option.map_none, Q34]

def tb (k n : Int) (s : ByteArray) (c : AV) : AO := .box 24 [.v (.int .i64 k), .v (.string s), .v (.int .i64 n), c]
section
variable {k n : Int} {s : ByteArray} {c : AV} {G : List AO}
theorem tb0 : Q76 (tb k n s c :: G) false 1 (.ptr 0 0) = some (.v (.int .i64 k)) := rfl
theorem tb1 : Q76 (tb k n s c :: G) false 1 (.ptr 0 1) = some (.v (.string s)) := rfl
theorem tb2 : Q76 (tb k n s c :: G) false 1 (.ptr 0 2) = some (.v (.int .i64 n)) := rfl
theorem tb3 : Q76 (tb k n s c :: G) false 1 (.ptr 0 3) = some c := rfl
theorem tb4 : Q76 (tb k n s c :: G) true 4 (.ptr 0 0) = some (.agg [.v (.int .i64 k), .v (.string s), .v (.int .i64 n), c]) := rfl
theorem tbx : bx [] 24 (some [.v (.int .i64 k), .v (.string s), .v (.int .i64 n), c]) = some (.ptr 0 0, [tb k n s c]) := rfl
end

def V54 (b : Bool) (i : Int) (x11 : AV) : List AV := [.junk, .ptr 0 0, .junk, .junk, .v (.bool b), .v (.int .i64 i), .junk, .junk, .junk, .junk, .junk, x11]
def K54 : List Bool := [false, true, false, false, true, true, false, false, false, false, false, false]
theorem may_ok : ∀ (N : Nat) (t : Tm) (a : AV), SizeOf.sizeOf t < N → IsT a t → callW F 54 [a] [] = some (.v (.bool (mayT t)), []) := by
  intro N
  induction N with
  | zero => intro t a h; omega
  | succ N ih =>
    intro t a hN ha
    cases ha with
    | mk k s n c l hc =>
    obtain ⟨es, hs, hes, hm⟩ := hc.sl
    have hll := hes.length
    refine callW_pure (c := c54) rfl rfl (l.length + 1) ?_
    have q1 := fun h : List AO => hs.len h
    rw [hll] at q1
    have hchk := chk_ok s
    have loop : ∀ (b0 : Bool) (v : List AV), clr K54 v = V54 b0 0 .junk → ∃ x11, ∃ i : Int, loopN (exec (callW F) (l.length + 1) c54_15) K54 (l.length + 1) v [tb k n s c] = some (.exit 1, V54 (b0 && mayL l) i x11, [tb k n s c]) := by
      intro b0 v hv
      obtain ⟨e, v', h', g1, g2, g3⟩ := loop_rule0 (call := callW F) (K := l.length + 1) (b := c54_15) (keep := K54)
        (fun i v h => ∃ b, v = V54 b i .junk ∧ (b && mayL (l.drop i)) = (b0 && mayL l) ∧ h = [tb k n s c])
        (fun e v h => e = .exit 1 ∧ (∃ x11, ∃ i : Int, v = V54 (b0 && mayL l) i x11) ∧ h = [tb k n s c])
        l.length (m := l.length + 1) (v := v) (h := [tb k n s c]) (by omega) ⟨b0, hv, rfl, rfl⟩ (by
          rintro i v h hi ⟨b, rfl, hR, rfl⟩
          cases b with
          | false =>
            rw [Bool.false_and] at hR
            refine ⟨.exit 1, V54 false i (.v (.bool false)), _, ?_, rfl, ⟨_, i, by rw [← hR]⟩, rfl⟩
            simp only [V54, c54_15, c54_12, Q0, Q1, Q2, Q3, Q4, Q5, Q6, Q7, Q8, Q9, Q10, Q11, Q12, Q13, Q14, Q15, Q16, Q17, Q18, Q19, Q20, Q21, Q22, Q23, Q24, Q25, Q26, Q27, Q28, Q29, Q30, Q31, Q32, Q33, Q35, Q36, Q37, Q38, Q39, Q40, Q41, Q42, Q43, Q44, Q45, Q46, Q47, Q48, Q49, Q50, Q51, Q52, Q53, Q54, Q55, Q56, Q57, Q58, Q59, Q60, Q61, Q62, Q63, Q64, Q65, Q66, Q67, Q68, Q69, Q70, Q71, Q72, Q73, Q99, Q100, Q101, Q102, Q103, Q74, Q75, Q77, Q78, Q79, Q80, Q81, Q82, Q83, Q84, clr, List.length_nil, List.length_cons, List.getElem?_cons_zero, List.getElem?_cons_succ, Nat.reduceAdd, Nat.zero_add, Nat.add_zero, Nat.reduceLeDiff, Nat.reduceSub, ↓reduceIte, List.drop_succ_cons, List.drop_zero, List.take_succ_cons, List.take_zero, Bool.false_eq_true, List.nil_append, List.cons_append, Bool.not_true, Bool.not_false, cond_true, cond_false, bne, Q85, Q86, Q87, Q88, Q89, Q90, Q91, Q92, Q93, Q94, Q95, Q96, Q97, Q98, Q110, Q111, Q116, Q117, Q118, Q119, Q120, Q121, Q122, Q123, Option.map_some, Option.map_none, Q34]
          | true =>
            by_cases hil' : i < l.length
            · have hil : i < es.length := by omega
              have hT := hes.at hil hil'
              have hlt := lt_t hil'
              have he : es[i]? = some es[i] := List.getElem?_eq_getElem hil
              have q2 := fun h : List AO => hs.ia he h
              have hf := hT.facts
              have hd : l.drop i = l[i] :: l.drop (i + 1) := List.drop_eq_getElem_cons hil'
              have hw := wrap_succ hil hm
              have hc := ih l[i] es[i] (by have := IsL.mem_size (k := k) (n := n) (s := s) (List.getElem_mem hil'); omega) hT
              rw [hd, mayL, Bool.true_and] at hR
              refine ⟨.normal, V54 (mayT l[i]) ((i + 1 : Nat) : Int) (.v (.bool true)), [tb k n s c], ?_, hil', _, rfl, hR, rfl⟩
              simp only [V54, c54_15, c54_12, c54_13, c54_14, hlt, q1, q2, hf, hc, hw, tb3, Q0, Q1, Q2, Q3, Q4, Q5, Q6, Q7, Q8, Q9, Q10, Q11, Q12, Q13, Q14, Q15, Q16, Q17, Q18, Q19, Q20, Q21, Q22, Q23, Q24, Q25, Q26, Q27, Q28, Q29, Q30, Q31, Q32, Q33, Q35, Q36, Q37, Q38, Q39, Q40, Q41, Q42, Q43, Q44, Q45, Q46, Q47, Q48, Q49, Q50, Q51, Q52, Q53, Q54, Q55, Q56, Q57, Q58, Q59, Q60, Q61, Q62, Q63, Q64, Q65, Q66, Q67, Q68, Q69, Q70, Q71, Q72, Q73, Q99, Q100, Q101, Q102, Q103, Q74, Q75, Q77, Q78, Q79, Q80, Q81, Q82, Q83, Q84, clr, List.length_nil, List.length_cons, List.getElem?_cons_zero, List.getElem?_cons_succ, Nat.reduceAdd, Nat.zero_add, Nat.add_zero, Nat.reduceLeDiff, Nat.reduceSub, ↓reduceIte, List.drop_succ_cons, List.drop_zero, List.take_succ_cons, List.take_zero, Bool.false_eq_true, List.nil_append, List.cons_append, Bool.not_true, Bool.not_false, cond_true, cond_false, bne, Q85, Q86, Q87, Q88, Q89, Q90, Q91, Q92, Q93, Q94, Q95, Q96, Q97, Q98, Q110, Q111, Q116, Q117, Q118, Q119, Q120, Q121, Q122, Q123, Option.map_some, Option.map_none, Q34]
            · have hie : i = l.length := by omega
              subst hie
              have hlt := lt_f (n := l.length)
              rw [List.drop_of_length_le (Nat.le_refl _), mayL, Bool.and_true] at hR
              refine ⟨.exit 1, V54 true l.length (.v (.bool false)), _, ?_, rfl, ⟨_, _, by rw [← hR]⟩, rfl⟩
              simp only [V54, c54_15, c54_12, hlt, q1, tb3, Q0, Q1, Q2, Q3, Q4, Q5, Q6, Q7, Q8, Q9, Q10, Q11, Q12, Q13, Q14, Q15, Q16, Q17, Q18, Q19, Q20, Q21, Q22, Q23, Q24, Q25, Q26, Q27, Q28, Q29, Q30, Q31, Q32, Q33, Q35, Q36, Q37, Q38, Q39, Q40, Q41, Q42, Q43, Q44, Q45, Q46, Q47, Q48, Q49, Q50, Q51, Q52, Q53, Q54, Q55, Q56, Q57, Q58, Q59, Q60, Q61, Q62, Q63, Q64, Q65, Q66, Q67, Q68, Q69, Q70, Q71, Q72, Q73, Q99, Q100, Q101, Q102, Q103, Q74, Q75, Q77, Q78, Q79, Q80, Q81, Q82, Q83, Q84, clr, List.length_nil, List.length_cons, List.getElem?_cons_zero, List.getElem?_cons_succ, Nat.reduceAdd, Nat.zero_add, Nat.add_zero, Nat.reduceLeDiff, Nat.reduceSub, ↓reduceIte, List.drop_succ_cons, List.drop_zero, List.take_succ_cons, List.take_zero, Bool.false_eq_true, List.nil_append, List.cons_append, Bool.not_true, Bool.not_false, cond_true, cond_false, bne, Q85, Q86, Q87, Q88, Q89, Q90, Q91, Q92, Q93, Q94, Q95, Q96, Q97, Q98, Q110, Q111, Q116, Q117, Q118, Q119, Q120, Q121, Q122, Q123, Option.map_some, Option.map_none, Q34])
      obtain ⟨rfl, ⟨x11, i, rfl⟩, rfl⟩ := g3
      exact ⟨x11, i, g1⟩
    rw [mayT]
    rw [show c54.body = (.seq (.region [] [] c54_0) (.seq (.region [] [] c54_1) (.seq (.seq (.region [] [] c54_2) (.block 0 (.seq (.region [] [] c54_3) (.cond (.var 7) (.seq (.region [] [] c54_4) .ret) (.seq (.region [] [] c54_5) (.cond (.var 8) (.seq (.region [] [] c54_6) .ret) (.seq (.region [] [] c54_7) (.cond (.var 9) (.seq (.region [] [] c54_8) .ret) (.seq (.region [] [] c54_9) (.cond (.var 10) (.seq (.region [] [] c54_10) (.seq (.seq (.region [] [] c54_11) (.block 1 (.loop K54 [] c54_15))) (.seq (.region [] [] c54_16) .ret))) .skip)))))))))) (.seq (.region [] [] c54_17) .ret)))) from rfl, show c54.res = [.var 2] from rfl]
    rw [show start c54 [.agg [.v (.int .i64 k), .v (.string s), .v (.int .i64 n), c]] = [.agg [.v (.int .i64 k), .v (.string s), .v (.int .i64 n), c], .v undef, .v undef, .v undef, .v undef, .v undef, .v undef, .v undef, .v undef, .v undef, .v undef, .v undef] from rfl]
    generalize c54_15 = bb at loop ⊢
    generalize hA : ((l.length : Int) == 0) = A
    generalize hB : noS s = B
    unfold noS at hB
    generalize hC : decide (n ≥ 0) = C
    generalize hD : (n == 0) = D
    generalize hE : decide ((l.length : Int) ≤ 16) = E
    generalize chkS s = G at hchk ⊢
    cases h1 : (k == 1) with
    | true => cases A <;> cases B <;> simp only [c54_0, c54_1, c54_2, c54_3, c54_4, tbx, tb0, tb1, tb2, tb3, q1, h1, hA, hB, hC, Bool.true_and, Bool.false_and, Bool.and_self, Q0, Q1, Q2, Q3, Q4, Q5, Q6, Q7, Q8, Q9, Q10, Q11, Q12, Q13, Q14, Q15, Q16, Q17, Q18, Q19, Q20, Q21, Q22, Q23, Q24, Q25, Q26, Q27, Q28, Q29, Q30, Q31, Q32, Q33, Q35, Q36, Q37, Q38, Q39, Q40, Q41, Q42, Q43, Q44, Q45, Q46, Q47, Q48, Q49, Q50, Q51, Q52, Q53, Q54, Q55, Q56, Q57, Q58, Q59, Q60, Q61, Q62, Q63, Q64, Q65, Q66, Q67, Q68, Q69, Q70, Q71, Q72, Q73, Q99, Q100, Q101, Q102, Q103, Q74, Q75, Q77, Q78, Q79, Q80, Q81, Q82, Q83, Q84, clr, List.length_nil, List.length_cons, List.getElem?_cons_zero, List.getElem?_cons_succ, Nat.reduceAdd, Nat.zero_add, Nat.add_zero, Nat.reduceLeDiff, Nat.reduceSub, ↓reduceIte, List.drop_succ_cons, List.drop_zero, List.take_succ_cons, List.take_zero, Bool.false_eq_true, List.nil_append, List.cons_append, Bool.not_true, Bool.not_false, cond_true, cond_false, bne, Q85, Q86, Q87, Q88, Q89, Q90, Q91, Q92, Q93, Q94, Q95, Q96, Q97, Q98, Q110, Q111, Q116, Q117, Q118, Q119, Q120, Q121, Q122, Q123, Option.map_some, Option.map_none]
    | false =>
    cases h3 : (k == 3) with
    | true =>
      have h2 : (k == 2) = false := by simp at h3 ⊢; omega
      cases A <;> simp only [c54_0, c54_1, c54_2, c54_3, c54_4, c54_5, c54_6, tbx, tb0, tb1, tb2, tb3, q1, h1, h2, h3, hA, hB, Bool.true_and, Bool.false_and, Q0, Q1, Q2, Q3, Q4, Q5, Q6, Q7, Q8, Q9, Q10, Q11, Q12, Q13, Q14, Q15, Q16, Q17, Q18, Q19, Q20, Q21, Q22, Q23, Q24, Q25, Q26, Q27, Q28, Q29, Q30, Q31, Q32, Q33, Q35, Q36, Q37, Q38, Q39, Q40, Q41, Q42, Q43, Q44, Q45, Q46, Q47, Q48, Q49, Q50, Q51, Q52, Q53, Q54, Q55, Q56, Q57, Q58, Q59, Q60, Q61, Q62, Q63, Q64, Q65, Q66, Q67, Q68, Q69, Q70, Q71, Q72, Q73, Q99, Q100, Q101, Q102, Q103, Q74, Q75, Q77, Q78, Q79, Q80, Q81, Q82, Q83, Q84, clr, List.length_nil, List.length_cons, List.getElem?_cons_zero, List.getElem?_cons_succ, Nat.reduceAdd, Nat.zero_add, Nat.add_zero, Nat.reduceLeDiff, Nat.reduceSub, ↓reduceIte, List.drop_succ_cons, List.drop_zero, List.take_succ_cons, List.take_zero, Bool.false_eq_true, List.nil_append, List.cons_append, Bool.not_true, Bool.not_false, cond_true, cond_false, bne, Q85, Q86, Q87, Q88, Q89, Q90, Q91, Q92, Q93, Q94, Q95, Q96, Q97, Q98, Q110, Q111, Q116, Q117, Q118, Q119, Q120, Q121, Q122, Q123, Option.map_some, Option.map_none]
    | false =>
    cases h2 : (k == 2) with
    | true => cases A <;> cases D <;> simp only [c54_0, c54_1, c54_2, c54_3, c54_4, c54_5, c54_6, c54_7, c54_8, tbx, tb0, tb1, tb2, tb3, q1, h1, h2, h3, hA, hD, hchk, snap_str, Bool.true_and, Bool.false_and, Q0, Q1, Q2, Q3, Q4, Q5, Q6, Q7, Q8, Q9, Q10, Q11, Q12, Q13, Q14, Q15, Q16, Q17, Q18, Q19, Q20, Q21, Q22, Q23, Q24, Q25, Q26, Q27, Q28, Q29, Q30, Q31, Q32, Q33, Q35, Q36, Q37, Q38, Q39, Q40, Q41, Q42, Q43, Q44, Q45, Q46, Q47, Q48, Q49, Q50, Q51, Q52, Q53, Q54, Q55, Q56, Q57, Q58, Q59, Q60, Q61, Q62, Q63, Q64, Q65, Q66, Q67, Q68, Q69, Q70, Q71, Q72, Q73, Q99, Q100, Q101, Q102, Q103, Q74, Q75, Q77, Q78, Q79, Q80, Q81, Q82, Q83, Q84, clr, List.length_nil, List.length_cons, List.getElem?_cons_zero, List.getElem?_cons_succ, Nat.reduceAdd, Nat.zero_add, Nat.add_zero, Nat.reduceLeDiff, Nat.reduceSub, ↓reduceIte, List.drop_succ_cons, List.drop_zero, List.take_succ_cons, List.take_zero, Bool.false_eq_true, List.nil_append, List.cons_append, Bool.not_true, Bool.not_false, cond_true, cond_false, bne, Q85, Q86, Q87, Q88, Q89, Q90, Q91, Q92, Q93, Q94, Q95, Q96, Q97, Q98, Q110, Q111, Q116, Q117, Q118, Q119, Q120, Q121, Q122, Q123, Option.map_some, Option.map_none]
    | false =>
    cases h4 : (k == 4) with
    | false => simp only [c54_0, c54_1, c54_2, c54_3, c54_4, c54_5, c54_6, c54_7, c54_8, c54_9, c54_17, tbx, tb0, tb1, tb2, tb3, q1, h1, h2, h3, h4, Q0, Q1, Q2, Q3, Q4, Q5, Q6, Q7, Q8, Q9, Q10, Q11, Q12, Q13, Q14, Q15, Q16, Q17, Q18, Q19, Q20, Q21, Q22, Q23, Q24, Q25, Q26, Q27, Q28, Q29, Q30, Q31, Q32, Q33, Q35, Q36, Q37, Q38, Q39, Q40, Q41, Q42, Q43, Q44, Q45, Q46, Q47, Q48, Q49, Q50, Q51, Q52, Q53, Q54, Q55, Q56, Q57, Q58, Q59, Q60, Q61, Q62, Q63, Q64, Q65, Q66, Q67, Q68, Q69, Q70, Q71, Q72, Q73, Q99, Q100, Q101, Q102, Q103, Q74, Q75, Q77, Q78, Q79, Q80, Q81, Q82, Q83, Q84, clr, List.length_nil, List.length_cons, List.getElem?_cons_zero, List.getElem?_cons_succ, Nat.reduceAdd, Nat.zero_add, Nat.add_zero, Nat.reduceLeDiff, Nat.reduceSub, ↓reduceIte, List.drop_succ_cons, List.drop_zero, List.take_succ_cons, List.take_zero, Bool.false_eq_true, List.nil_append, List.cons_append, Bool.not_true, Bool.not_false, cond_true, cond_false, bne, Q85, Q86, Q87, Q88, Q89, Q90, Q91, Q92, Q93, Q94, Q95, Q96, Q97, Q98, Q110, Q111, Q116, Q117, Q118, Q119, Q120, Q121, Q122, Q123, Option.map_some, Option.map_none]
    | true =>
      have fin : ∀ (v : List AV) (b0 : Bool), clr K54 v = V54 b0 0 .junk → ∃ x11, ∃ i : Int, loopN (exec (callW F) (l.length + 1) bb) K54 (l.length + 1) v [tb k n s c] = some (.exit 1, V54 (b0 && mayL l) i x11, [tb k n s c]) := fun v b0 hv => loop b0 v hv
      obtain ⟨y1, i1, p1⟩ := fin [.agg [.v (.int .i64 k), .v (.string s), .v (.int .i64 n), c], .ptr 0 0, .v (.bool false), .v (.bool A), .v (.bool (!A && (D && (E && G)))), .v (.int .i64 0), .v (.int .i64 k), .v (.bool false), .v (.bool false), .v (.bool false), .v (.bool true), .v undef] (!A && (D && (E && G))) rfl
      cases A <;> cases D <;> cases E <;> simp only [Bool.not_true, Bool.not_false, Bool.true_and, Bool.false_and] at p1 <;>
        simp only [c54_0, c54_1, c54_2, c54_3, c54_4, c54_5, c54_6, c54_7, c54_8, c54_9, c54_10, c54_11, c54_16, V54, tbx, tb0, tb1, tb2, tb3, q1, h1, h2, h3, h4, hA, hD, hE, hchk, p1, snap_str, Bool.true_and, Bool.false_and, Q0, Q1, Q2, Q3, Q4, Q5, Q6, Q7, Q8, Q9, Q10, Q11, Q12, Q13, Q14, Q15, Q16, Q17, Q18, Q19, Q20, Q21, Q22, Q23, Q24, Q25, Q26, Q27, Q28, Q29, Q30, Q31, Q32, Q33, Q35, Q36, Q37, Q38, Q39, Q40, Q41, Q42, Q43, Q44, Q45, Q46, Q47, Q48, Q49, Q50, Q51, Q52, Q53, Q54, Q55, Q56, Q57, Q58, Q59, Q60, Q61, Q62, Q63, Q64, Q65, Q66, Q67, Q68, Q69, Q70, Q71, Q72, Q73, Q99, Q100, Q101, Q102, Q103, Q74, Q75, Q77, Q78, Q79, Q80, Q81, Q82, Q83, Q84, clr, List.length_nil, List.length_cons, List.getElem?_cons_zero, List.getElem?_cons_succ, Nat.reduceAdd, Nat.zero_add, Nat.add_zero, Nat.reduceLeDiff, Nat.reduceSub, ↓reduceIte, List.drop_succ_cons, List.drop_zero, List.take_succ_cons, List.take_zero, Bool.false_eq_true, List.nil_append, List.cons_append, Bool.not_true, Bool.not_false, cond_true, cond_false, bne, Q85, Q86, Q87, Q88, Q89, Q90, Q91, Q92, Q93, Q94, Q95, Q96, Q97, Q98, Q110, Q111, Q116, Q117, Q118, Q119, Q120, Q121, Q122, Q123, Option.map_some, Option.map_none]
end Go.AE.YtgcbaefclkfnoaaDoor
end

/-! The document's Check; the program's. -/
section
set_option linter.unusedVariables false
set_option linter.unusedSimpArgs false
namespace Go.AE.YtgcbaefclkfnoaaDoor
open Go Go.AE Go.Proofs.YtgcbaefclkfnoaaDoor

def V43 (c : AV) (n i : Int) (x3 x13 x14 : AV) : List AV := [.junk, .junk, .junk, x3, .junk, .junk, .junk, .junk, .junk, .junk, c, .v (.int .i64 n), .v (.int .i64 i), x13, x14]
def K43 : List Bool := [false, false, false, false, false, false, false, false, false, false, true, true, true, false, false]
theorem rmay_ok : ∀ (N : Nat) (t : Tm) (a : AV), SizeOf.sizeOf t < N → IsT a t → callW F 43 [a] [] = some (.v (.bool (mayT t)), []) := by
  intro N
  induction N with
  | zero => intro t a h; omega
  | succ N ih =>
    intro t a hN ha
    cases ha with
    | mk k s n c l hc =>
    obtain ⟨es, hs, hes, hm⟩ := hc.sl
    have hll := hes.length
    refine callW_pure (c := c43) rfl rfl (l.length + 1) ?_
    have q1 := fun h : List AO => hs.len h
    rw [hll] at q1
    have hchk := rchk_ok s
    have loop : ∀ (v : List AV), clr K43 v = V43 c l.length 0 .junk .junk .junk → (mayL l = true ∧ ∃ x3 x14 h, loopN (exec (callW F) (l.length + 1) c43_17) K43 (l.length + 1) v [tb k n s c] = some (.exit 1, V43 c l.length l.length x3 (.v (.bool false)) x14, h)) ∨
        (mayL l = false ∧ ∃ v' h, loopN (exec (callW F) (l.length + 1) c43_17) K43 (l.length + 1) v [tb k n s c] = some (.ret, v', h) ∧ getO v' [] (.var 2) = .v (.bool false)) := by
      intro v hv
      obtain ⟨e, v', h', g1, g2, g3⟩ := loop_rule0 (call := callW F) (K := l.length + 1) (b := c43_17) (keep := K43)
        (fun i v h => v = V43 c l.length i .junk .junk .junk ∧ mayL (l.drop i) = mayL l)
        (fun e v h => (e = .exit 1 ∧ mayL l = true ∧ ∃ x3 x14, v = V43 c l.length l.length x3 (.v (.bool false)) x14) ∨ (e = .ret ∧ mayL l = false ∧ getO v [] (.var 2) = .v (.bool false)))
        l.length (m := l.length + 1) (v := v) (h := [tb k n s c]) (by omega) ⟨hv, rfl⟩ (by
          rintro i v h hi ⟨rfl, hR⟩
          by_cases hil' : i < l.length
          · have hil : i < es.length := by omega
            have hT := hes.at hil hil'
            have hlt := lt_t hil'
            have he : es[i]? = some es[i] := List.getElem?_eq_getElem hil
            have q2 := fun h : List AO => hs.ia he h
            have hf := hT.facts
            have hd : l.drop i = l[i] :: l.drop (i + 1) := List.drop_eq_getElem_cons hil'
            have hw := wrap_succ hil hm
            have hc := ih l[i] es[i] (by have := IsL.mem_size (k := k) (n := n) (s := s) (List.getElem_mem hil'); omega) hT
            rw [hd, mayL] at hR
            cases hb : mayT l[i] with
            | true =>
              rw [hb] at hc hR
              rw [Bool.true_and] at hR
              refine ⟨.normal, V43 c l.length ((i + 1 : Nat) : Int) (.ptr h.length 0) (.v (.bool true)) (.v (.bool false)), h ++ [.box 24 es[i].cells], ?_, hil', rfl, hR⟩
              simp only [V43, c43_17, c43_12, c43_13, c43_14, c43_16, hlt, q2, hf, hc, hw, q9z, Q0, Q1, Q2, Q3, Q4, Q5, Q6, Q7, Q8, Q9, Q10, Q11, Q12, Q13, Q14, Q15, Q16, Q17, Q18, Q19, Q20, Q21, Q22, Q23, Q24, Q25, Q26, Q27, Q28, Q29, Q30, Q31, Q32, Q33, Q35, Q36, Q37, Q38, Q39, Q40, Q41, Q42, Q43, Q44, Q45, Q46, Q47, Q48, Q49, Q50, Q51, Q52, Q53, Q54, Q55, Q56, Q57, Q58, Q59, Q60, Q61, Q62, Q63, Q64, Q65, Q66, Q67, Q68, Q69, Q70, Q71, Q72, Q73, Q99, Q100, Q101, Q102, Q103, Q74, Q75, Q77, Q78, Q79, Q80, Q81, Q82, Q83, Q84, clr, List.length_nil, List.length_cons, List.getElem?_cons_zero, List.getElem?_cons_succ, Nat.reduceAdd, Nat.zero_add, Nat.add_zero, Nat.reduceLeDiff, Nat.reduceSub, ↓reduceIte, List.drop_succ_cons, List.drop_zero, List.take_succ_cons, List.take_zero, Bool.false_eq_true, List.nil_append, List.cons_append, Bool.not_true, Bool.not_false, cond_true, cond_false, bne, Q85, Q86, Q87, Q88, Q89, Q90, Q91, Q92, Q93, Q94, Q95, Q96, Q97, Q98, Q110, Q111, Q116, Q117, Q118, Q119, Q120, Q121, Q122, Q123, Option.map_some, Option.map_none, Q34]
            | false =>
              rw [hb] at hc hR
              rw [Bool.false_and] at hR
              refine ⟨.ret, [.junk, .junk, .v (.bool false), .ptr h.length 0, .junk, .junk, .junk, .junk, .junk, .junk, c, .v (.int .i64 l.length), .v (.int .i64 i), .v (.bool true), .v (.bool true)], h ++ [.box 24 es[i].cells], ?_, .inr ⟨rfl, hR.symm, rfl⟩⟩
              simp only [V43, c43_17, c43_12, c43_13, c43_14, c43_15, hlt, q2, hf, hc, hw, q9z, Q0, Q1, Q2, Q3, Q4, Q5, Q6, Q7, Q8, Q9, Q10, Q11, Q12, Q13, Q14, Q15, Q16, Q17, Q18, Q19, Q20, Q21, Q22, Q23, Q24, Q25, Q26, Q27, Q28, Q29, Q30, Q31, Q32, Q33, Q35, Q36, Q37, Q38, Q39, Q40, Q41, Q42, Q43, Q44, Q45, Q46, Q47, Q48, Q49, Q50, Q51, Q52, Q53, Q54, Q55, Q56, Q57, Q58, Q59, Q60, Q61, Q62, Q63, Q64, Q65, Q66, Q67, Q68, Q69, Q70, Q71, Q72, Q73, Q99, Q100, Q101, Q102, Q103, Q74, Q75, Q77, Q78, Q79, Q80, Q81, Q82, Q83, Q84, clr, List.length_nil, List.length_cons, List.getElem?_cons_zero, List.getElem?_cons_succ, Nat.reduceAdd, Nat.zero_add, Nat.add_zero, Nat.reduceLeDiff, Nat.reduceSub, ↓reduceIte, List.drop_succ_cons, List.drop_zero, List.take_succ_cons, List.take_zero, Bool.false_eq_true, List.nil_append, List.cons_append, Bool.not_true, Bool.not_false, cond_true, cond_false, bne, Q85, Q86, Q87, Q88, Q89, Q90, Q91, Q92, Q93, Q94, Q95, Q96, Q97, Q98, Q110, Q111, Q116, Q117, Q118, Q119, Q120, Q121, Q122, Q123, Option.map_some, Option.map_none, Q34]
          · have hie : i = l.length := by omega
            subst hie
            have hlt := lt_f (n := l.length)
            rw [List.drop_of_length_le (Nat.le_refl _), mayL] at hR
            refine ⟨.exit 1, V43 c l.length l.length .junk (.v (.bool false)) .junk, h, ?_, .inl ⟨rfl, hR.symm, _, _, rfl⟩⟩
            simp only [V43, c43_17, c43_12, hlt, Q0, Q1, Q2, Q3, Q4, Q5, Q6, Q7, Q8, Q9, Q10, Q11, Q12, Q13, Q14, Q15, Q16, Q17, Q18, Q19, Q20, Q21, Q22, Q23, Q24, Q25, Q26, Q27, Q28, Q29, Q30, Q31, Q32, Q33, Q35, Q36, Q37, Q38, Q39, Q40, Q41, Q42, Q43, Q44, Q45, Q46, Q47, Q48, Q49, Q50, Q51, Q52, Q53, Q54, Q55, Q56, Q57, Q58, Q59, Q60, Q61, Q62, Q63, Q64, Q65, Q66, Q67, Q68, Q69, Q70, Q71, Q72, Q73, Q99, Q100, Q101, Q102, Q103, Q74, Q75, Q77, Q78, Q79, Q80, Q81, Q82, Q83, Q84, clr, List.length_nil, List.length_cons, List.getElem?_cons_zero, List.getElem?_cons_succ, Nat.reduceAdd, Nat.zero_add, Nat.add_zero, Nat.reduceLeDiff, Nat.reduceSub, ↓reduceIte, List.drop_succ_cons, List.drop_zero, List.take_succ_cons, List.take_zero, Bool.false_eq_true, List.nil_append, List.cons_append, Bool.not_true, Bool.not_false, cond_true, cond_false, bne, Q85, Q86, Q87, Q88, Q89, Q90, Q91, Q92, Q93, Q94, Q95, Q96, Q97, Q98, Q110, Q111, Q116, Q117, Q118, Q119, Q120, Q121, Q122, Q123, Option.map_some, Option.map_none, Q34])
      rcases g3 with ⟨rfl, h1, x3, x14, rfl⟩ | ⟨rfl, h1, h2⟩
      · exact .inl ⟨h1, x3, x14, h', g1⟩
      · exact .inr ⟨h1, v', h', g1, h2⟩
    rw [mayT]
    rw [show c43.body = (.seq (.region [] [] c43_0) (.seq (.seq (.region [] [] c43_1) (.block 0 (.seq (.region [] [] c43_2) (.cond (.var 5) (.seq (.region [] [] c43_3) .ret) (.seq (.region [] [] c43_4) (.cond (.var 6) (.seq (.region [] [] c43_5) .ret) (.seq (.region [] [] c43_6) (.cond (.var 7) (.seq (.region [] [] c43_7) .ret) (.seq (.region [] [] c43_8) (.cond (.var 8) (.seq (.seq (.region [] [] c43_9) (.cond (.var 9) (.seq (.region [] [] c43_10) .ret) .skip)) (.seq (.seq (.region [] [] c43_11) (.block 1 (.loop K43 [] c43_17))) (.seq (.region [] [] c43_18) .ret))) .skip)))))))))) (.seq (.region [] [] c43_19) .ret))) from rfl, show c43.res = [.var 2] from rfl]
    rw [show start c43 [.agg [.v (.int .i64 k), .v (.string s), .v (.int .i64 n), c]] = [.agg [.v (.int .i64 k), .v (.string s), .v (.int .i64 n), c], .v undef, .v undef, .v undef, .v undef, .v undef, .v undef, .v undef, .v undef, .v undef, .v undef, .v undef, .v undef, .v undef, .v undef] from rfl]
    generalize c43_17 = bb at loop ⊢
    have hA2 : decide ((l.length : Int) < 1) = ((l.length : Int) == 0) := by
      by_cases e : l.length = 0
      · rw [e]; rfl
      · rw [decide_eq_false (by omega)]; symm; simp only [beq_eq_false_iff_ne]; omega
    have hE2 : decide ((l.length : Int) > 16) = !decide ((l.length : Int) ≤ 16) := by
      by_cases e : (l.length : Int) ≤ 16
      · rw [decide_eq_true e, decide_eq_false (by omega)]; rfl
      · rw [decide_eq_false e, decide_eq_true (by omega)]; rfl
    generalize hA : ((l.length : Int) == 0) = A at hA2 ⊢
    generalize hB : noS s = B
    unfold noS at hB
    generalize hC : decide (n ≥ 0) = C
    generalize hD : (n == 0) = D
    generalize hE : decide ((l.length : Int) ≤ 16) = E at hE2 ⊢
    generalize chkS s = G at hchk ⊢
    cases h1 : (k == 1) with
    | true => cases A <;> cases B <;> cases C <;> simp only [c43_0, c43_1, c43_2, c43_3, tbx, tb0, tb1, tb2, tb3, q1, h1, hA, hB, hC, Bool.true_and, Bool.false_and, Bool.and_self, Q0, Q1, Q2, Q3, Q4, Q5, Q6, Q7, Q8, Q9, Q10, Q11, Q12, Q13, Q14, Q15, Q16, Q17, Q18, Q19, Q20, Q21, Q22, Q23, Q24, Q25, Q26, Q27, Q28, Q29, Q30, Q31, Q32, Q33, Q35, Q36, Q37, Q38, Q39, Q40, Q41, Q42, Q43, Q44, Q45, Q46, Q47, Q48, Q49, Q50, Q51, Q52, Q53, Q54, Q55, Q56, Q57, Q58, Q59, Q60, Q61, Q62, Q63, Q64, Q65, Q66, Q67, Q68, Q69, Q70, Q71, Q72, Q73, Q99, Q100, Q101, Q102, Q103, Q74, Q75, Q77, Q78, Q79, Q80, Q81, Q82, Q83, Q84, clr, List.length_nil, List.length_cons, List.getElem?_cons_zero, List.getElem?_cons_succ, Nat.reduceAdd, Nat.zero_add, Nat.add_zero, Nat.reduceLeDiff, Nat.reduceSub, ↓reduceIte, List.drop_succ_cons, List.drop_zero, List.take_succ_cons, List.take_zero, Bool.false_eq_true, List.nil_append, List.cons_append, Bool.not_true, Bool.not_false, cond_true, cond_false, bne, Q85, Q86, Q87, Q88, Q89, Q90, Q91, Q92, Q93, Q94, Q95, Q96, Q97, Q98, Q110, Q111, Q116, Q117, Q118, Q119, Q120, Q121, Q122, Q123, Option.map_some, Option.map_none]
    | false =>
    cases h2 : (k == 2) with
    | true => cases A <;> cases D <;> cases G <;> simp only [c43_0, c43_1, c43_2, c43_3, c43_4, c43_5, tbx, tb0, tb1, tb2, tb3, q1, h1, h2, hA, hD, hchk, snap_str, Bool.true_and, Bool.false_and, Q0, Q1, Q2, Q3, Q4, Q5, Q6, Q7, Q8, Q9, Q10, Q11, Q12, Q13, Q14, Q15, Q16, Q17, Q18, Q19, Q20, Q21, Q22, Q23, Q24, Q25, Q26, Q27, Q28, Q29, Q30, Q31, Q32, Q33, Q35, Q36, Q37, Q38, Q39, Q40, Q41, Q42, Q43, Q44, Q45, Q46, Q47, Q48, Q49, Q50, Q51, Q52, Q53, Q54, Q55, Q56, Q57, Q58, Q59, Q60, Q61, Q62, Q63, Q64, Q65, Q66, Q67, Q68, Q69, Q70, Q71, Q72, Q73, Q99, Q100, Q101, Q102, Q103, Q74, Q75, Q77, Q78, Q79, Q80, Q81, Q82, Q83, Q84, clr, List.length_nil, List.length_cons, List.getElem?_cons_zero, List.getElem?_cons_succ, Nat.reduceAdd, Nat.zero_add, Nat.add_zero, Nat.reduceLeDiff, Nat.reduceSub, ↓reduceIte, List.drop_succ_cons, List.drop_zero, List.take_succ_cons, List.take_zero, Bool.false_eq_true, List.nil_append, List.cons_append, Bool.not_true, Bool.not_false, cond_true, cond_false, bne, Q85, Q86, Q87, Q88, Q89, Q90, Q91, Q92, Q93, Q94, Q95, Q96, Q97, Q98, Q110, Q111, Q116, Q117, Q118, Q119, Q120, Q121, Q122, Q123, Option.map_some, Option.map_none]
    | false =>
    cases h3 : (k == 3) with
    | true => cases A <;> cases B <;> simp only [c43_0, c43_1, c43_2, c43_3, c43_4, c43_5, c43_6, c43_7, tbx, tb0, tb1, tb2, tb3, q1, h1, h2, h3, hA, hB, Bool.true_and, Bool.false_and, Q0, Q1, Q2, Q3, Q4, Q5, Q6, Q7, Q8, Q9, Q10, Q11, Q12, Q13, Q14, Q15, Q16, Q17, Q18, Q19, Q20, Q21, Q22, Q23, Q24, Q25, Q26, Q27, Q28, Q29, Q30, Q31, Q32, Q33, Q35, Q36, Q37, Q38, Q39, Q40, Q41, Q42, Q43, Q44, Q45, Q46, Q47, Q48, Q49, Q50, Q51, Q52, Q53, Q54, Q55, Q56, Q57, Q58, Q59, Q60, Q61, Q62, Q63, Q64, Q65, Q66, Q67, Q68, Q69, Q70, Q71, Q72, Q73, Q99, Q100, Q101, Q102, Q103, Q74, Q75, Q77, Q78, Q79, Q80, Q81, Q82, Q83, Q84, clr, List.length_nil, List.length_cons, List.getElem?_cons_zero, List.getElem?_cons_succ, Nat.reduceAdd, Nat.zero_add, Nat.add_zero, Nat.reduceLeDiff, Nat.reduceSub, ↓reduceIte, List.drop_succ_cons, List.drop_zero, List.take_succ_cons, List.take_zero, Bool.false_eq_true, List.nil_append, List.cons_append, Bool.not_true, Bool.not_false, cond_true, cond_false, bne, Q85, Q86, Q87, Q88, Q89, Q90, Q91, Q92, Q93, Q94, Q95, Q96, Q97, Q98, Q110, Q111, Q116, Q117, Q118, Q119, Q120, Q121, Q122, Q123, Option.map_some, Option.map_none]
    | false =>
    cases h4 : (k == 4) with
    | false => simp only [c43_0, c43_1, c43_2, c43_3, c43_4, c43_5, c43_6, c43_7, c43_8, c43_19, tbx, tb0, tb1, tb2, tb3, q1, h1, h2, h3, h4, Q0, Q1, Q2, Q3, Q4, Q5, Q6, Q7, Q8, Q9, Q10, Q11, Q12, Q13, Q14, Q15, Q16, Q17, Q18, Q19, Q20, Q21, Q22, Q23, Q24, Q25, Q26, Q27, Q28, Q29, Q30, Q31, Q32, Q33, Q35, Q36, Q37, Q38, Q39, Q40, Q41, Q42, Q43, Q44, Q45, Q46, Q47, Q48, Q49, Q50, Q51, Q52, Q53, Q54, Q55, Q56, Q57, Q58, Q59, Q60, Q61, Q62, Q63, Q64, Q65, Q66, Q67, Q68, Q69, Q70, Q71, Q72, Q73, Q99, Q100, Q101, Q102, Q103, Q74, Q75, Q77, Q78, Q79, Q80, Q81, Q82, Q83, Q84, clr, List.length_nil, List.length_cons, List.getElem?_cons_zero, List.getElem?_cons_succ, Nat.reduceAdd, Nat.zero_add, Nat.add_zero, Nat.reduceLeDiff, Nat.reduceSub, ↓reduceIte, List.drop_succ_cons, List.drop_zero, List.take_succ_cons, List.take_zero, Bool.false_eq_true, List.nil_append, List.cons_append, Bool.not_true, Bool.not_false, cond_true, cond_false, bne, Q85, Q86, Q87, Q88, Q89, Q90, Q91, Q92, Q93, Q94, Q95, Q96, Q97, Q98, Q110, Q111, Q116, Q117, Q118, Q119, Q120, Q121, Q122, Q123, Option.map_some, Option.map_none]
    | true =>
      have lp := loop [.agg [.v (.int .i64 k), .v (.string s), .v (.int .i64 n), c], .ptr 0 0, .v (.bool false), .v undef, .v (.int .i64 k), .v (.bool false), .v (.bool false), .v (.bool false), .v (.bool true), .v (.bool false), c, .v (.int .i64 l.length), .v (.int .i64 0), .v undef, .v undef] rfl
      rcases lp with ⟨p0, x3, x14, h', p1⟩ | ⟨p0, v', h', p1, p2⟩
      · rw [p0]
        cases A <;> cases D <;> cases E <;> cases G <;> simp only [c43_0, c43_1, c43_2, c43_3, c43_4, c43_5, c43_6, c43_7, c43_8, c43_9, c43_10, c43_11, c43_18, V43, tbx, tb0, tb1, tb2, tb3, q1, h1, h2, h3, h4, hA2, hD, hE2, hchk, p1, snap_str, Bool.true_and, Bool.false_and, Q0, Q1, Q2, Q3, Q4, Q5, Q6, Q7, Q8, Q9, Q10, Q11, Q12, Q13, Q14, Q15, Q16, Q17, Q18, Q19, Q20, Q21, Q22, Q23, Q24, Q25, Q26, Q27, Q28, Q29, Q30, Q31, Q32, Q33, Q35, Q36, Q37, Q38, Q39, Q40, Q41, Q42, Q43, Q44, Q45, Q46, Q47, Q48, Q49, Q50, Q51, Q52, Q53, Q54, Q55, Q56, Q57, Q58, Q59, Q60, Q61, Q62, Q63, Q64, Q65, Q66, Q67, Q68, Q69, Q70, Q71, Q72, Q73, Q99, Q100, Q101, Q102, Q103, Q74, Q75, Q77, Q78, Q79, Q80, Q81, Q82, Q83, Q84, clr, List.length_nil, List.length_cons, List.getElem?_cons_zero, List.getElem?_cons_succ, Nat.reduceAdd, Nat.zero_add, Nat.add_zero, Nat.reduceLeDiff, Nat.reduceSub, ↓reduceIte, List.drop_succ_cons, List.drop_zero, List.take_succ_cons, List.take_zero, Bool.false_eq_true, List.nil_append, List.cons_append, Bool.not_true, Bool.not_false, cond_true, cond_false, bne, Q85, Q86, Q87, Q88, Q89, Q90, Q91, Q92, Q93, Q94, Q95, Q96, Q97, Q98, Q110, Q111, Q116, Q117, Q118, Q119, Q120, Q121, Q122, Q123, Option.map_some, Option.map_none]
      · rw [p0]
        cases A <;> cases D <;> cases E <;> cases G <;> simp only [c43_0, c43_1, c43_2, c43_3, c43_4, c43_5, c43_6, c43_7, c43_8, c43_9, c43_10, c43_11, c43_18, V43, tbx, tb0, tb1, tb2, tb3, q1, h1, h2, h3, h4, hA2, hD, hE2, hchk, p1, p2, snap_str, Bool.true_and, Bool.false_and, Q0, Q1, Q2, Q3, Q4, Q5, Q6, Q7, Q8, Q9, Q10, Q11, Q12, Q13, Q14, Q15, Q16, Q17, Q18, Q19, Q20, Q21, Q22, Q23, Q24, Q25, Q26, Q27, Q28, Q29, Q30, Q31, Q32, Q33, Q35, Q36, Q37, Q38, Q39, Q40, Q41, Q42, Q43, Q44, Q45, Q46, Q47, Q48, Q49, Q50, Q51, Q52, Q53, Q54, Q55, Q56, Q57, Q58, Q59, Q60, Q61, Q62, Q63, Q64, Q65, Q66, Q67, Q68, Q69, Q70, Q71, Q72, Q73, Q99, Q100, Q101, Q102, Q103, Q74, Q75, Q77, Q78, Q79, Q80, Q81, Q82, Q83, Q84, clr, List.length_nil, List.length_cons, List.getElem?_cons_zero, List.getElem?_cons_succ, Nat.reduceAdd, Nat.zero_add, Nat.add_zero, Nat.reduceLeDiff, Nat.reduceSub, ↓reduceIte, List.drop_succ_cons, List.drop_zero, List.take_succ_cons, List.take_zero, Bool.false_eq_true, List.nil_append, List.cons_append, Bool.not_true, Bool.not_false, cond_true, cond_false, bne, Q85, Q86, Q87, Q88, Q89, Q90, Q91, Q92, Q93, Q94, Q95, Q96, Q97, Q98, Q110, Q111, Q116, Q117, Q118, Q119, Q120, Q121, Q122, Q123, Option.map_some, Option.map_none]

def checkT (t : Tm) : Int := if mayT t = true then (if decide (depI t > 60) = true then 3 else 0) else 30
theorem check_ok (t : Tm) (a : AV) (ha : IsT a t) : callW F 22 [a] [] = some (.v (.int .i64 (checkT t)), []) := by
  refine callW_pure (c := c22) rfl rfl 0 ?_
  have hf := ha.facts
  have h1 := may_ok _ t a (Nat.lt_succ_self _) ha
  have h2 := deep_ok _ t a (Nat.lt_succ_self _) ha
  have e1 : Q76 [.box 24 a.cells] true 4 (.ptr 0 0) = some a := hf.2.2.2.1 [] 24
  unfold checkT
  cases h3 : mayT t with
  | false => rw [h3] at h1; simp only [c22, start, List.replicate, c22_0, c22_1, c22_2, hf, e1, h1, Q0, Q1, Q2, Q3, Q4, Q5, Q6, Q7, Q8, Q9, Q10, Q11, Q12, Q13, Q14, Q15, Q16, Q17, Q18, Q19, Q20, Q21, Q22, Q23, Q24, Q25, Q26, Q27, Q28, Q29, Q30, Q31, Q32, Q33, Q35, Q36, Q37, Q38, Q39, Q40, Q41, Q42, Q43, Q44, Q45, Q46, Q47, Q48, Q49, Q50, Q51, Q52, Q53, Q54, Q55, Q56, Q57, Q58, Q59, Q60, Q61, Q62, Q63, Q64, Q65, Q66, Q67, Q68, Q69, Q70, Q71, Q72, Q73, Q99, Q100, Q101, Q102, Q103, Q74, Q75, Q77, Q78, Q79, Q80, Q81, Q82, Q83, Q84, clr, List.length_nil, List.length_cons, List.getElem?_cons_zero, List.getElem?_cons_succ, Nat.reduceAdd, Nat.zero_add, Nat.add_zero, Nat.reduceLeDiff, Nat.reduceSub, ↓reduceIte, List.drop_succ_cons, List.drop_zero, List.take_succ_cons, List.take_zero, Bool.false_eq_true, List.nil_append, List.cons_append, Bool.not_true, Bool.not_false, cond_true, cond_false, bne, Q85, Q86, Q87, Q88, Q89, Q90, Q91, Q92, Q93, Q94, Q95, Q96, Q97, Q98, Q110, Q111, Q116, Q117, Q118, Q119, Q120, Q121, Q122, Q123, Option.map_some, Option.map_none, Q34]
  | true =>
    rw [h3] at h1
    cases h4 : decide (depI t > 60) <;> simp only [c22, start, List.replicate, c22_0, c22_1, c22_3, c22_4, c22_5, hf, e1, h1, h2, h4, Q0, Q1, Q2, Q3, Q4, Q5, Q6, Q7, Q8, Q9, Q10, Q11, Q12, Q13, Q14, Q15, Q16, Q17, Q18, Q19, Q20, Q21, Q22, Q23, Q24, Q25, Q26, Q27, Q28, Q29, Q30, Q31, Q32, Q33, Q35, Q36, Q37, Q38, Q39, Q40, Q41, Q42, Q43, Q44, Q45, Q46, Q47, Q48, Q49, Q50, Q51, Q52, Q53, Q54, Q55, Q56, Q57, Q58, Q59, Q60, Q61, Q62, Q63, Q64, Q65, Q66, Q67, Q68, Q69, Q70, Q71, Q72, Q73, Q99, Q100, Q101, Q102, Q103, Q74, Q75, Q77, Q78, Q79, Q80, Q81, Q82, Q83, Q84, clr, List.length_nil, List.length_cons, List.getElem?_cons_zero, List.getElem?_cons_succ, Nat.reduceAdd, Nat.zero_add, Nat.add_zero, Nat.reduceLeDiff, Nat.reduceSub, ↓reduceIte, List.drop_succ_cons, List.drop_zero, List.take_succ_cons, List.take_zero, Bool.false_eq_true, List.nil_append, List.cons_append, Bool.not_true, Bool.not_false, cond_true, cond_false, bne, Q85, Q86, Q87, Q88, Q89, Q90, Q91, Q92, Q93, Q94, Q95, Q96, Q97, Q98, Q110, Q111, Q116, Q117, Q118, Q119, Q120, Q121, Q122, Q123, Option.map_some, Option.map_none, Q34]
theorem rcheck_ok (t : Tm) (a : AV) (ha : IsT a t) : callW F 18 [a] [] = some (.v (.int .i64 (checkT t)), []) := by
  refine callW_pure (c := c18) rfl rfl 0 ?_
  have hf := ha.facts
  have h1 := rmay_ok _ t a (Nat.lt_succ_self _) ha
  have h2 := rdeep_ok _ t a (Nat.lt_succ_self _) ha
  have e1 : Q76 [.box 24 a.cells] true 4 (.ptr 0 0) = some a := hf.2.2.2.1 [] 24
  unfold checkT
  cases h3 : mayT t with
  | false => rw [h3] at h1; simp only [c18, start, List.replicate, c18_0, c18_1, c18_2, hf, e1, h1, Q0, Q1, Q2, Q3, Q4, Q5, Q6, Q7, Q8, Q9, Q10, Q11, Q12, Q13, Q14, Q15, Q16, Q17, Q18, Q19, Q20, Q21, Q22, Q23, Q24, Q25, Q26, Q27, Q28, Q29, Q30, Q31, Q32, Q33, Q35, Q36, Q37, Q38, Q39, Q40, Q41, Q42, Q43, Q44, Q45, Q46, Q47, Q48, Q49, Q50, Q51, Q52, Q53, Q54, Q55, Q56, Q57, Q58, Q59, Q60, Q61, Q62, Q63, Q64, Q65, Q66, Q67, Q68, Q69, Q70, Q71, Q72, Q73, Q99, Q100, Q101, Q102, Q103, Q74, Q75, Q77, Q78, Q79, Q80, Q81, Q82, Q83, Q84, clr, List.length_nil, List.length_cons, List.getElem?_cons_zero, List.getElem?_cons_succ, Nat.reduceAdd, Nat.zero_add, Nat.add_zero, Nat.reduceLeDiff, Nat.reduceSub, ↓reduceIte, List.drop_succ_cons, List.drop_zero, List.take_succ_cons, List.take_zero, Bool.false_eq_true, List.nil_append, List.cons_append, Bool.not_true, Bool.not_false, cond_true, cond_false, bne, Q85, Q86, Q87, Q88, Q89, Q90, Q91, Q92, Q93, Q94, Q95, Q96, Q97, Q98, Q110, Q111, Q116, Q117, Q118, Q119, Q120, Q121, Q122, Q123, Option.map_some, Option.map_none, Q34]
  | true =>
    rw [h3] at h1
    cases h4 : decide (depI t > 60) <;> simp only [c18, start, List.replicate, c18_0, c18_1, c18_3, c18_4, c18_5, hf, e1, h1, h2, h4, Q0, Q1, Q2, Q3, Q4, Q5, Q6, Q7, Q8, Q9, Q10, Q11, Q12, Q13, Q14, Q15, Q16, Q17, Q18, Q19, Q20, Q21, Q22, Q23, Q24, Q25, Q26, Q27, Q28, Q29, Q30, Q31, Q32, Q33, Q35, Q36, Q37, Q38, Q39, Q40, Q41, Q42, Q43, Q44, Q45, Q46, Q47, Q48, Q49, Q50, Q51, Q52, Q53, Q54, Q55, Q56, Q57, Q58, Q59, Q60, Q61, Q62, Q63, Q64, Q65, Q66, Q67, Q68, Q69, Q70, Q71, Q72, Q73, Q99, Q100, Q101, Q102, Q103, Q74, Q75, Q77, Q78, Q79, Q80, Q81, Q82, Q83, Q84, clr, List.length_nil, List.length_cons, List.getElem?_cons_zero, List.getElem?_cons_succ, Nat.reduceAdd, Nat.zero_add, Nat.add_zero, Nat.reduceLeDiff, Nat.reduceSub, ↓reduceIte, List.drop_succ_cons, List.drop_zero, List.take_succ_cons, List.take_zero, Bool.false_eq_true, List.nil_append, List.cons_append, Bool.not_true, Bool.not_false, cond_true, cond_false, bne, Q85, Q86, Q87, Q88, Q89, Q90, Q91, Q92, Q93, Q94, Q95, Q96, Q97, Q98, Q110, Q111, Q116, Q117, Q118, Q119, Q120, Q121, Q122, Q123, Option.map_some, Option.map_none, Q34]
end Go.AE.YtgcbaefclkfnoaaDoor
end

/-! The examples (live). -/
section
namespace Go.AE.YtgcbaefclkfnoaaDoor
open Go Go.AE Go.Proofs.YtgcbaefclkfnoaaDoor
set_option linter.unusedVariables false
set_option linter.unusedSimpArgs false
set_option maxRecDepth 1000000
theorem live_n : callN F 14 12 [] [] = some (.v (.bool true), []) := by kernel_rfl
end Go.AE.YtgcbaefclkfnoaaDoor
end

/-! Whether terms are too great; what comes in. -/
section
set_option linter.unusedVariables false
set_option linter.unusedSimpArgs false
namespace Go.AE.YtgcbaefclkfnoaaDoor
open Go Go.AE Go.Proofs.YtgcbaefclkfnoaaDoor

theorem live_ok : callW F 12 [] [] = some (.v (.bool true), []) := callW_iff.2 ⟨_, live_n⟩
def fewB (t : Tm) : Bool := decide (fewT t 3000 ≥ 0)
def bigT (l : List Tm) : Bool := !(l.all fewB)
def V13 (c : AV) (n i : Int) (x2 x6 x7 : AV) : List AV := [.junk, .junk, x2, c, .v (.int .i64 n), .v (.int .i64 i), x6, x7]
def K13 : List Bool := [false, false, false, true, true, true, false, false]
theorem big_ok {c : AV} {l : List Tm} (hc : IsL c l) : callW F 13 [c] [] = some (.v (.bool (bigT l)), []) := by
  obtain ⟨es, hs, hes, hm⟩ := hc.sl
  have hll := hes.length
  refine callW_pure (c := c13) rfl rfl (l.length + 1) ?_
  have q1 := fun h : List AO => hs.len h
  rw [hll] at q1
  obtain ⟨e, v', h', g1, g2, g3⟩ := loop_rule0 (call := callW F) (K := l.length + 1) (b := c13_7) (keep := K13)
    (fun i v h => v = V13 c l.length i .junk .junk .junk ∧ bigT (l.drop i) = bigT l)
    (fun e v h => (e = .exit 0 ∧ bigT l = false ∧ ∃ x2 x7, v = V13 c l.length l.length x2 (.v (.bool false)) x7) ∨ (e = .ret ∧ bigT l = true ∧ getO v [] (.var 1) = .v (.bool true)))
    l.length (m := l.length + 1) (v := [c, .v (.bool false), .v undef, c, .v (.int .i64 l.length), .v (.int .i64 0), .v undef, .v undef]) (h := []) (by omega) ⟨rfl, rfl⟩ (by
      rintro i v h hi ⟨rfl, hR⟩
      by_cases hil' : i < l.length
      · have hil : i < es.length := by omega
        have hT := hes.at hil hil'
        have hlt := lt_t hil'
        have he : es[i]? = some es[i] := List.getElem?_eq_getElem hil
        have q2 := fun h : List AO => hs.ia he h
        have hf := hT.facts
        have hd : l.drop i = l[i] :: l.drop (i + 1) := List.drop_eq_getElem_cons hil'
        have hw := wrap_succ hil hm
        have hc := few_ok l[i] es[i] 3000 hT
        rw [show decide (fewT l[i] 3000 ≥ 0) = fewB l[i] from rfl] at hc
        rw [hd, bigT, List.all_cons] at hR
        cases hb : fewB l[i] with
        | true =>
          rw [hb] at hc hR
          rw [Bool.true_and] at hR
          refine ⟨.normal, V13 c l.length ((i + 1 : Nat) : Int) (.ptr h.length 0) (.v (.bool true)) (.v (.bool false)), h ++ [.box 24 es[i].cells], ?_, hil', rfl, hR⟩
          simp only [V13, c13_7, c13_2, c13_3, c13_4, c13_6, hlt, q2, hf, hc, hw, snap_int, q9z, Q0, Q1, Q2, Q3, Q4, Q5, Q6, Q7, Q8, Q9, Q10, Q11, Q12, Q13, Q14, Q15, Q16, Q17, Q18, Q19, Q20, Q21, Q22, Q23, Q24, Q25, Q26, Q27, Q28, Q29, Q30, Q31, Q32, Q33, Q35, Q36, Q37, Q38, Q39, Q40, Q41, Q42, Q43, Q44, Q45, Q46, Q47, Q48, Q49, Q50, Q51, Q52, Q53, Q54, Q55, Q56, Q57, Q58, Q59, Q60, Q61, Q62, Q63, Q64, Q65, Q66, Q67, Q68, Q69, Q70, Q71, Q72, Q73, Q99, Q100, Q101, Q102, Q103, Q74, Q75, Q77, Q78, Q79, Q80, Q81, Q82, Q83, Q84, clr, List.length_nil, List.length_cons, List.getElem?_cons_zero, List.getElem?_cons_succ, Nat.reduceAdd, Nat.zero_add, Nat.add_zero, Nat.reduceLeDiff, Nat.reduceSub, ↓reduceIte, List.drop_succ_cons, List.drop_zero, List.take_succ_cons, List.take_zero, Bool.false_eq_true, List.nil_append, List.cons_append, Bool.not_true, Bool.not_false, cond_true, cond_false, bne, Q85, Q86, Q87, Q88, Q89, Q90, Q91, Q92, Q93, Q94, Q95, Q96, Q97, Q98, Q110, Q111, Q116, Q117, Q118, Q119, Q120, Q121, Q122, Q123, Option.map_some, Option.map_none, Q34]
        | false =>
          rw [hb] at hc hR
          rw [Bool.false_and] at hR
          refine ⟨.ret, [.junk, .v (.bool true), .ptr h.length 0, c, .v (.int .i64 l.length), .v (.int .i64 i), .v (.bool true), .v (.bool true)], h ++ [.box 24 es[i].cells], ?_, .inr ⟨rfl, hR.symm, rfl⟩⟩
          simp only [V13, c13_7, c13_2, c13_3, c13_4, c13_5, hlt, q2, hf, hc, hw, snap_int, q9z, Q0, Q1, Q2, Q3, Q4, Q5, Q6, Q7, Q8, Q9, Q10, Q11, Q12, Q13, Q14, Q15, Q16, Q17, Q18, Q19, Q20, Q21, Q22, Q23, Q24, Q25, Q26, Q27, Q28, Q29, Q30, Q31, Q32, Q33, Q35, Q36, Q37, Q38, Q39, Q40, Q41, Q42, Q43, Q44, Q45, Q46, Q47, Q48, Q49, Q50, Q51, Q52, Q53, Q54, Q55, Q56, Q57, Q58, Q59, Q60, Q61, Q62, Q63, Q64, Q65, Q66, Q67, Q68, Q69, Q70, Q71, Q72, Q73, Q99, Q100, Q101, Q102, Q103, Q74, Q75, Q77, Q78, Q79, Q80, Q81, Q82, Q83, Q84, clr, List.length_nil, List.length_cons, List.getElem?_cons_zero, List.getElem?_cons_succ, Nat.reduceAdd, Nat.zero_add, Nat.add_zero, Nat.reduceLeDiff, Nat.reduceSub, ↓reduceIte, List.drop_succ_cons, List.drop_zero, List.take_succ_cons, List.take_zero, Bool.false_eq_true, List.nil_append, List.cons_append, Bool.not_true, Bool.not_false, cond_true, cond_false, bne, Q85, Q86, Q87, Q88, Q89, Q90, Q91, Q92, Q93, Q94, Q95, Q96, Q97, Q98, Q110, Q111, Q116, Q117, Q118, Q119, Q120, Q121, Q122, Q123, Option.map_some, Option.map_none, Q34]
      · have hie : i = l.length := by omega
        subst hie
        have hlt := lt_f (n := l.length)
        rw [List.drop_of_length_le (Nat.le_refl _)] at hR
        refine ⟨.exit 0, V13 c l.length l.length .junk (.v (.bool false)) .junk, h, ?_, .inl ⟨rfl, hR.symm, _, _, rfl⟩⟩
        simp only [V13, c13_7, c13_2, hlt, Q0, Q1, Q2, Q3, Q4, Q5, Q6, Q7, Q8, Q9, Q10, Q11, Q12, Q13, Q14, Q15, Q16, Q17, Q18, Q19, Q20, Q21, Q22, Q23, Q24, Q25, Q26, Q27, Q28, Q29, Q30, Q31, Q32, Q33, Q35, Q36, Q37, Q38, Q39, Q40, Q41, Q42, Q43, Q44, Q45, Q46, Q47, Q48, Q49, Q50, Q51, Q52, Q53, Q54, Q55, Q56, Q57, Q58, Q59, Q60, Q61, Q62, Q63, Q64, Q65, Q66, Q67, Q68, Q69, Q70, Q71, Q72, Q73, Q99, Q100, Q101, Q102, Q103, Q74, Q75, Q77, Q78, Q79, Q80, Q81, Q82, Q83, Q84, clr, List.length_nil, List.length_cons, List.getElem?_cons_zero, List.getElem?_cons_succ, Nat.reduceAdd, Nat.zero_add, Nat.add_zero, Nat.reduceLeDiff, Nat.reduceSub, ↓reduceIte, List.drop_succ_cons, List.drop_zero, List.take_succ_cons, List.take_zero, Bool.false_eq_true, List.nil_append, List.cons_append, Bool.not_true, Bool.not_false, cond_true, cond_false, bne, Q85, Q86, Q87, Q88, Q89, Q90, Q91, Q92, Q93, Q94, Q95, Q96, Q97, Q98, Q110, Q111, Q116, Q117, Q118, Q119, Q120, Q121, Q122, Q123, Option.map_some, Option.map_none, Q34])
  rw [show c13.body = (.seq (.region [] [] c13_0) (.seq (.seq (.region [] [] c13_1) (.block 0 (.loop K13 [] c13_7))) (.seq (.region [] [] c13_8) .ret))) from rfl, show c13.res = [.var 1] from rfl]
  rw [show start c13 [c] = [c, .v undef, .v undef, .v undef, .v undef, .v undef, .v undef, .v undef] from rfl]
  rcases g3 with ⟨rfl, h1, x2, x7, rfl⟩ | ⟨rfl, h1, h2⟩
  · rw [h1]
    generalize c13_7 = bb at g1 ⊢
    simp only [V13, c13_0, c13_1, c13_8, q1, g1, Q0, Q1, Q2, Q3, Q4, Q5, Q6, Q7, Q8, Q9, Q10, Q11, Q12, Q13, Q14, Q15, Q16, Q17, Q18, Q19, Q20, Q21, Q22, Q23, Q24, Q25, Q26, Q27, Q28, Q29, Q30, Q31, Q32, Q33, Q35, Q36, Q37, Q38, Q39, Q40, Q41, Q42, Q43, Q44, Q45, Q46, Q47, Q48, Q49, Q50, Q51, Q52, Q53, Q54, Q55, Q56, Q57, Q58, Q59, Q60, Q61, Q62, Q63, Q64, Q65, Q66, Q67, Q68, Q69, Q70, Q71, Q72, Q73, Q99, Q100, Q101, Q102, Q103, Q74, Q75, Q77, Q78, Q79, Q80, Q81, Q82, Q83, Q84, clr, List.length_nil, List.length_cons, List.getElem?_cons_zero, List.getElem?_cons_succ, Nat.reduceAdd, Nat.zero_add, Nat.add_zero, Nat.reduceLeDiff, Nat.reduceSub, ↓reduceIte, List.drop_succ_cons, List.drop_zero, List.take_succ_cons, List.take_zero, Bool.false_eq_true, List.nil_append, List.cons_append, Bool.not_true, Bool.not_false, cond_true, cond_false, bne, Q85, Q86, Q87, Q88, Q89, Q90, Q91, Q92, Q93, Q94, Q95, Q96, Q97, Q98, Q110, Q111, Q116, Q117, Q118, Q119, Q120, Q121, Q122, Q123, Option.map_some, Option.map_none, Q34]
  · rw [h1]
    generalize c13_7 = bb at g1 ⊢
    simp only [V13, c13_0, c13_1, c13_8, q1, g1, h2, Q0, Q1, Q2, Q3, Q4, Q5, Q6, Q7, Q8, Q9, Q10, Q11, Q12, Q13, Q14, Q15, Q16, Q17, Q18, Q19, Q20, Q21, Q22, Q23, Q24, Q25, Q26, Q27, Q28, Q29, Q30, Q31, Q32, Q33, Q35, Q36, Q37, Q38, Q39, Q40, Q41, Q42, Q43, Q44, Q45, Q46, Q47, Q48, Q49, Q50, Q51, Q52, Q53, Q54, Q55, Q56, Q57, Q58, Q59, Q60, Q61, Q62, Q63, Q64, Q65, Q66, Q67, Q68, Q69, Q70, Q71, Q72, Q73, Q99, Q100, Q101, Q102, Q103, Q74, Q75, Q77, Q78, Q79, Q80, Q81, Q82, Q83, Q84, clr, List.length_nil, List.length_cons, List.getElem?_cons_zero, List.getElem?_cons_succ, Nat.reduceAdd, Nat.zero_add, Nat.add_zero, Nat.reduceLeDiff, Nat.reduceSub, ↓reduceIte, List.drop_succ_cons, List.drop_zero, List.take_succ_cons, List.take_zero, Bool.false_eq_true, List.nil_append, List.cons_append, Bool.not_true, Bool.not_false, cond_true, cond_false, bne, Q85, Q86, Q87, Q88, Q89, Q90, Q91, Q92, Q93, Q94, Q95, Q96, Q97, Q98, Q110, Q111, Q116, Q117, Q118, Q119, Q120, Q121, Q122, Q123, Option.map_some, Option.map_none, Q34]
theorem isL1 {a : AV} {t : Tm} (h : IsT a t) : IsL (.slc 4 true true [a]) [t] := .slc _ _ _ _ (.cons _ _ _ _ h .nil) (by simp [maxLen])
theorem isL2 {a b : AV} {t u : Tm} (h : IsT a t) (k : IsT b u) : IsL (.slc 4 true true [a, b]) [t, u] := .slc _ _ _ _ (.cons _ _ _ _ h (.cons _ _ _ _ k .nil)) (by simp [maxLen])
theorem isL3 {a b c : AV} {t u v : Tm} (h : IsT a t) (k : IsT b u) (m : IsT c v) : IsL (.slc 4 true true [a, b, c]) [t, u, v] := .slc _ _ _ _ (.cons _ _ _ _ h (.cons _ _ _ _ k (.cons _ _ _ _ m .nil))) (by simp [maxLen])

theorem tmTy : TmTy T 3 9 2 24 22 := ⟨⟨_, rfl, rfl⟩, ⟨_, rfl, rfl⟩, ⟨_, rfl, rfl⟩, ⟨_, _, _, _, _, rfl, rfl, rfl, rfl, rfl, rfl, rfl, rfl⟩, ⟨_, rfl, rfl⟩⟩
theorem term_in {a : AV} (w : WT T 24 a.cells) (e : Q77 ti24.agg a.cells = some a) : ∃ p, IsT a p := by
  obtain ⟨x, hx⟩ := tmTy.term w
  rw [agg_cells e]; exact ⟨x, hx⟩
theorem int_in {a : AV} (w : WT T 2 a.cells) (e : Q77 ti2.agg a.cells = some a) : ∃ n : Int, a = .v (.int .i64 n) ∧ (Lit.int .i64 n).wf = true := by
  obtain ⟨n, h, hn⟩ := wt_int_of (t := 2) (k := .i64) rfl rfl w
  exact ⟨n, one_cell e h, hn⟩
theorem str_in {a : AV} (w : WT T 9 a.cells) (e : Q77 ti9.agg a.cells = some a) : ∃ s : ByteArray, a = .v (.string s) ∧ s.size ≤ maxLen := by
  obtain ⟨n, h, hn⟩ := wt_str_of (t := 9) rfl rfl w
  exact ⟨n, one_cell e h, hn⟩
end Go.AE.YtgcbaefclkfnoaaDoor
end

/-! Terms that come in: their numbers are int64. -/
section
set_option linter.unusedVariables false
set_option linter.unusedSimpArgs false
namespace Go.AE.YtgcbaefclkfnoaaDoor
open Go Go.AE Go.Proofs.YtgcbaefclkfnoaaDoor

/-! ### Numbers that are int64 -/
def rg (n : Int) : Prop := -9223372036854775808 ≤ n ∧ n ≤ 9223372036854775807
mutual
def rgT : Tm → Prop
  | .mk _ _ n l => rg n ∧ rgL l
def rgL : List Tm → Prop
  | [] => True
  | t :: l => rgT t ∧ rgL l
end
theorem rg_of {n : Int} (h : (Lit.int .i64 n).wf = true) : rg n := by
  simp only [Lit.wf, Bool.and_eq_true, decide_eq_true_eq] at h
  exact h
theorem all2_rg : ∀ {l : List AV}, (∀ el ∈ l, ∃ t, IsT el t ∧ rgT t) → ∃ ts, All2 l ts ∧ rgL ts
  | [], _ => ⟨[], .nil, by simp [rgL]⟩
  | a :: l, h => by
    obtain ⟨t, ht, h1⟩ := h a (by simp)
    obtain ⟨ts, hts, h2⟩ := all2_rg (l := l) (fun el hm => h el (by simp [hm]))
    exact ⟨t :: ts, .cons a t l ts ht hts, by rw [rgL]; exact ⟨h1, h2⟩⟩
theorem good_rg : ∀ {t : TypeId} {cs : List AV}, WT T t cs → (t = 24 → ∃ x, IsT (.agg cs) x ∧ rgT x) ∧ (t = 22 → ∃ c l, cs = [c] ∧ IsL c l ∧ rgL l) := by
  obtain ⟨xt, f0, f1, f2, f3, ht1, ht2, e0, e1, e2, e3, hsz, hag⟩ := tmTy.t
  obtain ⟨xl, hl1, hl2⟩ := tmTy.l
  obtain ⟨xi, hi1, hi2⟩ := tmTy.i
  obtain ⟨xs, hs1, hs2⟩ := tmTy.s
  obtain ⟨xn, hn1, hn2⟩ := tmTy.n
  intro t cs w
  induction w with
  | bool t i b ht hd => exact ⟨(by rintro rfl; rw [ht1] at ht; cases ht; rw [ht2] at hd; cases hd), (by rintro rfl; rw [hl1] at ht; cases ht; rw [hl2] at hd; cases hd)⟩
  | int t i k n ht hd hw => exact ⟨(by rintro rfl; rw [ht1] at ht; cases ht; rw [ht2] at hd; cases hd), (by rintro rfl; rw [hl1] at ht; cases ht; rw [hl2] at hd; cases hd)⟩
  | str t i s ht hd hs => exact ⟨(by rintro rfl; rw [ht1] at ht; cases ht; rw [ht2] at hd; cases hd), (by rintro rfl; rw [hl1] at ht; cases ht; rw [hl2] at hd; cases hd)⟩
  | nil t i e ht hd => exact ⟨(by rintro rfl; rw [ht1] at ht; cases ht; rw [ht2] at hd; cases hd), fun _ => ⟨_, [], rfl, .nil, by simp [rgL]⟩⟩
  | slc t i e j l ht hd he hl hel has ih =>
    refine ⟨(by rintro rfl; rw [ht1] at ht; cases ht; rw [ht2] at hd; cases hd), ?_⟩
    rintro rfl
    rw [hl1] at ht; cases ht; rw [hl2] at hd; cases hd
    rw [ht1] at he; cases he
    obtain ⟨ts, hts, hr⟩ := all2_rg (l := l) (fun el hm => by
      obtain ⟨x, hx, hr⟩ := (ih el hm).1 rfl
      have := has el hm
      rw [hag] at this
      rw [← agg_cells this] at hx
      exact ⟨x, hx, hr⟩)
    rw [hsz]
    exact ⟨_, ts, rfl, .slc _ _ _ _ hts hl, hr⟩
  | struct t i fs pts ht hd hlen hf ih =>
    refine ⟨?_, (by rintro rfl; rw [hl1] at ht; cases ht; rw [hl2] at hd; cases hd)⟩
    rintro rfl
    rw [ht1] at ht; cases ht; rw [ht2] at hd; cases hd
    match pts, hlen, hf, ih with
    | [a, b, c, d], _, hf, ih =>
      have w0 := hf 0 f0 a rfl rfl
      have w1 := hf 1 f1 b rfl rfl
      have w2 := hf 2 f2 c rfl rfl
      have w3 := (ih 3 f3 d rfl rfl).2 e3
      rw [e0] at w0; rw [e1] at w1; rw [e2] at w2
      obtain ⟨k, rfl, _⟩ := wt_int_of hi1 hi2 w0
      obtain ⟨s, rfl, _⟩ := wt_str_of hs1 hs2 w1
      obtain ⟨n, rfl, hn⟩ := wt_int_of hn1 hn2 w2
      obtain ⟨x, l, rfl, hx, hr⟩ := w3
      exact ⟨_, .mk k s n x l hx, by rw [rgT]; exact ⟨rg_of hn, hr⟩⟩
theorem term_rg {a : AV} (w : WT T 24 a.cells) (e : Q77 ti24.agg a.cells = some a) : ∃ p, IsT a p ∧ rgT p := by
  obtain ⟨x, hx⟩ := (good_rg w).1 rfl
  rw [agg_cells e]; exact ⟨x, hx⟩

end Go.AE.YtgcbaefclkfnoaaDoor
end

/-! A number's text: the program's, the document's. -/
section
set_option linter.unusedVariables false
set_option linter.unusedSimpArgs false
namespace Go.AE.YtgcbaefclkfnoaaDoor
open Go Go.AE Go.Proofs.YtgcbaefclkfnoaaDoor

/-! ### Operations, by their operands' values -/
section
variable {call : CallF} {vars env : List AV} {h : List AO}
def cvK (k : IntKind) : AV → Option AV
  | .v (.int _ n) => some (.v (.int k (k.wrap n)))
  | _ => none
theorem e_conv {k : IntKind} {x : Opd} : evOp call vars env h (.conv k x) = withH h (cvK k (getO vars env x)) := by
  simp only [evOp, cvK]
  generalize getO vars env x = a
  cases a with
  | v x => cases x <;> rfl
  | _ => rfl
theorem cvK_int {k j : IntKind} {n : Int} : cvK k (.v (.int j n)) = some (.v (.int k (k.wrap n))) := rfl
def iaaV (n sz : Nat) (x : AV) (i : Option Nat) : Option AV := match x, i with
  | .ptr id off, some i => if i < n then some (.ptr id (off + i * sz)) else none
  | .ip cs, some i => if i < n then some (.ip (cs.drop (i * sz))) else none
  | _, _ => none
theorem e_iaa {n sz : Nat} {x i : Opd} : evOp call vars env h (.iaa n sz x i) = withH h (iaaV n sz (getO vars env x) (natO vars env i)) := by
  simp only [evOp, iaaV]
  generalize getO vars env x = a
  generalize natO vars env i = b
  cases a <;> cases b <;> try rfl
  all_goals (simp only; split <;> rfl)
theorem iaa_ptr {n id o i : Nat} (hi : i < n) : iaaV n 1 (.ptr id o) (some i) = some (.ptr id (o + i)) := by simp [iaaV, hi]
def aslV (n : Nat) (x : AV) (l : Option Nat) : Option AV := match x, l with
  | .ptr id off, some l => if l ≤ n then some (.bs id (off + l) (n - l)) else none
  | _, _ => none
theorem e_aslice {n : Nat} {x lo : Opd} : evOp call vars env h (.aslice n 1 x (some lo) none) = withH h (aslV n (getO vars env x) (natO vars env lo)) := by
  simp only [evOp, evASlice, aslV, bounds, optN]
  generalize getO vars env x = a
  generalize natO vars env lo = b
  cases a <;> cases b <;> try rfl
  rename_i id off l
  by_cases e : l ≤ n <;> simp [e, withH]
theorem asl_ptr {n id o l : Nat} (hl : l ≤ n) : aslV n (.ptr id o) (some l) = some (.bs id (o + l) (n - l)) := by simp [aslV, hl]
def bsV (h : List AO) : Option ByteArray → Option (AV × List AO)
  | some s => some (.v (.string s), h)
  | none => none
theorem e_bstr {x : Opd} : evOp call vars env h (.bstr x) = bsV h (evBStr h (getO vars env x)) := by
  simp only [evOp]; cases evBStr h (getO vars env x) <;> rfl
theorem bsV_some {s : ByteArray} : bsV h (some s) = some (.v (.string s), h) := rfl
end
def u8v (b : UInt8) : AV := .v (.int .u8 b.toNat)
theorem strL_u8 (l : List UInt8) : strL (l.map u8v) = some ⟨l.toArray⟩ := by
  have : (l.map u8v).mapM byteOf = some l := by
    induction l with
    | nil => rfl
    | cons b l ih => simp [ih, u8v, byteOf]
  simp [strL, this]

/-! ### Digits -/
def dg (n : Nat) : UInt8 := UInt8.ofNat (48 + n % 10)
def decD (n : Nat) : List UInt8 := if n < 10 then [dg n] else decD (n / 10) ++ [dg n]
termination_by n
decreasing_by omega
theorem decD_small {n : Nat} (h : n < 10) : decD n = [dg n] := by rw [decD, if_pos h]
theorem decD_big {n : Nat} (h : ¬ n < 10) : decD n = decD (n / 10) ++ [dg n] := by rw [decD, if_neg h]
theorem decD_pos : ∀ n, 1 ≤ (decD n).length := by
  intro n
  by_cases h : n < 10
  · rw [decD_small h]; simp
  · rw [decD_big h]; simp
theorem decD_len : ∀ (k n : Nat), n < 10 ^ (k + 1) → (decD n).length ≤ k + 1
  | 0, n, h => by rw [decD_small (by simpa using h)]; simp
  | k + 1, n, h => by
    by_cases e : n < 10
    · rw [decD_small e]; simp
    · rw [decD_big e]
      have : n / 10 < 10 ^ (k + 1) := by
        rw [Nat.div_lt_iff_lt_mul (by omega)]
        rw [Nat.pow_succ] at h
        exact h
      have := decD_len k (n / 10) this
      simp; omega
def numT (a : Int) : ByteArray := ⟨((if decide (a < 0) = true then [45] else []) ++ decD a.natAbs).toArray⟩

theorem u64_nat {n : Nat} (h : n < 18446744073709551616) : IntKind.u64.wrap (n : Int) = n := by
  simp [IntKind.wrap, IntKind.bits, IntKind.signed]; omega
theorem size_num {a : Int} (h : rg a) : callW F 78 [.v (.int .i64 a)] [] = some (.v (.int .u64 (a.natAbs : Nat)), []) := by
  unfold rg at h
  refine callW_pure (c := c78) rfl rfl 0 ?_
  cases h1 : decide (a < 0) with
  | true =>
    simp only [decide_eq_true_eq] at h1
    have e : IntKind.u64.wrap (0 - IntKind.u64.wrap a) = (a.natAbs : Nat) := by
      simp [IntKind.wrap, IntKind.bits, IntKind.signed]; omega
    simp only [c78, start, List.replicate, c78_0, c78_1, c78_2, decide_eq_true h1, e_conv, cvK_int, e, Q0, Q1, Q2, Q3, Q4, Q5, Q6, Q7, Q8, Q9, Q10, Q11, Q12, Q13, Q14, Q15, Q16, Q17, Q18, Q19, Q20, Q21, Q22, Q23, Q24, Q25, Q26, Q27, Q28, Q29, Q30, Q31, Q32, Q33, Q35, Q36, Q37, Q38, Q39, Q40, Q41, Q42, Q43, Q44, Q45, Q46, Q47, Q48, Q49, Q50, Q51, Q52, Q53, Q54, Q55, Q56, Q57, Q58, Q59, Q60, Q61, Q62, Q63, Q64, Q65, Q66, Q67, Q68, Q69, Q70, Q71, Q72, Q73, Q99, Q100, Q101, Q102, Q103, Q74, Q75, Q77, Q78, Q79, Q80, Q81, Q82, Q83, Q84, clr, List.length_nil, List.length_cons, List.getElem?_cons_zero, List.getElem?_cons_succ, Nat.reduceAdd, Nat.zero_add, Nat.add_zero, Nat.reduceLeDiff, Nat.reduceSub, ↓reduceIte, List.drop_succ_cons, List.drop_zero, List.take_succ_cons, List.take_zero, Bool.false_eq_true, List.nil_append, List.cons_append, Bool.not_true, Bool.not_false, cond_true, cond_false, bne, Q85, Q86, Q87, Q88, Q89, Q90, Q91, Q92, Q93, Q94, Q95, Q96, Q97, Q98, Q110, Q111, Q116, Q117, Q118, Q119, Q120, Q121, Q122, Q123, Option.map_some, Option.map_none, Q34]
  | false =>
    have h2 := h1
    simp only [decide_eq_false_iff_not] at h2
    have e : IntKind.u64.wrap a = (a.natAbs : Nat) := by
      simp [IntKind.wrap, IntKind.bits, IntKind.signed]; omega
    simp only [c78, start, List.replicate, c78_0, c78_1, c78_3, h1, e_conv, cvK_int, e, Q0, Q1, Q2, Q3, Q4, Q5, Q6, Q7, Q8, Q9, Q10, Q11, Q12, Q13, Q14, Q15, Q16, Q17, Q18, Q19, Q20, Q21, Q22, Q23, Q24, Q25, Q26, Q27, Q28, Q29, Q30, Q31, Q32, Q33, Q35, Q36, Q37, Q38, Q39, Q40, Q41, Q42, Q43, Q44, Q45, Q46, Q47, Q48, Q49, Q50, Q51, Q52, Q53, Q54, Q55, Q56, Q57, Q58, Q59, Q60, Q61, Q62, Q63, Q64, Q65, Q66, Q67, Q68, Q69, Q70, Q71, Q72, Q73, Q99, Q100, Q101, Q102, Q103, Q74, Q75, Q77, Q78, Q79, Q80, Q81, Q82, Q83, Q84, clr, List.length_nil, List.length_cons, List.getElem?_cons_zero, List.getElem?_cons_succ, Nat.reduceAdd, Nat.zero_add, Nat.add_zero, Nat.reduceLeDiff, Nat.reduceSub, ↓reduceIte, List.drop_succ_cons, List.drop_zero, List.take_succ_cons, List.take_zero, Bool.false_eq_true, List.nil_append, List.cons_append, Bool.not_true, Bool.not_false, cond_true, cond_false, bne, Q85, Q86, Q87, Q88, Q89, Q90, Q91, Q92, Q93, Q94, Q95, Q96, Q97, Q98, Q110, Q111, Q116, Q117, Q118, Q119, Q120, Q121, Q122, Q123, Option.map_some, Option.map_none, Q34]
theorem tm10 (n : Nat) : (n : Int).tmod 10 = ((n % 10 : Nat) : Int) := by
  rw [Int.tmod_eq_emod_of_nonneg (by omega)]; omega
theorem td10 (n : Nat) : (n : Int).tdiv 10 = ((n / 10 : Nat) : Int) := by
  rw [Int.tdiv_eq_ediv_of_nonneg (by omega)]; omega
theorem dg48 (n : Nat) : IntKind.u8.wrap (IntKind.u64.wrap (48 + ((n % 10 : Nat) : Int))) = ((dg n).toNat : Int) := by
  have h1 : (dg n).toNat = 48 + n % 10 := by
    simp only [dg, UInt8.toNat_ofNat']
    omega
  rw [h1]
  simp [IntKind.wrap, IntKind.bits, IntKind.signed]
  omega

def z8 : AV := .v (.int .u8 0)
def cells (suf : List UInt8) : List AV := List.replicate (20 - suf.length) z8 ++ suf.map u8v
theorem cells_len {suf : List UInt8} (h : suf.length ≤ 20) : (cells suf).length = 20 := by simp [cells]; omega
theorem cells_st {suf : List UInt8} (h : suf.length < 20) (b : UInt8) : Q113 [.box 87 (cells suf)] 1 (.ptr 0 (19 - suf.length)) (.v (.int .u8 b.toNat)) = some [.box 87 (cells (b :: suf))] := by
  have hl := cells_len (suf := suf) (by omega)
  rw [bx_st (bt := 87) (h := [.box 87 (cells suf)]) (id := 0) rfl (xs := [.v (.int .u8 b.toNat)]) (x := .v (.int .u8 b.toNat)) (n := 1) (o := 19 - suf.length) rfl rfl (by rw [hl]; omega)]
  have e : Q112 (cells suf) (19 - suf.length) [AV.v (.int .u8 b.toNat)] = cells (b :: suf) := by
    have e1 : 20 - suf.length = (19 - suf.length) + 1 := by omega
    simp only [Q112, cells, e1, List.replicate_succ', List.append_assoc, List.singleton_append]
    rw [List.set_append_right _ _ (by simp)]
    simp [u8v]
  rw [e]; rfl
def V68 (a : Int) (at' : Int) (n : Int) (x5 : AV) : List AV := [.v (.int .i64 a), .junk, .ptr 0 0, .v (.int .i64 at'), .v (.int .u64 n), x5, .junk]
def K68 : List Bool := [true, false, true, true, true, false, false]
theorem at_sub {n : Nat} (h0 : 1 ≤ n) (h : n ≤ 20) : IntKind.i64.wrap ((n : Int) - 1) = ((n - 1 : Nat) : Int) := by
  rw [IntWalk.i64_in] <;> omega
theorem blk_out {vs : List AV} {h : List AO} : blk 1 (some (.exit 0, vs, h)) = some (.exit 0, vs, h) := rfl
theorem num_loop (a : Int) {N : Nat} (hN : N < 10 ^ 19) {K : Nat} (hK : 18 < K) (v : List AV) (hv : clr K68 v = V68 a 20 N .junk) :
    ∃ m : Nat, loopN (exec (callW F) K c68_8) K68 K v [.box 87 (cells [])] = some (.exit 0, V68 a ((20 - (decD N).length : Nat) : Int) m (.v (.bool true)), [.box 87 (cells (decD N))]) := by
  have hlen := decD_len 18 N hN
  obtain ⟨e, v', h', g1, g2, g3⟩ := loop_rule0 (call := callW F) (K := K) (b := c68_8) (keep := K68)
    (fun i v h => ∃ (m : Nat) (suf : List UInt8), m < 10 ^ 19 ∧ suf.length = i ∧ decD N = decD m ++ suf ∧ v = V68 a ((20 - i : Nat) : Int) m .junk ∧ h = [.box 87 (cells suf)])
    (fun e v h => e = .exit 0 ∧ ∃ m : Nat, v = V68 a ((20 - (decD N).length : Nat) : Int) m (.v (.bool true)) ∧ h = [.box 87 (cells (decD N))])
    18 (m := K) (v := v) (h := [.box 87 (cells [])]) hK ⟨N, [], hN, rfl, by simp, hv, rfl⟩ (by
      rintro i v h hi ⟨m, suf, hm, hsuf, hdec, rfl, rfl⟩
      have hi20 : i < 20 := by omega
      have w1 := at_sub (n := 20 - i) (by omega) (by omega)
      have w2 : 20 - i - 1 = 19 - suf.length := by omega
      rw [w2] at w1
      have t1 := tm10 m
      have t2 := td10 m
      have t3 := dg48 m
      have t4 : IntKind.u64.wrap ((m / 10 : Nat) : Int) = ((m / 10 : Nat) : Int) := u64_nat (by
        have : (10 : Nat) ^ 19 = 10000000000000000000 := rfl
        omega)
      have ia : iaaV 20 1 (.ptr 0 0) (some (19 - suf.length)) = some (.ptr 0 (0 + (19 - suf.length))) := iaa_ptr (by omega)
      have s1 := cells_st (suf := suf) (by omega) (dg m)
      have ten : ((10 : Int) = 0) = False := by simp
      by_cases hs : m < 10
      · have hlt : decide ((m : Int) < 10) = true := by simp; omega
        have hd : decD N = dg m :: suf := by rw [hdec, decD_small hs]; rfl
        refine ⟨.exit 0, V68 a ((19 - suf.length : Nat) : Int) m (.v (.bool true)), [.box 87 (cells (dg m :: suf))], ?_, rfl, m, by rw [hd]; simp, by rw [hd]⟩
        simp only [V68, c68_8, c68_4, c68_5, c68_6, w1, t1, t3, hlt, ten, e_conv, cvK_int, e_iaa, ia, s1, Nat.zero_add, if_false, blk_out, Q0, Q1, Q2, Q3, Q4, Q5, Q6, Q7, Q8, Q9, Q10, Q11, Q12, Q13, Q14, Q15, Q16, Q17, Q18, Q19, Q20, Q21, Q22, Q23, Q24, Q25, Q26, Q27, Q28, Q29, Q30, Q31, Q32, Q33, Q35, Q36, Q37, Q38, Q39, Q40, Q41, Q42, Q43, Q44, Q45, Q46, Q47, Q48, Q49, Q50, Q51, Q52, Q53, Q54, Q55, Q56, Q57, Q58, Q59, Q60, Q61, Q62, Q63, Q64, Q65, Q66, Q67, Q68, Q69, Q70, Q71, Q72, Q73, Q99, Q100, Q101, Q102, Q103, Q74, Q75, Q77, Q78, Q79, Q80, Q81, Q82, Q83, Q84, clr, List.length_nil, List.length_cons, List.getElem?_cons_zero, List.getElem?_cons_succ, Nat.reduceAdd, Nat.zero_add, Nat.add_zero, Nat.reduceLeDiff, Nat.reduceSub, ↓reduceIte, List.drop_succ_cons, List.drop_zero, List.take_succ_cons, List.take_zero, Bool.false_eq_true, List.nil_append, List.cons_append, Bool.not_true, Bool.not_false, cond_true, cond_false, bne, Q85, Q86, Q87, Q88, Q89, Q90, Q91, Q92, Q93, Q94, Q95, Q96, Q97, Q98, Q110, Q111, Q116, Q117, Q118, Q119, Q120, Q121, Q122, Q123, Option.map_some, Option.map_none, Q34]
      · have hlt : decide ((m : Int) < 10) = false := by simp; omega
        have hd : decD N = decD (m / 10) ++ (dg m :: suf) := by rw [hdec, decD_big hs]; simp
        have hpos := decD_pos (m / 10)
        have hlenN : (decD N).length = (decD (m / 10)).length + (suf.length + 1) := by rw [hd]; simp
        refine ⟨.normal, V68 a ((19 - suf.length : Nat) : Int) ((m / 10 : Nat) : Int) (.v (.bool false)), [.box 87 (cells (dg m :: suf))], ?_, by omega, m / 10, dg m :: suf, by omega, by simp; omega, hd, ?_, rfl⟩
        · simp only [V68, c68_8, c68_4, c68_5, c68_6, c68_7, w1, t1, t2, t3, t4, hlt, ten, e_conv, cvK_int, e_iaa, ia, s1, Nat.zero_add, if_false, Q0, Q1, Q2, Q3, Q4, Q5, Q6, Q7, Q8, Q9, Q10, Q11, Q12, Q13, Q14, Q15, Q16, Q17, Q18, Q19, Q20, Q21, Q22, Q23, Q24, Q25, Q26, Q27, Q28, Q29, Q30, Q31, Q32, Q33, Q35, Q36, Q37, Q38, Q39, Q40, Q41, Q42, Q43, Q44, Q45, Q46, Q47, Q48, Q49, Q50, Q51, Q52, Q53, Q54, Q55, Q56, Q57, Q58, Q59, Q60, Q61, Q62, Q63, Q64, Q65, Q66, Q67, Q68, Q69, Q70, Q71, Q72, Q73, Q99, Q100, Q101, Q102, Q103, Q74, Q75, Q77, Q78, Q79, Q80, Q81, Q82, Q83, Q84, clr, List.length_nil, List.length_cons, List.getElem?_cons_zero, List.getElem?_cons_succ, Nat.reduceAdd, Nat.zero_add, Nat.add_zero, Nat.reduceLeDiff, Nat.reduceSub, ↓reduceIte, List.drop_succ_cons, List.drop_zero, List.take_succ_cons, List.take_zero, Bool.false_eq_true, List.nil_append, List.cons_append, Bool.not_true, Bool.not_false, cond_true, cond_false, bne, Q85, Q86, Q87, Q88, Q89, Q90, Q91, Q92, Q93, Q94, Q95, Q96, Q97, Q98, Q110, Q111, Q116, Q117, Q118, Q119, Q120, Q121, Q122, Q123, Option.map_some, Option.map_none, Q34]
        · have : 19 - suf.length = 20 - (i + 1) := by omega
          rw [this]; rfl)
  obtain ⟨rfl, m, rfl, rfl⟩ := g3
  exact ⟨m, g1⟩
theorem cells_str {suf : List UInt8} (h : suf.length ≤ 20) : evBStr [.box 87 (cells suf)] (.bs 0 (20 - suf.length) (20 - (20 - suf.length))) = some ⟨suf.toArray⟩ := by
  have hl := cells_len h
  have e : ((cells suf).drop (20 - suf.length)).take (20 - (20 - suf.length)) = suf.map u8v := by
    simp only [cells]
    rw [List.drop_append_of_le_length (by simp), List.drop_of_length_le (by simp), List.nil_append, List.take_of_length_le (by simp; omega)]
  simp only [evBStr, List.getElem?_cons_zero, hl, e, strL_u8]
  rw [if_pos (by omega)]
theorem num_ok {a : Int} (h : rg a) : callW F 68 [.v (.int .i64 a)] [] = some (.v (.string (numT a)), []) := by
  have h1 := size_num h
  have hN : a.natAbs < 10 ^ 19 := by
    unfold rg at h
    have : (10 : Nat) ^ 19 = 10000000000000000000 := rfl
    omega
  have hlen := decD_len 18 _ hN
  have hpos := decD_pos a.natAbs
  refine callW_pure (c := c68) rfl rfl 19 ?_
  obtain ⟨m, hl⟩ := num_loop a hN (K := 19) (by omega) [.v (.int .i64 a), .v (.string ⟨#[]⟩), .ptr 0 0, .v (.int .i64 20), .v (.int .u64 (a.natAbs : Nat)), .v undef, .v undef] rfl
  have hz : cells [] = [z8, z8, z8, z8, z8, z8, z8, z8, z8, z8, z8, z8, z8, z8, z8, z8, z8, z8, z8, z8] := rfl
  have hb : (ofVal (.agg #[(.int .u8 0), (.int .u8 0), (.int .u8 0), (.int .u8 0), (.int .u8 0), (.int .u8 0), (.int .u8 0), (.int .u8 0), (.int .u8 0), (.int .u8 0), (.int .u8 0), (.int .u8 0), (.int .u8 0), (.int .u8 0), (.int .u8 0), (.int .u8 0), (.int .u8 0), (.int .u8 0), (.int .u8 0), (.int .u8 0)])).cl = some (cells []) := by
    rw [hz]; simp [ofVal, AV.cl, Value.oneCell', z8]
  have bxz : bx [] 87 (some (cells [])) = some (.ptr 0 0, [.box 87 (cells [])]) := rfl
  rw [show c68.body = (.seq (.region [] [] c68_0) (.seq (.region [] [] c68_1) (.seq (.region [] [] c68_2) (.seq (.seq (.region [] [] c68_3) (.block 0 (.loop K68 [] c68_8))) (.seq (.seq (.region [] [] c68_9) (.cond (.var 6) (.seq (.region [] [] c68_10) (.region [] [] c68_11)) .skip)) (.seq (.region [] [] c68_12) .ret)))))) from rfl, show c68.res = [.var 1] from rfl]
  rw [show start c68 [.v (.int .i64 a)] = [.v (.int .i64 a), .v undef, .v undef, .v undef, .v undef, .v undef, .v undef] from rfl]
  generalize c68_8 = bb at hl ⊢
  unfold numT
  generalize decD a.natAbs = D at hl hlen hpos ⊢
  cases h2 : decide (a < 0) with
  | true =>
    have w1 := at_sub (n := 20 - D.length) (by omega) (by omega)
    have w2 : 20 - D.length - 1 = 19 - D.length := by omega
    rw [w2] at w1
    have ia : iaaV 20 1 (.ptr 0 0) (some (19 - D.length)) = some (.ptr 0 (0 + (19 - D.length))) := iaa_ptr (by omega)
    have s1 := cells_st (suf := D) (by omega) 45
    rw [show (((45 : UInt8).toNat : Nat) : Int) = 45 from rfl] at s1
    have l1 : aslV 20 (.ptr 0 0) (some (19 - D.length)) = some (.bs 0 (0 + (19 - D.length)) (20 - (19 - D.length))) := asl_ptr (by omega)
    have l2 := cells_str (suf := 45 :: D) (by simp; omega)
    rw [show 20 - (45 :: D : List UInt8).length = 19 - D.length by simp] at l2
    simp only [V68, c68_0, c68_1, c68_2, c68_3, c68_9, c68_10, c68_11, c68_12, hb, bxz, h1, snap_int, hl, h2, w1, e_iaa, ia, s1, e_aslice, l1, e_bstr, l2, bsV_some, Nat.zero_add, List.cons_append, List.nil_append, if_true, Q0, Q1, Q2, Q3, Q4, Q5, Q6, Q7, Q8, Q9, Q10, Q11, Q12, Q13, Q14, Q15, Q16, Q17, Q18, Q19, Q20, Q21, Q22, Q23, Q24, Q25, Q26, Q27, Q28, Q29, Q30, Q31, Q32, Q33, Q35, Q36, Q37, Q38, Q39, Q40, Q41, Q42, Q43, Q44, Q45, Q46, Q47, Q48, Q49, Q50, Q51, Q52, Q53, Q54, Q55, Q56, Q57, Q58, Q59, Q60, Q61, Q62, Q63, Q64, Q65, Q66, Q67, Q68, Q69, Q70, Q71, Q72, Q73, Q99, Q100, Q101, Q102, Q103, Q74, Q75, Q77, Q78, Q79, Q80, Q81, Q82, Q83, Q84, clr, List.length_nil, List.length_cons, List.getElem?_cons_zero, List.getElem?_cons_succ, Nat.reduceAdd, Nat.zero_add, Nat.add_zero, Nat.reduceLeDiff, Nat.reduceSub, ↓reduceIte, List.drop_succ_cons, List.drop_zero, List.take_succ_cons, List.take_zero, Bool.false_eq_true, List.nil_append, List.cons_append, Bool.not_true, Bool.not_false, cond_true, cond_false, bne, Q85, Q86, Q87, Q88, Q89, Q90, Q91, Q92, Q93, Q94, Q95, Q96, Q97, Q98, Q110, Q111, Q116, Q117, Q118, Q119, Q120, Q121, Q122, Q123, Option.map_some, Option.map_none]
  | false =>
    have l1 : aslV 20 (.ptr 0 0) (some (20 - D.length)) = some (.bs 0 (0 + (20 - D.length)) (20 - (20 - D.length))) := asl_ptr (by omega)
    have l2 := cells_str (suf := D) (by omega)
    simp only [V68, c68_0, c68_1, c68_2, c68_3, c68_9, c68_12, hb, bxz, h1, snap_int, hl, h2, e_aslice, l1, e_bstr, l2, bsV_some, Nat.zero_add, List.nil_append, Bool.false_eq_true, if_false, Q0, Q1, Q2, Q3, Q4, Q5, Q6, Q7, Q8, Q9, Q10, Q11, Q12, Q13, Q14, Q15, Q16, Q17, Q18, Q19, Q20, Q21, Q22, Q23, Q24, Q25, Q26, Q27, Q28, Q29, Q30, Q31, Q32, Q33, Q35, Q36, Q37, Q38, Q39, Q40, Q41, Q42, Q43, Q44, Q45, Q46, Q47, Q48, Q49, Q50, Q51, Q52, Q53, Q54, Q55, Q56, Q57, Q58, Q59, Q60, Q61, Q62, Q63, Q64, Q65, Q66, Q67, Q68, Q69, Q70, Q71, Q72, Q73, Q99, Q100, Q101, Q102, Q103, Q74, Q75, Q77, Q78, Q79, Q80, Q81, Q82, Q83, Q84, clr, List.length_nil, List.length_cons, List.getElem?_cons_zero, List.getElem?_cons_succ, Nat.reduceAdd, Nat.zero_add, Nat.add_zero, Nat.reduceLeDiff, Nat.reduceSub, ↓reduceIte, List.drop_succ_cons, List.drop_zero, List.take_succ_cons, List.take_zero, Bool.false_eq_true, List.nil_append, List.cons_append, Bool.not_true, Bool.not_false, cond_true, cond_false, bne, Q85, Q86, Q87, Q88, Q89, Q90, Q91, Q92, Q93, Q94, Q95, Q96, Q97, Q98, Q110, Q111, Q116, Q117, Q118, Q119, Q120, Q121, Q122, Q123, Option.map_some, Option.map_none]

/-! ### The document's -/
theorem str_size (x : List UInt8) : (⟨x.toArray⟩ : ByteArray).size = x.length := by simp [ByteArray.size]
theorem str_le {x y : List UInt8} (hl : x.length + y.length ≤ 1000000000) : (((⟨x.toArray⟩ : ByteArray).size + (⟨y.toArray⟩ : ByteArray).size : Nat) : Int) ≤ 9223372036854775807 := by
  rw [str_size, str_size]; omega
theorem str_cat (x y : List UInt8) : (⟨x.toArray⟩ ++ ⟨y.toArray⟩ : ByteArray) = ⟨(x ++ y).toArray⟩ := by
  apply ByteArray.ext
  simp
theorem neg_tm (n : Nat) : (-(n : Int)).tmod 10 = -((n % 10 : Nat) : Int) := by
  rw [Int.neg_tmod, tm10]
theorem neg_dg (n : Nat) : IntKind.u8.wrap (IntKind.i64.wrap (48 - -((n % 10 : Nat) : Int))) = ((dg n).toNat : Int) := by
  have h1 : (dg n).toNat = 48 + n % 10 := by
    simp only [dg, UInt8.toNat_ofNat']
    omega
  have h2 : n % 10 < 10 := Nat.mod_lt _ (by decide)
  rw [h1]
  generalize n % 10 = m at h2
  rw [show (48 : Int) - -(m : Int) = ((48 + m : Nat) : Int) by omega, IntWalk.i64_in _ ⟨by omega, by omega⟩]
  simp [IntKind.wrap, IntKind.bits, IntKind.signed]
  omega
theorem neg_td {n : Nat} (h : n ≤ 9223372036854775808) : IntKind.i64.wrap ((-(n : Int)).tdiv 10) = -((n / 10 : Nat) : Int) := by
  have h2 : n / 10 ≤ 922337203685477580 := by omega
  rw [Int.neg_tdiv, td10]
  generalize n / 10 = m at h2
  exact IntWalk.i64_in _ ⟨by omega, by omega⟩
theorem decD_20 {n : Nat} (h : n ≤ 9223372036854775808) : (decD n).length ≤ 20 := by
  have := decD_len 18 n (by have : (10 : Nat) ^ 19 = 10000000000000000000 := rfl; omega)
  omega
theorem str_add {x y : List UInt8} (hl : x.length + y.length ≤ 1000000000) : Q78 .add (.v (.string ⟨x.toArray⟩)) (.v (.string ⟨y.toArray⟩)) = some (.v (.string ⟨(x ++ y).toArray⟩)) := by
  simp only [Q78, Q80, str_cat]
  rw [if_pos (str_le hl)]
theorem dig_step {call : CallF} {x r z W : Int} {U : AV} {S E R : ByteArray} (f1 : Q78 .rem (.v (.int .i64 x)) (.v (.int .i64 10)) = some (.v (.int .i64 r))) (f2 : IntKind.u8.wrap (IntKind.i64.wrap (48 - r)) = W)
    (f3 : Q78 .gtr (.v (.int .i64 x)) (.v (.int .i64 (-10))) = some (.v (.bool false))) (f4 : Q78 .quo (.v (.int .i64 x)) (.v (.int .i64 10)) = some (.v (.int .i64 z)))
    (b1 : bs1 [] 1 (some (.v (.int .u8 W))) = some (.slc 1 true true [U], [])) (b2 : evBStr [] (.slc 1 true true [U]) = some E) (hc : call 82 [.v (.int .i64 z)] [] = some (.v (.string S), []))
    (f5 : Q78 .add (.v (.string S)) (.v (.string E)) = some (.v (.string R))) : lv c82.res (exec call 0 c82.body (start c82 [.v (.int .i64 x)]) []) = some (.v (.string R), []) := by
  have f0 : Q78 .sub (.v (.int .i64 48)) (.v (.int .i64 r)) = some (.v (.int .i64 (IntKind.i64.wrap (48 - r)))) := rfl
  have sn : (AV.v (.int .u8 W)).snap1 [] = some (.v (.int .u8 W)) := rfl
  simp only [c82, start, List.replicate, c82_0, c82_1, c82_2, c82_4, f0, f2, e_conv, cvK_int, sn, b1, Q104, e_bstr, b2, bsV_some, hc, snap_int, f1, f3, f4, f5, Q0, Q1, Q2, Q3, Q4, Q5, Q6, Q7, Q8, Q9, Q10, Q11, Q12, Q13, Q14, Q15, Q16, Q17, Q18, Q19, Q20, Q21, Q22, Q23, Q24, Q25, Q26, Q27, Q28, Q29, Q30, Q31, Q32, Q33, Q35, Q36, Q37, Q38, Q39, Q40, Q41, Q42, Q43, Q44, Q45, Q46, Q47, Q48, Q49, Q50, Q51, Q52, Q53, Q54, Q55, Q56, Q57, Q58, Q59, Q60, Q61, Q62, Q63, Q64, Q65, Q66, Q67, Q68, Q69, Q70, Q71, Q72, Q73, Q99, Q100, Q101, Q102, Q103, Q74, Q75, Q77, Q78, Q79, Q80, Q81, Q82, Q83, Q84, clr, List.length_nil, List.length_cons, List.getElem?_cons_zero, List.getElem?_cons_succ, Nat.reduceAdd, Nat.zero_add, Nat.add_zero, Nat.reduceLeDiff, Nat.reduceSub, ↓reduceIte, List.drop_succ_cons, List.drop_zero, List.take_succ_cons, List.take_zero, Bool.false_eq_true, List.nil_append, List.cons_append, Bool.not_true, Bool.not_false, cond_true, cond_false, bne, Q85, Q86, Q87, Q88, Q89, Q90, Q91, Q92, Q93, Q94, Q95, Q96, Q97, Q98, Q110, Q111, Q116, Q117, Q118, Q119, Q120, Q121, Q122, Q123, Option.map_some, Option.map_none, Q34, -Q78]
theorem digits_ok : ∀ (N : Nat) (n : Nat), n < N → n ≤ 9223372036854775808 → callW F 82 [.v (.int .i64 (-(n : Int)))] [] = some (.v (.string ⟨(decD n).toArray⟩), []) := by
  intro N
  induction N with
  | zero => intro n h; omega
  | succ N ih =>
    intro n hN hn
    refine callW_pure (c := c82) rfl rfl 0 ?_
    have t1 := neg_tm n
    have t3 := neg_dg n
    have b1 : ∀ (h : List AO), bs1 h 1 (some (.v (.int .u8 ((dg n).toNat : Int)))) = some (.slc 1 true true [u8v (dg n)], h) := fun h => bs1_some rfl rfl
    have b2 : ∀ (h : List AO), evBStr h (.slc 1 true true [u8v (dg n)]) = some ⟨[dg n].toArray⟩ := by
      intro h
      have := strL_u8 [dg n]
      simpa [evBStr, elemsOf] using this
    have sn : ∀ h : List AO, (AV.v (.int .u8 ((dg n).toNat : Int))).snap1 h = some (.v (.int .u8 ((dg n).toNat : Int))) := fun _ => rfl
    have ten : ((10 : Int) = 0) = False := by simp
    by_cases hs : n < 10
    · have hlt : decide (-(n : Int) > -10) = true := by simp; omega
      rw [decD_small hs]
      simp only [c82, start, List.replicate, c82_0, c82_1, c82_2, c82_3, t1, t3, ten, if_false, e_conv, cvK_int, sn, b1, Q104, e_bstr, b2, bsV_some, hlt, Q0, Q1, Q2, Q3, Q4, Q5, Q6, Q7, Q8, Q9, Q10, Q11, Q12, Q13, Q14, Q15, Q16, Q17, Q18, Q19, Q20, Q21, Q22, Q23, Q24, Q25, Q26, Q27, Q28, Q29, Q30, Q31, Q32, Q33, Q35, Q36, Q37, Q38, Q39, Q40, Q41, Q42, Q43, Q44, Q45, Q46, Q47, Q48, Q49, Q50, Q51, Q52, Q53, Q54, Q55, Q56, Q57, Q58, Q59, Q60, Q61, Q62, Q63, Q64, Q65, Q66, Q67, Q68, Q69, Q70, Q71, Q72, Q73, Q99, Q100, Q101, Q102, Q103, Q74, Q75, Q77, Q78, Q79, Q80, Q81, Q82, Q83, Q84, clr, List.length_nil, List.length_cons, List.getElem?_cons_zero, List.getElem?_cons_succ, Nat.reduceAdd, Nat.zero_add, Nat.add_zero, Nat.reduceLeDiff, Nat.reduceSub, ↓reduceIte, List.drop_succ_cons, List.drop_zero, List.take_succ_cons, List.take_zero, Bool.false_eq_true, List.nil_append, List.cons_append, Bool.not_true, Bool.not_false, cond_true, cond_false, bne, Q85, Q86, Q87, Q88, Q89, Q90, Q91, Q92, Q93, Q94, Q95, Q96, Q97, Q98, Q110, Q111, Q116, Q117, Q118, Q119, Q120, Q121, Q122, Q123, Option.map_some, Option.map_none, Q34]
    · have hlt : decide (-(n : Int) > -10) = false := by simp; omega
      have t2 := neg_td hn
      have hc := ih (n / 10) (by clear hn; omega) (Nat.le_trans (Nat.div_le_self _ _) hn)
      have hl := decD_20 hn
      clear hn
      rw [decD_big hs] at hl ⊢
      have f5 := str_add (x := decD (n / 10)) (y := [dg n]) (by simp at hl ⊢; omega)
      have f1 : Q78 .rem (.v (.int .i64 (-(n : Int)))) (.v (.int .i64 10)) = some (.v (.int .i64 (-((n % 10 : Nat) : Int)))) := by
        simp only [Q78, Q79, t1, ten, if_true, if_false]
      have f3 : Q78 .gtr (.v (.int .i64 (-(n : Int)))) (.v (.int .i64 (-10))) = some (.v (.bool false)) := by
        simp only [Q78, Q79, hlt, if_true]
      have f4 : Q78 .quo (.v (.int .i64 (-(n : Int)))) (.v (.int .i64 10)) = some (.v (.int .i64 (-((n / 10 : Nat) : Int)))) := by
        simp only [Q78, Q79, t2, ten, if_true, if_false]
      exact dig_step f1 t3 f3 f4 (b1 []) (b2 []) hc f5
theorem rnum_ok {a : Int} (h : rg a) : callW F 73 [.v (.int .i64 a)] [] = some (.v (.string (numT a)), []) := by
  unfold rg at h
  have hc := digits_ok _ a.natAbs (Nat.lt_succ_self _) (by omega)
  have hl := decD_20 (n := a.natAbs) (by omega)
  refine callW_pure (c := c73) rfl rfl 0 ?_
  unfold numT
  cases h2 : decide (a < 0) with
  | true =>
    have e : -(a.natAbs : Int) = a := by simp at h2; omega
    rw [e] at hc
    have a1 := str_le (x := [45]) (y := decD a.natAbs) (by simp at hl ⊢; omega)
    have a2 := str_cat [45] (decD a.natAbs)
    simp only [c73, start, List.replicate, c73_0, c73_1, c73_2, h2, hc, snap_int, a1, a2, if_true, Q0, Q1, Q2, Q3, Q4, Q5, Q6, Q7, Q8, Q9, Q10, Q11, Q12, Q13, Q14, Q15, Q16, Q17, Q18, Q19, Q20, Q21, Q22, Q23, Q24, Q25, Q26, Q27, Q28, Q29, Q30, Q31, Q32, Q33, Q35, Q36, Q37, Q38, Q39, Q40, Q41, Q42, Q43, Q44, Q45, Q46, Q47, Q48, Q49, Q50, Q51, Q52, Q53, Q54, Q55, Q56, Q57, Q58, Q59, Q60, Q61, Q62, Q63, Q64, Q65, Q66, Q67, Q68, Q69, Q70, Q71, Q72, Q73, Q99, Q100, Q101, Q102, Q103, Q74, Q75, Q77, Q78, Q79, Q80, Q81, Q82, Q83, Q84, clr, List.length_nil, List.length_cons, List.getElem?_cons_zero, List.getElem?_cons_succ, Nat.reduceAdd, Nat.zero_add, Nat.add_zero, Nat.reduceLeDiff, Nat.reduceSub, ↓reduceIte, List.drop_succ_cons, List.drop_zero, List.take_succ_cons, List.take_zero, Bool.false_eq_true, List.nil_append, List.cons_append, Bool.not_true, Bool.not_false, cond_true, cond_false, bne, Q85, Q86, Q87, Q88, Q89, Q90, Q91, Q92, Q93, Q94, Q95, Q96, Q97, Q98, Q110, Q111, Q116, Q117, Q118, Q119, Q120, Q121, Q122, Q123, Option.map_some, Option.map_none, Q34]
  | false =>
    have e : IntKind.i64.wrap (0 - a) = -(a.natAbs : Int) := by
      simp at h2
      rw [IntWalk.i64_in] <;> omega
    simp only [c73, start, List.replicate, c73_0, c73_1, c73_3, h2, hc, e, snap_int, Bool.false_eq_true, if_false, List.nil_append, Q0, Q1, Q2, Q3, Q4, Q5, Q6, Q7, Q8, Q9, Q10, Q11, Q12, Q13, Q14, Q15, Q16, Q17, Q18, Q19, Q20, Q21, Q22, Q23, Q24, Q25, Q26, Q27, Q28, Q29, Q30, Q31, Q32, Q33, Q35, Q36, Q37, Q38, Q39, Q40, Q41, Q42, Q43, Q44, Q45, Q46, Q47, Q48, Q49, Q50, Q51, Q52, Q53, Q54, Q55, Q56, Q57, Q58, Q59, Q60, Q61, Q62, Q63, Q64, Q65, Q66, Q67, Q68, Q69, Q70, Q71, Q72, Q73, Q99, Q100, Q101, Q102, Q103, Q74, Q75, Q77, Q78, Q79, Q80, Q81, Q82, Q83, Q84, clr, List.length_nil, List.length_cons, List.getElem?_cons_zero, List.getElem?_cons_succ, Nat.reduceAdd, Nat.zero_add, Nat.add_zero, Nat.reduceLeDiff, Nat.reduceSub, ↓reduceIte, List.drop_succ_cons, List.drop_zero, List.take_succ_cons, List.take_zero, Bool.false_eq_true, List.nil_append, List.cons_append, Bool.not_true, Bool.not_false, cond_true, cond_false, bne, Q85, Q86, Q87, Q88, Q89, Q90, Q91, Q92, Q93, Q94, Q95, Q96, Q97, Q98, Q110, Q111, Q116, Q117, Q118, Q119, Q120, Q121, Q122, Q123, Option.map_some, Option.map_none, Q34]
end Go.AE.YtgcbaefclkfnoaaDoor
end

/-! A rune's class: the program's, the document's. -/
section
set_option linter.unusedVariables false
set_option linter.unusedSimpArgs false
namespace Go.AE.YtgcbaefclkfnoaaDoor
open Go Go.AE Go.Proofs.YtgcbaefclkfnoaaDoor

def clsN (c : Nat) : Int :=
  if [43, 45, 42, 47, 92, 94, 60, 62, 61, 126, 58, 46, 63, 64, 35, 38, 36].contains c then 4
  else if [9, 10, 13, 32].contains c then 5
  else if [33, 59, 44, 124].contains c then 6
  else if [40, 41, 91, 93, 123, 125].contains c then 7
  else if c == 39 then 8
  else if c == 95 then 2
  else if 97 ≤ c && c ≤ 122 then 1
  else if 65 ≤ c && c ≤ 90 then 2
  else if 48 ≤ c && c ≤ 57 then 3
  else 0
theorem cls_tab : (List.range 128).map (fun (c : Nat) => callN F 5 89 [.v (.int .i32 (c : Int))] []) = (List.range 128).map fun (c : Nat) => some (.v (.int .i64 (clsN c)), []) := by kernel_rfl
theorem rcls_tab : (List.range 128).map (fun (c : Nat) => callN F 60 92 [.v (.int .i32 (c : Int))] []) = (List.range 128).map fun (c : Nat) => some (.v (.int .i64 (clsN c)), []) := by kernel_rfl
theorem cls_far {c : Nat} (h : ¬ c < 128) : clsN c = 0 := by
  unfold clsN
  simp only [List.contains_cons, List.contains_nil, beq_iff_eq, Bool.or_eq_true, Bool.and_eq_true, decide_eq_true_eq]
  repeat' split
  all_goals first
    | rfl
    | (exfalso; simp at *; omega)
theorem cls_ok (c : Nat) : callW F 89 [.v (.int .i32 (c : Int))] [] = some (.v (.int .i64 (clsN c)), []) := by
  by_cases h : c < 128
  · exact callW_iff.2 ⟨5, List.map_inj_left.1 cls_tab c (List.mem_range.2 h)⟩
  · rw [cls_far h]
    refine callW_pure (c := c89) rfl rfl 0 ?_
    have f : ∀ k : Int, k < 128 → ((c : Int) == k) = false := fun k hk => by simp; omega
    have g1 : decide ((97 : Int) ≤ (c : Int)) = true := by simp; omega
    have g2 : decide ((c : Int) ≤ 122) = false := by simp; omega
    have g3 : decide ((65 : Int) ≤ (c : Int)) = true := by simp; omega
    have g4 : decide ((c : Int) ≤ 90) = false := by simp; omega
    have g5 : decide ((48 : Int) ≤ (c : Int)) = true := by simp; omega
    have g6 : decide ((c : Int) ≤ 57) = false := by simp; omega
    have e43 := f 43 (by decide)
    have e45 := f 45 (by decide)
    have e42 := f 42 (by decide)
    have e47 := f 47 (by decide)
    have e92 := f 92 (by decide)
    have e94 := f 94 (by decide)
    have e60 := f 60 (by decide)
    have e62 := f 62 (by decide)
    have e61 := f 61 (by decide)
    have e126 := f 126 (by decide)
    have e58 := f 58 (by decide)
    have e46 := f 46 (by decide)
    have e63 := f 63 (by decide)
    have e64 := f 64 (by decide)
    have e35 := f 35 (by decide)
    have e38 := f 38 (by decide)
    have e36 := f 36 (by decide)
    have e9 := f 9 (by decide)
    have e10 := f 10 (by decide)
    have e13 := f 13 (by decide)
    have e32 := f 32 (by decide)
    have e33 := f 33 (by decide)
    have e59 := f 59 (by decide)
    have e44 := f 44 (by decide)
    have e124 := f 124 (by decide)
    have e40 := f 40 (by decide)
    have e41 := f 41 (by decide)
    have e91 := f 91 (by decide)
    have e93 := f 93 (by decide)
    have e123 := f 123 (by decide)
    have e125 := f 125 (by decide)
    have e39 := f 39 (by decide)
    have e95 := f 95 (by decide)
    simp only [c89, start, List.replicate, c89_0, c89_1, c89_2, c89_3, c89_4, c89_5, c89_6, c89_7, c89_8, c89_9, c89_10, c89_11, c89_12, c89_13, c89_14, c89_15, c89_16, c89_17, c89_18, c89_20, c89_21, c89_22, c89_23, c89_25, c89_26, c89_27, c89_28, c89_30, c89_31, c89_32, c89_33, c89_34, c89_35, c89_37, c89_39, c89_41, c89_43, c89_45, c89_47,
      e43, e45, e42, e47, e92, e94, e60, e62, e61, e126, e58, e46, e63, e64, e35, e38, e36, e9, e10, e13, e32, e33, e59, e44, e124, e40, e41, e91, e93, e123, e125, e39, e95, g1, g2, g3, g4, g5, g6, Q0, Q1, Q2, Q3, Q4, Q5, Q6, Q7, Q8, Q9, Q10, Q11, Q12, Q13, Q14, Q15, Q16, Q17, Q18, Q19, Q20, Q21, Q22, Q23, Q24, Q25, Q26, Q27, Q28, Q29, Q30, Q31, Q32, Q33, Q35, Q36, Q37, Q38, Q39, Q40, Q41, Q42, Q43, Q44, Q45, Q46, Q47, Q48, Q49, Q50, Q51, Q52, Q53, Q54, Q55, Q56, Q57, Q58, Q59, Q60, Q61, Q62, Q63, Q64, Q65, Q66, Q67, Q68, Q69, Q70, Q71, Q72, Q73, Q99, Q100, Q101, Q102, Q103, Q74, Q75, Q77, Q78, Q79, Q80, Q81, Q82, Q83, Q84, clr, List.length_nil, List.length_cons, List.getElem?_cons_zero, List.getElem?_cons_succ, Nat.reduceAdd, Nat.zero_add, Nat.add_zero, Nat.reduceLeDiff, Nat.reduceSub, ↓reduceIte, List.drop_succ_cons, List.drop_zero, List.take_succ_cons, List.take_zero, Bool.false_eq_true, List.nil_append, List.cons_append, Bool.not_true, Bool.not_false, cond_true, cond_false, bne, Q85, Q86, Q87, Q88, Q89, Q90, Q91, Q92, Q93, Q94, Q95, Q96, Q97, Q98, Q110, Q111, Q116, Q117, Q118, Q119, Q120, Q121, Q122, Q123, Option.map_some, Option.map_none, Q34]
end Go.AE.YtgcbaefclkfnoaaDoor
end

/-! A rune's class: the document's. -/
section
set_option linter.unusedVariables false
set_option linter.unusedSimpArgs false
namespace Go.AE.YtgcbaefclkfnoaaDoor
open Go Go.AE Go.Proofs.YtgcbaefclkfnoaaDoor

def ixsV (x : AV) (i : Option Nat) : Option AV := match x, i with
  | .v (.string s), some i => match s[i]? with
    | some b => some (.v (.int .u8 b.toNat))
    | none => none
  | _, _ => none
theorem e_ixs {call : CallF} {vars env : List AV} {h : List AO} {x i : Opd} : evOp call vars env h (.ixs x i) = withH h (ixsV (getO vars env x) (natO vars env i)) := by
  simp only [evOp, ixsV]
  generalize getO vars env x = a
  generalize natO vars env i = b
  cases b with
  | none => cases a with
    | v x => cases x <;> rfl
    | _ => rfl
  | some i =>
    cases a with
    | v x =>
      cases x with
      | string s => simp only; cases s[i]? <;> rfl
      | _ => rfl
    | _ => rfl
theorem ixs_at {s : ByteArray} {i : Nat} (h : i < s.size) : ixsV (.v (.string s)) (some i) = some (.v (.int .u8 (s[i]).toNat)) := by
  simp [ixsV, h]
def V100 (c : Int) (s : ByteArray) (i : Int) (x4 x5 : AV) : List AV := [.v (.int .i32 c), .v (.string s), .junk, .v (.int .i64 i), x4, x5]
def K100 : List Bool := [true, true, false, true, false, false]
theorem u8_i32 (b : UInt8) : IntKind.i32.wrap (b.toNat : Int) = b.toNat := by
  have := b.toNat_lt
  simp [IntKind.wrap, IntKind.bits, IntKind.signed]
  omega
theorem among_no {c : Int} {s : ByteArray} (hm : s.size ≤ maxLen) (hno : ∀ (i : Nat) (h : i < s.size), (c == (s[i].toNat : Int)) = false) : callW F 100 [.v (.int .i32 c), .v (.string s)] [] = some (.v (.bool false), []) := by
  refine callW_pure (c := c100) rfl rfl (s.size + 1) ?_
  obtain ⟨e, v', h', g1, g2, g3⟩ := loop_rule0 (call := callW F) (K := s.size + 1) (b := c100_6) (keep := K100)
    (fun i v h => v = V100 c s i .junk .junk)
    (fun e v h => e = .exit 0 ∧ v = V100 c s s.size (.v (.bool false)) .junk)
    s.size (m := s.size + 1) (v := [.v (.int .i32 c), .v (.string s), .v (.bool false), .v (.int .i64 0), .v undef, .v undef]) (h := []) (by omega) rfl (by
      rintro i v h hi rfl
      by_cases hil : i < s.size
      · have hlt := lt_t hil
        have q1 := ixs_at hil
        have hb := hno i hil
        have hw := wrap_succ hil hm
        have hc := u8_i32 (s[i])
        refine ⟨.normal, V100 c s ((i + 1 : Nat) : Int) (.v (.bool true)) (.v (.bool false)), h, ?_, hil, rfl⟩
        simp only [V100, c100_6, c100_2, c100_3, c100_5, hlt, e_ixs, q1, e_conv, cvK_int, hc, hb, hw, Q0, Q1, Q2, Q3, Q4, Q5, Q6, Q7, Q8, Q9, Q10, Q11, Q12, Q13, Q14, Q15, Q16, Q17, Q18, Q19, Q20, Q21, Q22, Q23, Q24, Q25, Q26, Q27, Q28, Q29, Q30, Q31, Q32, Q33, Q35, Q36, Q37, Q38, Q39, Q40, Q41, Q42, Q43, Q44, Q45, Q46, Q47, Q48, Q49, Q50, Q51, Q52, Q53, Q54, Q55, Q56, Q57, Q58, Q59, Q60, Q61, Q62, Q63, Q64, Q65, Q66, Q67, Q68, Q69, Q70, Q71, Q72, Q73, Q99, Q100, Q101, Q102, Q103, Q74, Q75, Q77, Q78, Q79, Q80, Q81, Q82, Q83, Q84, clr, List.length_nil, List.length_cons, List.getElem?_cons_zero, List.getElem?_cons_succ, Nat.reduceAdd, Nat.zero_add, Nat.add_zero, Nat.reduceLeDiff, Nat.reduceSub, ↓reduceIte, List.drop_succ_cons, List.drop_zero, List.take_succ_cons, List.take_zero, Bool.false_eq_true, List.nil_append, List.cons_append, Bool.not_true, Bool.not_false, cond_true, cond_false, bne, Q85, Q86, Q87, Q88, Q89, Q90, Q91, Q92, Q93, Q94, Q95, Q96, Q97, Q98, Q110, Q111, Q116, Q117, Q118, Q119, Q120, Q121, Q122, Q123, Option.map_some, Option.map_none, Q34]
      · have hie : i = s.size := by omega
        subst hie
        have hlt := lt_f (n := s.size)
        refine ⟨.exit 0, V100 c s s.size (.v (.bool false)) .junk, h, ?_, rfl, rfl⟩
        simp only [V100, c100_6, c100_2, hlt, Q0, Q1, Q2, Q3, Q4, Q5, Q6, Q7, Q8, Q9, Q10, Q11, Q12, Q13, Q14, Q15, Q16, Q17, Q18, Q19, Q20, Q21, Q22, Q23, Q24, Q25, Q26, Q27, Q28, Q29, Q30, Q31, Q32, Q33, Q35, Q36, Q37, Q38, Q39, Q40, Q41, Q42, Q43, Q44, Q45, Q46, Q47, Q48, Q49, Q50, Q51, Q52, Q53, Q54, Q55, Q56, Q57, Q58, Q59, Q60, Q61, Q62, Q63, Q64, Q65, Q66, Q67, Q68, Q69, Q70, Q71, Q72, Q73, Q99, Q100, Q101, Q102, Q103, Q74, Q75, Q77, Q78, Q79, Q80, Q81, Q82, Q83, Q84, clr, List.length_nil, List.length_cons, List.getElem?_cons_zero, List.getElem?_cons_succ, Nat.reduceAdd, Nat.zero_add, Nat.add_zero, Nat.reduceLeDiff, Nat.reduceSub, ↓reduceIte, List.drop_succ_cons, List.drop_zero, List.take_succ_cons, List.take_zero, Bool.false_eq_true, List.nil_append, List.cons_append, Bool.not_true, Bool.not_false, cond_true, cond_false, bne, Q85, Q86, Q87, Q88, Q89, Q90, Q91, Q92, Q93, Q94, Q95, Q96, Q97, Q98, Q110, Q111, Q116, Q117, Q118, Q119, Q120, Q121, Q122, Q123, Option.map_some, Option.map_none, Q34])
  rw [show c100.body = (.seq (.region [] [] c100_0) (.seq (.seq (.region [] [] c100_1) (.block 0 (.loop K100 [] c100_6))) (.seq (.region [] [] c100_7) .ret))) from rfl, show c100.res = [.var 2] from rfl]
  rw [show start c100 [.v (.int .i32 c), .v (.string s)] = [.v (.int .i32 c), .v (.string s), .v undef, .v undef, .v undef, .v undef] from rfl]
  obtain ⟨rfl, rfl⟩ := g3
  generalize c100_6 = bb at g1 ⊢
  simp only [V100, c100_0, c100_1, c100_7, g1, Q0, Q1, Q2, Q3, Q4, Q5, Q6, Q7, Q8, Q9, Q10, Q11, Q12, Q13, Q14, Q15, Q16, Q17, Q18, Q19, Q20, Q21, Q22, Q23, Q24, Q25, Q26, Q27, Q28, Q29, Q30, Q31, Q32, Q33, Q35, Q36, Q37, Q38, Q39, Q40, Q41, Q42, Q43, Q44, Q45, Q46, Q47, Q48, Q49, Q50, Q51, Q52, Q53, Q54, Q55, Q56, Q57, Q58, Q59, Q60, Q61, Q62, Q63, Q64, Q65, Q66, Q67, Q68, Q69, Q70, Q71, Q72, Q73, Q99, Q100, Q101, Q102, Q103, Q74, Q75, Q77, Q78, Q79, Q80, Q81, Q82, Q83, Q84, clr, List.length_nil, List.length_cons, List.getElem?_cons_zero, List.getElem?_cons_succ, Nat.reduceAdd, Nat.zero_add, Nat.add_zero, Nat.reduceLeDiff, Nat.reduceSub, ↓reduceIte, List.drop_succ_cons, List.drop_zero, List.take_succ_cons, List.take_zero, Bool.false_eq_true, List.nil_append, List.cons_append, Bool.not_true, Bool.not_false, cond_true, cond_false, bne, Q85, Q86, Q87, Q88, Q89, Q90, Q91, Q92, Q93, Q94, Q95, Q96, Q97, Q98, Q110, Q111, Q116, Q117, Q118, Q119, Q120, Q121, Q122, Q123, Option.map_some, Option.map_none, Q34]
theorem among_far {c : Nat} (hc : ¬ c < 128) {l : List UInt8} (hl : l.all (fun b => decide (b.toNat < 128)) = true) (hm : l.length ≤ maxLen) : callW F 100 [.v (.int .i32 (c : Int)), .v (.string ⟨l.toArray⟩)] [] = some (.v (.bool false), []) := by
  refine among_no (by simpa [ByteArray.size] using hm) fun i h => ?_
  have h1 : (⟨l.toArray⟩ : ByteArray)[i] ∈ l := by
    have : (⟨l.toArray⟩ : ByteArray)[i] = l[i]'(by simpa [ByteArray.size] using h) := rfl
    rw [this]; exact List.getElem_mem _
  have h2 := List.all_eq_true.1 hl _ h1
  simp only [decide_eq_true_eq] at h2
  simp; omega
theorem rcls_ok (c : Nat) : callW F 92 [.v (.int .i32 (c : Int))] [] = some (.v (.int .i64 (clsN c)), []) := by
  by_cases h : c < 128
  · exact callW_iff.2 ⟨60, List.map_inj_left.1 rcls_tab c (List.mem_range.2 h)⟩
  · rw [cls_far h]
    refine callW_pure (c := c92) rfl rfl 0 ?_
    have f : ∀ k : Int, k < 128 → ((c : Int) == k) = false := fun k hk => by simp; omega
    have g1 : decide ((c : Int) ≥ 97) = true := by simp; omega
    have g2 : decide ((c : Int) ≤ 122) = false := by simp; omega
    have g3 : decide ((c : Int) ≥ 65) = true := by simp; omega
    have g4 : decide ((c : Int) ≤ 90) = false := by simp; omega
    have g5 : decide ((c : Int) ≥ 48) = true := by simp; omega
    have g6 : decide ((c : Int) ≤ 57) = false := by simp; omega
    have e9 := f 9 (by decide)
    have e10 := f 10 (by decide)
    have e13 := f 13 (by decide)
    have e32 := f 32 (by decide)
    have e39 := f 39 (by decide)
    have e95 := f 95 (by decide)
    have a1 := among_far h (l := [43, 45, 42, 47, 92, 94, 60, 62, 61, 126, 58, 46, 63, 64, 35, 38, 36]) (by decide) (by decide)
    have a2 := among_far h (l := [33, 59, 44, 124]) (by decide) (by decide)
    have a3 := among_far h (l := [40, 41, 91, 93, 123, 125]) (by decide) (by decide)
    have sn : ∀ (h : List AO) (k : IntKind) (x : Int), (AV.v (.int k x)).snap1 h = some (.v (.int k x)) := fun _ _ _ => rfl
    simp only [c92, start, List.replicate, c92_0, c92_1, c92_3, c92_5, c92_7, c92_9, c92_11, c92_13, c92_15, c92_17, e9, e10, e13, e32, e39, e95, g1, g2, g3, g4, g5, g6, a1, a2, a3, sn, snap_str, Q0, Q1, Q2, Q3, Q4, Q5, Q6, Q7, Q8, Q9, Q10, Q11, Q12, Q13, Q14, Q15, Q16, Q17, Q18, Q19, Q20, Q21, Q22, Q23, Q24, Q25, Q26, Q27, Q28, Q29, Q30, Q31, Q32, Q33, Q35, Q36, Q37, Q38, Q39, Q40, Q41, Q42, Q43, Q44, Q45, Q46, Q47, Q48, Q49, Q50, Q51, Q52, Q53, Q54, Q55, Q56, Q57, Q58, Q59, Q60, Q61, Q62, Q63, Q64, Q65, Q66, Q67, Q68, Q69, Q70, Q71, Q72, Q73, Q99, Q100, Q101, Q102, Q103, Q74, Q75, Q77, Q78, Q79, Q80, Q81, Q82, Q83, Q84, clr, List.length_nil, List.length_cons, List.getElem?_cons_zero, List.getElem?_cons_succ, Nat.reduceAdd, Nat.zero_add, Nat.add_zero, Nat.reduceLeDiff, Nat.reduceSub, ↓reduceIte, List.drop_succ_cons, List.drop_zero, List.take_succ_cons, List.take_zero, Bool.false_eq_true, List.nil_append, List.cons_append, Bool.not_true, Bool.not_false, cond_true, cond_false, bne, Q85, Q86, Q87, Q88, Q89, Q90, Q91, Q92, Q93, Q94, Q95, Q96, Q97, Q98, Q110, Q111, Q116, Q117, Q118, Q119, Q120, Q121, Q122, Q123, Option.map_some, Option.map_none, Q34]
end Go.AE.YtgcbaefclkfnoaaDoor
end

/-! Whether an atom's text needs no quotes: the program's. -/
section
set_option linter.unusedVariables false
set_option linter.unusedSimpArgs false
namespace Go.AE.YtgcbaefclkfnoaaDoor
open Go Go.AE Go.Proofs.YtgcbaefclkfnoaaDoor

section
variable {call : CallF} {vars env : List AV} {h : List AO}
def ssV (x : AV) (lo hi : Option (Option Nat)) : Option AV := match x with
  | .v (.string s) => match slo s.size hi, slo 0 lo with
    | some b, some a => if a ≤ b ∧ b ≤ s.size then some (.v (.string (s.extract a b))) else none
    | _, _ => none
  | _ => none
theorem e_sslice {x : Opd} {lo hi : Option Opd} : evOp call vars env h (.sslice x lo hi) = withH h (ssV (getO vars env x) (lo.map (natO vars env)) (hi.map (natO vars env))) := by
  simp only [evOp, ssV, bounds, slo_opt]
  generalize getO vars env x = a
  cases a with
  | v x =>
    cases x with
    | string s =>
      simp only
      cases slo s.size (hi.map (natO vars env)) with
      | none => rfl
      | some b =>
        cases slo 0 (lo.map (natO vars env)) with
        | none => rfl
        | some a => by_cases e : a ≤ b ∧ b ≤ s.size <;> simp [e, withH]
    | _ => rfl
  | _ => rfl
theorem e_next {x : Opd} : evOp call vars env h (.next x) = evNext h (getO vars env x) := rfl
def rgV (h : List AO) : AV → Option (AV × List AO)
  | .v (.string s) => some (.it h.length, h ++ [.siter s 0])
  | _ => none
theorem e_range {x : Opd} : evOp call vars env h (.range x) = rgV h (getO vars env x) := by
  simp only [evOp, rgV]
  rfl
end
theorem ss_to {s : ByteArray} {b : Nat} (h : b ≤ s.size) : ssV (.v (.string s)) none (some (some b)) = some (.v (.string (s.extract 0 b))) := by simp [ssV, slo, h]
theorem ss_from {s : ByteArray} {a : Nat} (h : a ≤ s.size) : ssV (.v (.string s)) (some (some a)) none = some (.v (.string (s.extract a s.size))) := by simp [ssV, slo, h]

/-! ### A text's runes -/
def rns (s : ByteArray) : Nat → Nat → List Nat
  | 0, _ => []
  | f + 1, p => if p < s.size then (Utf8.decode s p).1 :: rns s f (p + (Utf8.decode s p).2) else []
def runesOf (s : ByteArray) : List Nat := rns s s.size 0
def eqS (s : ByteArray) (l : List UInt8) : Bool := s.toList == (⟨l.toArray⟩ : ByteArray).toList
def preS (s : ByteArray) : Bool := decide ((s.size : Int) ≥ ((2 : Nat) : Int)) && ((s.extract 0 2).toList == (⟨#[47, 42]⟩ : ByteArray).toList)
def okR (f k : Int) : Bool := if (f == 1) = true then !(decide (k < 1) || decide (k > 3)) else if (f == 4) = true then k == 4 else false
def firstC (s : ByteArray) : Int := clsN (Utf8.decode s 0).1
def bareS (s : ByteArray) : Bool :=
  if eqS s [91, 93] || (eqS s [123, 125] || (eqS s [33] || eqS s [59])) then true
  else if eqS s [] || eqS s [46] then false
  else if preS s then false
  else (runesOf s).all fun c => okR (firstC s) (clsN c)
theorem pre_ok (s : ByteArray) : callW F 88 [.v (.string s), .v (.string ⟨#[47, 42]⟩)] [] = some (.v (.bool (preS s)), []) := by
  have h94 : callW F 94 [.v (.string s), .v (.string ⟨#[47, 42]⟩)] [] = some (.v (.bool (preS s)), []) := by
    refine callW_pure (c := c94) rfl rfl 0 ?_
    unfold preS
    have e2 : (⟨#[47, 42]⟩ : ByteArray).size = 2 := rfl
    cases h1 : decide ((s.size : Int) ≥ ((2 : Nat) : Int)) with
    | false => simp only [c94, start, List.replicate, c94_0, c94_1, e2, h1, Bool.false_and, Q0, Q1, Q2, Q3, Q4, Q5, Q6, Q7, Q8, Q9, Q10, Q11, Q12, Q13, Q14, Q15, Q16, Q17, Q18, Q19, Q20, Q21, Q22, Q23, Q24, Q25, Q26, Q27, Q28, Q29, Q30, Q31, Q32, Q33, Q35, Q36, Q37, Q38, Q39, Q40, Q41, Q42, Q43, Q44, Q45, Q46, Q47, Q48, Q49, Q50, Q51, Q52, Q53, Q54, Q55, Q56, Q57, Q58, Q59, Q60, Q61, Q62, Q63, Q64, Q65, Q66, Q67, Q68, Q69, Q70, Q71, Q72, Q73, Q99, Q100, Q101, Q102, Q103, Q74, Q75, Q77, Q78, Q79, Q80, Q81, Q82, Q83, Q84, clr, List.length_nil, List.length_cons, List.getElem?_cons_zero, List.getElem?_cons_succ, Nat.reduceAdd, Nat.zero_add, Nat.add_zero, Nat.reduceLeDiff, Nat.reduceSub, ↓reduceIte, List.drop_succ_cons, List.drop_zero, List.take_succ_cons, List.take_zero, Bool.false_eq_true, List.nil_append, List.cons_append, Bool.not_true, Bool.not_false, cond_true, cond_false, bne, Q85, Q86, Q87, Q88, Q89, Q90, Q91, Q92, Q93, Q94, Q95, Q96, Q97, Q98, Q110, Q111, Q116, Q117, Q118, Q119, Q120, Q121, Q122, Q123, Option.map_some, Option.map_none, Q34]
    | true =>
      have h2 : 2 ≤ s.size := by simp at h1; omega
      have q := ss_to h2
      simp only [c94, start, List.replicate, c94_0, c94_1, e2, h1, e_sslice, q, Bool.true_and, Q0, Q1, Q2, Q3, Q4, Q5, Q6, Q7, Q8, Q9, Q10, Q11, Q12, Q13, Q14, Q15, Q16, Q17, Q18, Q19, Q20, Q21, Q22, Q23, Q24, Q25, Q26, Q27, Q28, Q29, Q30, Q31, Q32, Q33, Q35, Q36, Q37, Q38, Q39, Q40, Q41, Q42, Q43, Q44, Q45, Q46, Q47, Q48, Q49, Q50, Q51, Q52, Q53, Q54, Q55, Q56, Q57, Q58, Q59, Q60, Q61, Q62, Q63, Q64, Q65, Q66, Q67, Q68, Q69, Q70, Q71, Q72, Q73, Q99, Q100, Q101, Q102, Q103, Q74, Q75, Q77, Q78, Q79, Q80, Q81, Q82, Q83, Q84, clr, List.length_nil, List.length_cons, List.getElem?_cons_zero, List.getElem?_cons_succ, Nat.reduceAdd, Nat.zero_add, Nat.add_zero, Nat.reduceLeDiff, Nat.reduceSub, ↓reduceIte, List.drop_succ_cons, List.drop_zero, List.take_succ_cons, List.take_zero, Bool.false_eq_true, List.nil_append, List.cons_append, Bool.not_true, Bool.not_false, cond_true, cond_false, bne, Q85, Q86, Q87, Q88, Q89, Q90, Q91, Q92, Q93, Q94, Q95, Q96, Q97, Q98, Q110, Q111, Q116, Q117, Q118, Q119, Q120, Q121, Q122, Q123, Option.map_some, Option.map_none, Q34]
  refine callW_pure (c := c88) rfl rfl 0 ?_
  simp only [c88, start, List.replicate, c88_0, c88_1, h94, snap_str, Q0, Q1, Q2, Q3, Q4, Q5, Q6, Q7, Q8, Q9, Q10, Q11, Q12, Q13, Q14, Q15, Q16, Q17, Q18, Q19, Q20, Q21, Q22, Q23, Q24, Q25, Q26, Q27, Q28, Q29, Q30, Q31, Q32, Q33, Q35, Q36, Q37, Q38, Q39, Q40, Q41, Q42, Q43, Q44, Q45, Q46, Q47, Q48, Q49, Q50, Q51, Q52, Q53, Q54, Q55, Q56, Q57, Q58, Q59, Q60, Q61, Q62, Q63, Q64, Q65, Q66, Q67, Q68, Q69, Q70, Q71, Q72, Q73, Q99, Q100, Q101, Q102, Q103, Q74, Q75, Q77, Q78, Q79, Q80, Q81, Q82, Q83, Q84, clr, List.length_nil, List.length_cons, List.getElem?_cons_zero, List.getElem?_cons_succ, Nat.reduceAdd, Nat.zero_add, Nat.add_zero, Nat.reduceLeDiff, Nat.reduceSub, ↓reduceIte, List.drop_succ_cons, List.drop_zero, List.take_succ_cons, List.take_zero, Bool.false_eq_true, List.nil_append, List.cons_append, Bool.not_true, Bool.not_false, cond_true, cond_false, bne, Q85, Q86, Q87, Q88, Q89, Q90, Q91, Q92, Q93, Q94, Q95, Q96, Q97, Q98, Q110, Q111, Q116, Q117, Q118, Q119, Q120, Q121, Q122, Q123, Option.map_some, Option.map_none, Q34]

theorem width_pos (s : ByteArray) (p : Nat) : 1 ≤ (Utf8.decode s p).2 := Lib.width_pos s p
theorem rns_cons {s : ByteArray} {f p : Nat} (hp : p < s.size) : rns s (f + 1) p = (Utf8.decode s p).1 :: rns s f (p + (Utf8.decode s p).2) := by rw [rns, if_pos hp]
theorem rns_nil {s : ByteArray} {f p : Nat} (hp : ¬ p < s.size) : rns s f p = [] := by cases f <;> simp [rns, hp]
def V79 (s : ByteArray) (f : Int) (x11 x12 : AV) : List AV := [.v (.string s), .junk, .v (.int .i64 f), .junk, .junk, .junk, .junk, .junk, .junk, .junk, .it 0, x11, x12, .junk, .junk, .junk, .junk, .junk, .junk]
def K79 : List Bool := [true, false, true, false, false, false, false, false, false, false, true, false, false, false, false, false, false, false, false]
theorem bare_loop79 {s : ByteArray} (v : List AV) (hv : clr K79 v = V79 s 0 .junk .junk) :
    ((runesOf s).all (fun c => okR (firstC s) (clsN c)) = true ∧ ∃ (f : Int) (x11 : AV) (h : List AO), loopN (exec (callW F) (s.size + 1) c79_27) K79 (s.size + 1) v [.siter s 0] = some (.exit 1, V79 s f x11 (.v (.bool false)), h)) ∨
    ((runesOf s).all (fun c => okR (firstC s) (clsN c)) = false ∧ ∃ v' h, loopN (exec (callW F) (s.size + 1) c79_27) K79 (s.size + 1) v [.siter s 0] = some (.ret, v', h) ∧ getO v' [] (.var 1) = .v (.bool false)) := by
  obtain ⟨e, v', h', g1, g2, g3⟩ := loop_rule0 (call := callW F) (K := s.size + 1) (b := c79_27) (keep := K79)
    (fun i v h => ∃ (p : Nat) (f : Int), i ≤ p ∧ ((p = 0 ∧ f = 0) ∨ (p ≠ 0 ∧ f = firstC s)) ∧ v = V79 s f .junk .junk ∧ h = [.siter s p] ∧ (rns s (s.size - i) p).all (fun c => okR (firstC s) (clsN c)) = (runesOf s).all (fun c => okR (firstC s) (clsN c)))
    (fun e v h => (e = .exit 1 ∧ (runesOf s).all (fun c => okR (firstC s) (clsN c)) = true ∧ ∃ (f : Int) (x11 : AV), v = V79 s f x11 (.v (.bool false))) ∨ (e = .ret ∧ (runesOf s).all (fun c => okR (firstC s) (clsN c)) = false ∧ getO v [] (.var 1) = .v (.bool false)))
    s.size (m := s.size + 1) (v := v) (h := [.siter s 0]) (by omega) ⟨0, 0, Nat.le_refl _, .inl ⟨rfl, rfl⟩, hv, rfl, rfl⟩ (by
      rintro i v h hi ⟨p, f, hip, hf, rfl, rfl, hR⟩
      by_cases hp : p < s.size
      · have nx : evNext [.siter s p] (.it 0) = some (.tup [.v (.bool true), .v (.int .i64 p), .v (.int .i32 (Utf8.decode s p).1)], [.siter s (p + (Utf8.decode s p).2)]) := by
          simp only [evNext, List.getElem?_cons_zero, hp, if_true, List.set_cons_zero]
        have hw := width_pos s p
        have hil : i < s.size := by omega
        have e1 : s.size - i = (s.size - (i + 1)) + 1 := by omega
        rw [e1, rns_cons hp, List.all_cons] at hR
        have hc := cls_ok (Utf8.decode s p).1
        have hfirst : p = 0 → clsN (Utf8.decode s p).1 = firstC s := by rintro rfl; rfl
        generalize clsN (Utf8.decode s p).1 = k at hc hR hfirst
        have hp0 : ((p : Int) == 0) = decide (p = 0) := by
          by_cases e : p = 0
          · simp [e]
          · simp [e]
        -- behind the first rune's step
        have main : ∀ x13 : Bool, x13 = decide (p = 0) → ∀ ff : Int, ff = firstC s → (if x13 = true then k else f) = ff → ∃ x v' h', exec (callW F) (s.size + 1) c79_27 (V79 s f .junk .junk) [.siter s p] = some (x, v', h') ∧
            Aft s.size i K79 (fun i v h => ∃ (p : Nat) (f : Int), i ≤ p ∧ ((p = 0 ∧ f = 0) ∨ (p ≠ 0 ∧ f = firstC s)) ∧ v = V79 s f .junk .junk ∧ h = [.siter s p] ∧ (rns s (s.size - i) p).all (fun c => okR (firstC s) (clsN c)) = (runesOf s).all (fun c => okR (firstC s) (clsN c)))
              (fun e v h => (e = .exit 1 ∧ (runesOf s).all (fun c => okR (firstC s) (clsN c)) = true ∧ ∃ (f : Int) (x11 : AV), v = V79 s f x11 (.v (.bool false))) ∨ (e = .ret ∧ (runesOf s).all (fun c => okR (firstC s) (clsN c)) = false ∧ getO v [] (.var 1) = .v (.bool false))) x v' h' := by
          intro x13 hx ff hff hsel
          rw [← hff] at hR
          have next : okR ff k = true → Aft s.size i K79 (fun i v h => ∃ (p : Nat) (f : Int), i ≤ p ∧ ((p = 0 ∧ f = 0) ∨ (p ≠ 0 ∧ f = firstC s)) ∧ v = V79 s f .junk .junk ∧ h = [.siter s p] ∧ (rns s (s.size - i) p).all (fun c => okR (firstC s) (clsN c)) = (runesOf s).all (fun c => okR (firstC s) (clsN c)))
              (fun e v h => (e = .exit 1 ∧ (runesOf s).all (fun c => okR (firstC s) (clsN c)) = true ∧ ∃ (f : Int) (x11 : AV), v = V79 s f x11 (.v (.bool false))) ∨ (e = .ret ∧ (runesOf s).all (fun c => okR (firstC s) (clsN c)) = false ∧ getO v [] (.var 1) = .v (.bool false))) .normal (V79 s ff .junk .junk) [.siter s (p + (Utf8.decode s p).2)] := by
            intro hok
            rw [hok, Bool.true_and] at hR
            refine ⟨hil, p + (Utf8.decode s p).2, ff, by omega, .inr ⟨by omega, hff⟩, rfl, rfl, ?_⟩
            rw [← hff]; exact hR
          have hpx : ((p : Int) == 0) = x13 := by rw [hp0, hx]
          have sn : ∀ (h : List AO) (k : IntKind) (x : Int), (AV.v (.int k x)).snap1 h = some (.v (.int k x)) := fun _ _ _ => rfl
          clear hx
          have bad : okR ff k = false → (runesOf s).all (fun c => okR (firstC s) (clsN c)) = false := by
            intro hok
            rw [hok, Bool.false_and] at hR
            rw [← hff]; exact hR.symm
          have sel : ∀ vs : Bool, x13 = vs → (if vs = true then k else f) = ff := by rintro _ rfl; exact hsel
          clear hsel hR
          cases q1 : (ff == 1) with
          | true =>
            cases q2 : decide (k < 1) with
            | true =>
              have hok : okR ff k = false := by simp only [okR, q1, q2, if_true, Bool.true_or, Bool.not_true]
              refine ⟨.ret, [.v (.string s), .v (.bool false), .v (.int .i64 ff), .v (.int .i64 p), .v (.int .i32 (Utf8.decode s p).1), .v (.int .i64 k), .junk, .junk, .junk, .junk, .it 0, .tup [.v (.bool true), .v (.int .i64 p), .v (.int .i32 (Utf8.decode s p).1)], .v (.bool true), .v (.bool x13), .v (.int .i64 ff), .v (.bool true), .v (.bool true), .junk, .junk], [.siter s (p + (Utf8.decode s p).2)], ?_, .inr ⟨rfl, bad hok, rfl⟩⟩
              cases x13 <;> (have hs := sel _ rfl; simp only [if_true, if_false, Bool.false_eq_true] at hs; subst hs; simp only [V79, c79_27, c79_14, c79_15, c79_16, c79_17, c79_18, c79_19, e_next, nx, hc, hpx, sn, snap_int, ex_2, q1, q2, c79_20, c79_21, c79_22, Q0, Q1, Q2, Q3, Q4, Q5, Q6, Q7, Q8, Q9, Q10, Q11, Q12, Q13, Q14, Q15, Q16, Q17, Q18, Q19, Q20, Q21, Q22, Q23, Q24, Q25, Q26, Q27, Q28, Q29, Q30, Q31, Q32, Q33, Q35, Q36, Q37, Q38, Q39, Q40, Q41, Q42, Q43, Q44, Q45, Q46, Q47, Q48, Q49, Q50, Q51, Q52, Q53, Q54, Q55, Q56, Q57, Q58, Q59, Q60, Q61, Q62, Q63, Q64, Q65, Q66, Q67, Q68, Q69, Q70, Q71, Q72, Q73, Q99, Q100, Q101, Q102, Q103, Q74, Q75, Q77, Q78, Q79, Q80, Q81, Q82, Q83, Q84, clr, List.length_nil, List.length_cons, List.getElem?_cons_zero, List.getElem?_cons_succ, Nat.reduceAdd, Nat.zero_add, Nat.add_zero, Nat.reduceLeDiff, Nat.reduceSub, ↓reduceIte, List.drop_succ_cons, List.drop_zero, List.take_succ_cons, List.take_zero, Bool.false_eq_true, List.nil_append, List.cons_append, Bool.not_true, Bool.not_false, cond_true, cond_false, bne, Q85, Q86, Q87, Q88, Q89, Q90, Q91, Q92, Q93, Q94, Q95, Q96, Q97, Q98, Q110, Q111, Q116, Q117, Q118, Q119, Q120, Q121, Q122, Q123, Option.map_some, Option.map_none, Q34])
            | false =>
              cases q3 : decide (k > 3) with
              | true =>
                have hok : okR ff k = false := by simp only [okR, q1, q2, q3, if_true, Bool.or_true, Bool.not_true]
                refine ⟨.ret, [.v (.string s), .v (.bool false), .v (.int .i64 ff), .v (.int .i64 p), .v (.int .i32 (Utf8.decode s p).1), .v (.int .i64 k), .junk, .junk, .junk, .junk, .it 0, .tup [.v (.bool true), .v (.int .i64 p), .v (.int .i32 (Utf8.decode s p).1)], .v (.bool true), .v (.bool x13), .v (.int .i64 ff), .v (.bool true), .v (.bool true), .junk, .junk], [.siter s (p + (Utf8.decode s p).2)], ?_, .inr ⟨rfl, bad hok, rfl⟩⟩
                cases x13 <;> (have hs := sel _ rfl; simp only [if_true, if_false, Bool.false_eq_true] at hs; subst hs; simp only [V79, c79_27, c79_14, c79_15, c79_16, c79_17, c79_18, c79_19, e_next, nx, hc, hpx, sn, snap_int, ex_2, q1, q2, q3, c79_20, c79_21, c79_22, Q0, Q1, Q2, Q3, Q4, Q5, Q6, Q7, Q8, Q9, Q10, Q11, Q12, Q13, Q14, Q15, Q16, Q17, Q18, Q19, Q20, Q21, Q22, Q23, Q24, Q25, Q26, Q27, Q28, Q29, Q30, Q31, Q32, Q33, Q35, Q36, Q37, Q38, Q39, Q40, Q41, Q42, Q43, Q44, Q45, Q46, Q47, Q48, Q49, Q50, Q51, Q52, Q53, Q54, Q55, Q56, Q57, Q58, Q59, Q60, Q61, Q62, Q63, Q64, Q65, Q66, Q67, Q68, Q69, Q70, Q71, Q72, Q73, Q99, Q100, Q101, Q102, Q103, Q74, Q75, Q77, Q78, Q79, Q80, Q81, Q82, Q83, Q84, clr, List.length_nil, List.length_cons, List.getElem?_cons_zero, List.getElem?_cons_succ, Nat.reduceAdd, Nat.zero_add, Nat.add_zero, Nat.reduceLeDiff, Nat.reduceSub, ↓reduceIte, List.drop_succ_cons, List.drop_zero, List.take_succ_cons, List.take_zero, Bool.false_eq_true, List.nil_append, List.cons_append, Bool.not_true, Bool.not_false, cond_true, cond_false, bne, Q85, Q86, Q87, Q88, Q89, Q90, Q91, Q92, Q93, Q94, Q95, Q96, Q97, Q98, Q110, Q111, Q116, Q117, Q118, Q119, Q120, Q121, Q122, Q123, Option.map_some, Option.map_none, Q34])
              | false =>
                have hok : okR ff k = true := by simp only [okR, q1, q2, q3, if_true, Bool.or_false, Bool.not_false]
                refine ⟨.normal, [.v (.string s), .junk, .v (.int .i64 ff), .v (.int .i64 p), .v (.int .i32 (Utf8.decode s p).1), .v (.int .i64 k), .junk, .junk, .junk, .junk, .it 0, .tup [.v (.bool true), .v (.int .i64 p), .v (.int .i32 (Utf8.decode s p).1)], .v (.bool true), .v (.bool x13), .v (.int .i64 ff), .v (.bool true), .v (.bool false), .junk, .junk], [.siter s (p + (Utf8.decode s p).2)], ?_, next hok⟩
                cases x13 <;> (have hs := sel _ rfl; simp only [if_true, if_false, Bool.false_eq_true] at hs; subst hs; simp only [V79, c79_27, c79_14, c79_15, c79_16, c79_17, c79_18, c79_19, e_next, nx, hc, hpx, sn, snap_int, ex_2, q1, q2, q3, c79_20, c79_21, Q0, Q1, Q2, Q3, Q4, Q5, Q6, Q7, Q8, Q9, Q10, Q11, Q12, Q13, Q14, Q15, Q16, Q17, Q18, Q19, Q20, Q21, Q22, Q23, Q24, Q25, Q26, Q27, Q28, Q29, Q30, Q31, Q32, Q33, Q35, Q36, Q37, Q38, Q39, Q40, Q41, Q42, Q43, Q44, Q45, Q46, Q47, Q48, Q49, Q50, Q51, Q52, Q53, Q54, Q55, Q56, Q57, Q58, Q59, Q60, Q61, Q62, Q63, Q64, Q65, Q66, Q67, Q68, Q69, Q70, Q71, Q72, Q73, Q99, Q100, Q101, Q102, Q103, Q74, Q75, Q77, Q78, Q79, Q80, Q81, Q82, Q83, Q84, clr, List.length_nil, List.length_cons, List.getElem?_cons_zero, List.getElem?_cons_succ, Nat.reduceAdd, Nat.zero_add, Nat.add_zero, Nat.reduceLeDiff, Nat.reduceSub, ↓reduceIte, List.drop_succ_cons, List.drop_zero, List.take_succ_cons, List.take_zero, Bool.false_eq_true, List.nil_append, List.cons_append, Bool.not_true, Bool.not_false, cond_true, cond_false, bne, Q85, Q86, Q87, Q88, Q89, Q90, Q91, Q92, Q93, Q94, Q95, Q96, Q97, Q98, Q110, Q111, Q116, Q117, Q118, Q119, Q120, Q121, Q122, Q123, Option.map_some, Option.map_none, Q34])
          | false =>
            cases q4 : (ff == 4) with
            | false =>
              have hok : okR ff k = false := by simp only [okR, q1, q4, Bool.false_eq_true, if_false]
              refine ⟨.ret, [.v (.string s), .v (.bool false), .v (.int .i64 ff), .v (.int .i64 p), .v (.int .i32 (Utf8.decode s p).1), .v (.int .i64 k), .junk, .junk, .junk, .junk, .it 0, .tup [.v (.bool true), .v (.int .i64 p), .v (.int .i32 (Utf8.decode s p).1)], .v (.bool true), .v (.bool x13), .v (.int .i64 ff), .v (.bool false), .junk, .v (.bool false), .junk], [.siter s (p + (Utf8.decode s p).2)], ?_, .inr ⟨rfl, bad hok, rfl⟩⟩
              cases x13 <;> (have hs := sel _ rfl; simp only [if_true, if_false, Bool.false_eq_true] at hs; subst hs; simp only [V79, c79_27, c79_14, c79_15, c79_16, c79_17, c79_18, c79_19, e_next, nx, hc, hpx, sn, snap_int, ex_2, q1, q4, c79_20, c79_23, c79_26, Q0, Q1, Q2, Q3, Q4, Q5, Q6, Q7, Q8, Q9, Q10, Q11, Q12, Q13, Q14, Q15, Q16, Q17, Q18, Q19, Q20, Q21, Q22, Q23, Q24, Q25, Q26, Q27, Q28, Q29, Q30, Q31, Q32, Q33, Q35, Q36, Q37, Q38, Q39, Q40, Q41, Q42, Q43, Q44, Q45, Q46, Q47, Q48, Q49, Q50, Q51, Q52, Q53, Q54, Q55, Q56, Q57, Q58, Q59, Q60, Q61, Q62, Q63, Q64, Q65, Q66, Q67, Q68, Q69, Q70, Q71, Q72, Q73, Q99, Q100, Q101, Q102, Q103, Q74, Q75, Q77, Q78, Q79, Q80, Q81, Q82, Q83, Q84, clr, List.length_nil, List.length_cons, List.getElem?_cons_zero, List.getElem?_cons_succ, Nat.reduceAdd, Nat.zero_add, Nat.add_zero, Nat.reduceLeDiff, Nat.reduceSub, ↓reduceIte, List.drop_succ_cons, List.drop_zero, List.take_succ_cons, List.take_zero, Bool.false_eq_true, List.nil_append, List.cons_append, Bool.not_true, Bool.not_false, cond_true, cond_false, bne, Q85, Q86, Q87, Q88, Q89, Q90, Q91, Q92, Q93, Q94, Q95, Q96, Q97, Q98, Q110, Q111, Q116, Q117, Q118, Q119, Q120, Q121, Q122, Q123, Option.map_some, Option.map_none, Q34])
            | true =>
              cases q5 : (k == 4) with
              | false =>
                have hok : okR ff k = false := by simp only [okR, q1, q4, q5, Bool.false_eq_true, if_false, if_true]
                refine ⟨.ret, [.v (.string s), .v (.bool false), .v (.int .i64 ff), .v (.int .i64 p), .v (.int .i32 (Utf8.decode s p).1), .v (.int .i64 k), .junk, .junk, .junk, .junk, .it 0, .tup [.v (.bool true), .v (.int .i64 p), .v (.int .i32 (Utf8.decode s p).1)], .v (.bool true), .v (.bool x13), .v (.int .i64 ff), .v (.bool false), .junk, .v (.bool true), .v (.bool true)], [.siter s (p + (Utf8.decode s p).2)], ?_, .inr ⟨rfl, bad hok, rfl⟩⟩
                cases x13 <;> (have hs := sel _ rfl; simp only [if_true, if_false, Bool.false_eq_true] at hs; subst hs; first | exact absurd (q4.symm.trans q5) (by decide) | simp only [V79, c79_27, c79_14, c79_15, c79_16, c79_17, c79_18, c79_19, e_next, nx, hc, hpx, sn, snap_int, ex_2, q1, q4, q5, c79_20, c79_23, c79_24, c79_25, Bool.not_false, Q0, Q1, Q2, Q3, Q4, Q5, Q6, Q7, Q8, Q9, Q10, Q11, Q12, Q13, Q14, Q15, Q16, Q17, Q18, Q19, Q20, Q21, Q22, Q23, Q24, Q25, Q26, Q27, Q28, Q29, Q30, Q31, Q32, Q33, Q35, Q36, Q37, Q38, Q39, Q40, Q41, Q42, Q43, Q44, Q45, Q46, Q47, Q48, Q49, Q50, Q51, Q52, Q53, Q54, Q55, Q56, Q57, Q58, Q59, Q60, Q61, Q62, Q63, Q64, Q65, Q66, Q67, Q68, Q69, Q70, Q71, Q72, Q73, Q99, Q100, Q101, Q102, Q103, Q74, Q75, Q77, Q78, Q79, Q80, Q81, Q82, Q83, Q84, clr, List.length_nil, List.length_cons, List.getElem?_cons_zero, List.getElem?_cons_succ, Nat.reduceAdd, Nat.zero_add, Nat.add_zero, Nat.reduceLeDiff, Nat.reduceSub, ↓reduceIte, List.drop_succ_cons, List.drop_zero, List.take_succ_cons, List.take_zero, Bool.false_eq_true, List.nil_append, List.cons_append, Bool.not_true, Bool.not_false, cond_true, cond_false, bne, Q85, Q86, Q87, Q88, Q89, Q90, Q91, Q92, Q93, Q94, Q95, Q96, Q97, Q98, Q110, Q111, Q116, Q117, Q118, Q119, Q120, Q121, Q122, Q123, Option.map_some, Option.map_none, Q34])
              | true =>
                have hok : okR ff k = true := by simp only [okR, q1, q4, q5, Bool.false_eq_true, if_false, if_true]
                refine ⟨.normal, [.v (.string s), .junk, .v (.int .i64 ff), .v (.int .i64 p), .v (.int .i32 (Utf8.decode s p).1), .v (.int .i64 k), .junk, .junk, .junk, .junk, .it 0, .tup [.v (.bool true), .v (.int .i64 p), .v (.int .i32 (Utf8.decode s p).1)], .v (.bool true), .v (.bool x13), .v (.int .i64 ff), .v (.bool false), .junk, .v (.bool true), .v (.bool false)], [.siter s (p + (Utf8.decode s p).2)], ?_, next hok⟩
                cases x13 <;> (have hs := sel _ rfl; simp only [if_true, if_false, Bool.false_eq_true] at hs; subst hs; simp only [V79, c79_27, c79_14, c79_15, c79_16, c79_17, c79_18, c79_19, e_next, nx, hc, hpx, sn, snap_int, ex_2, q1, q4, q5, c79_20, c79_23, c79_24, Bool.not_true, Q0, Q1, Q2, Q3, Q4, Q5, Q6, Q7, Q8, Q9, Q10, Q11, Q12, Q13, Q14, Q15, Q16, Q17, Q18, Q19, Q20, Q21, Q22, Q23, Q24, Q25, Q26, Q27, Q28, Q29, Q30, Q31, Q32, Q33, Q35, Q36, Q37, Q38, Q39, Q40, Q41, Q42, Q43, Q44, Q45, Q46, Q47, Q48, Q49, Q50, Q51, Q52, Q53, Q54, Q55, Q56, Q57, Q58, Q59, Q60, Q61, Q62, Q63, Q64, Q65, Q66, Q67, Q68, Q69, Q70, Q71, Q72, Q73, Q99, Q100, Q101, Q102, Q103, Q74, Q75, Q77, Q78, Q79, Q80, Q81, Q82, Q83, Q84, clr, List.length_nil, List.length_cons, List.getElem?_cons_zero, List.getElem?_cons_succ, Nat.reduceAdd, Nat.zero_add, Nat.add_zero, Nat.reduceLeDiff, Nat.reduceSub, ↓reduceIte, List.drop_succ_cons, List.drop_zero, List.take_succ_cons, List.take_zero, Bool.false_eq_true, List.nil_append, List.cons_append, Bool.not_true, Bool.not_false, cond_true, cond_false, bne, Q85, Q86, Q87, Q88, Q89, Q90, Q91, Q92, Q93, Q94, Q95, Q96, Q97, Q98, Q110, Q111, Q116, Q117, Q118, Q119, Q120, Q121, Q122, Q123, Option.map_some, Option.map_none, Q34])
        rcases hf with ⟨h0, rfl⟩ | ⟨h0, rfl⟩
        · exact main true (by simp [h0]) _ rfl (by simp [hfirst h0])
        · exact main false (by simp [h0]) _ rfl (by simp)
      · have nx : evNext [.siter s p] (.it 0) = some (.tup [.v (.bool false)], [.siter s p]) := by
          simp only [evNext, List.getElem?_cons_zero, hp, if_false]
        rw [rns_nil hp] at hR
        refine ⟨.exit 1, V79 s f (.tup [.v (.bool false)]) (.v (.bool false)), [.siter s p], ?_, .inl ⟨rfl, hR.symm, f, _, rfl⟩⟩
        simp only [V79, c79_27, c79_14, e_next, nx, Q0, Q1, Q2, Q3, Q4, Q5, Q6, Q7, Q8, Q9, Q10, Q11, Q12, Q13, Q14, Q15, Q16, Q17, Q18, Q19, Q20, Q21, Q22, Q23, Q24, Q25, Q26, Q27, Q28, Q29, Q30, Q31, Q32, Q33, Q35, Q36, Q37, Q38, Q39, Q40, Q41, Q42, Q43, Q44, Q45, Q46, Q47, Q48, Q49, Q50, Q51, Q52, Q53, Q54, Q55, Q56, Q57, Q58, Q59, Q60, Q61, Q62, Q63, Q64, Q65, Q66, Q67, Q68, Q69, Q70, Q71, Q72, Q73, Q99, Q100, Q101, Q102, Q103, Q74, Q75, Q77, Q78, Q79, Q80, Q81, Q82, Q83, Q84, clr, List.length_nil, List.length_cons, List.getElem?_cons_zero, List.getElem?_cons_succ, Nat.reduceAdd, Nat.zero_add, Nat.add_zero, Nat.reduceLeDiff, Nat.reduceSub, ↓reduceIte, List.drop_succ_cons, List.drop_zero, List.take_succ_cons, List.take_zero, Bool.false_eq_true, List.nil_append, List.cons_append, Bool.not_true, Bool.not_false, cond_true, cond_false, bne, Q85, Q86, Q87, Q88, Q89, Q90, Q91, Q92, Q93, Q94, Q95, Q96, Q97, Q98, Q110, Q111, Q116, Q117, Q118, Q119, Q120, Q121, Q122, Q123, Option.map_some, Option.map_none, Q34])
  rcases g3 with ⟨rfl, h1, f, x11, rfl⟩ | ⟨rfl, h1, h2⟩
  · exact .inl ⟨h1, f, x11, h', g1⟩
  · exact .inr ⟨h1, v', h', g1, h2⟩
theorem bareS_ok {s : ByteArray} (h255 : decide ((s.size : Int) ≤ 255) = true) : callW F 79 [.v (.string s)] [] = some (.v (.bool (bareS s)), []) := by
  refine callW_pure (c := c79) rfl rfl (s.size + 1) ?_
  have hp := pre_ok s
  have lp := bare_loop79 (s := s) [.v (.string s), .v (.bool false), .v (.int .i64 0), .v undef, .v undef, .v undef, .v (.string s), .v (.bool false), .v (.bool false), .v (.bool false), .it 0, .v undef, .v undef, .v undef, .v undef, .v undef, .v undef, .v undef, .v undef] rfl
  rw [show c79.body = (.seq (.region [] [] c79_0) (.seq (.seq (.region [] [] c79_1) (.block 0 (.seq (.seq (.region [] [] c79_2) (.cond (.var 7) .skip (.seq (.region [] [] c79_3) (.cond (.var 7) .skip (.seq (.region [] [] c79_4) (.cond (.var 7) .skip (.region [] [] c79_5))))))) (.cond (.var 7) (.seq (.region [] [] c79_6) .ret) (.seq (.seq (.region [] [] c79_7) (.cond (.var 8) .skip (.region [] [] c79_8))) (.cond (.var 8) (.seq (.region [] [] c79_9) .ret) .skip)))))) (.seq (.seq (.region [] [] c79_10) (.cond (.var 9) (.seq (.region [] [] c79_11) .ret) .skip)) (.seq (.region [] [] c79_12) (.seq (.seq (.region [] [] c79_13) (.block 1 (.loop K79 [] c79_27))) (.seq (.region [] [] c79_28) .ret)))))) from rfl, show c79.res = [.var 1] from rfl]
  rw [show start c79 [.v (.string s)] = [.v (.string s), .v undef, .v undef, .v undef, .v undef, .v undef, .v undef, .v undef, .v undef, .v undef, .v undef, .v undef, .v undef, .v undef, .v undef, .v undef, .v undef, .v undef, .v undef] from rfl]
  have rg0 : rgV [] (.v (.string s)) = some (.it 0, [.siter s 0]) := rfl
  unfold bareS eqS
  generalize c79_27 = bb at lp ⊢
  cases q1 : (s.toList == (⟨#[91, 93]⟩ : ByteArray).toList) with
  | true => simp only [c79_0, c79_1, c79_2, c79_6, q1, Bool.true_or, if_true, Q0, Q1, Q2, Q3, Q4, Q5, Q6, Q7, Q8, Q9, Q10, Q11, Q12, Q13, Q14, Q15, Q16, Q17, Q18, Q19, Q20, Q21, Q22, Q23, Q24, Q25, Q26, Q27, Q28, Q29, Q30, Q31, Q32, Q33, Q35, Q36, Q37, Q38, Q39, Q40, Q41, Q42, Q43, Q44, Q45, Q46, Q47, Q48, Q49, Q50, Q51, Q52, Q53, Q54, Q55, Q56, Q57, Q58, Q59, Q60, Q61, Q62, Q63, Q64, Q65, Q66, Q67, Q68, Q69, Q70, Q71, Q72, Q73, Q99, Q100, Q101, Q102, Q103, Q74, Q75, Q77, Q78, Q79, Q80, Q81, Q82, Q83, Q84, clr, List.length_nil, List.length_cons, List.getElem?_cons_zero, List.getElem?_cons_succ, Nat.reduceAdd, Nat.zero_add, Nat.add_zero, Nat.reduceLeDiff, Nat.reduceSub, ↓reduceIte, List.drop_succ_cons, List.drop_zero, List.take_succ_cons, List.take_zero, Bool.false_eq_true, List.nil_append, List.cons_append, Bool.not_true, Bool.not_false, cond_true, cond_false, bne, Q85, Q86, Q87, Q88, Q89, Q90, Q91, Q92, Q93, Q94, Q95, Q96, Q97, Q98, Q110, Q111, Q116, Q117, Q118, Q119, Q120, Q121, Q122, Q123, Option.map_some, Option.map_none]
  | false =>
  cases q2 : (s.toList == (⟨#[123, 125]⟩ : ByteArray).toList) with
  | true => simp only [c79_0, c79_1, c79_2, c79_3, c79_6, q1, q2, Bool.true_or, Bool.false_or, if_true, Q0, Q1, Q2, Q3, Q4, Q5, Q6, Q7, Q8, Q9, Q10, Q11, Q12, Q13, Q14, Q15, Q16, Q17, Q18, Q19, Q20, Q21, Q22, Q23, Q24, Q25, Q26, Q27, Q28, Q29, Q30, Q31, Q32, Q33, Q35, Q36, Q37, Q38, Q39, Q40, Q41, Q42, Q43, Q44, Q45, Q46, Q47, Q48, Q49, Q50, Q51, Q52, Q53, Q54, Q55, Q56, Q57, Q58, Q59, Q60, Q61, Q62, Q63, Q64, Q65, Q66, Q67, Q68, Q69, Q70, Q71, Q72, Q73, Q99, Q100, Q101, Q102, Q103, Q74, Q75, Q77, Q78, Q79, Q80, Q81, Q82, Q83, Q84, clr, List.length_nil, List.length_cons, List.getElem?_cons_zero, List.getElem?_cons_succ, Nat.reduceAdd, Nat.zero_add, Nat.add_zero, Nat.reduceLeDiff, Nat.reduceSub, ↓reduceIte, List.drop_succ_cons, List.drop_zero, List.take_succ_cons, List.take_zero, Bool.false_eq_true, List.nil_append, List.cons_append, Bool.not_true, Bool.not_false, cond_true, cond_false, bne, Q85, Q86, Q87, Q88, Q89, Q90, Q91, Q92, Q93, Q94, Q95, Q96, Q97, Q98, Q110, Q111, Q116, Q117, Q118, Q119, Q120, Q121, Q122, Q123, Option.map_some, Option.map_none]
  | false =>
  cases q3 : (s.toList == (⟨#[33]⟩ : ByteArray).toList) with
  | true => simp only [c79_0, c79_1, c79_2, c79_3, c79_4, c79_6, q1, q2, q3, Bool.true_or, Bool.false_or, if_true, Q0, Q1, Q2, Q3, Q4, Q5, Q6, Q7, Q8, Q9, Q10, Q11, Q12, Q13, Q14, Q15, Q16, Q17, Q18, Q19, Q20, Q21, Q22, Q23, Q24, Q25, Q26, Q27, Q28, Q29, Q30, Q31, Q32, Q33, Q35, Q36, Q37, Q38, Q39, Q40, Q41, Q42, Q43, Q44, Q45, Q46, Q47, Q48, Q49, Q50, Q51, Q52, Q53, Q54, Q55, Q56, Q57, Q58, Q59, Q60, Q61, Q62, Q63, Q64, Q65, Q66, Q67, Q68, Q69, Q70, Q71, Q72, Q73, Q99, Q100, Q101, Q102, Q103, Q74, Q75, Q77, Q78, Q79, Q80, Q81, Q82, Q83, Q84, clr, List.length_nil, List.length_cons, List.getElem?_cons_zero, List.getElem?_cons_succ, Nat.reduceAdd, Nat.zero_add, Nat.add_zero, Nat.reduceLeDiff, Nat.reduceSub, ↓reduceIte, List.drop_succ_cons, List.drop_zero, List.take_succ_cons, List.take_zero, Bool.false_eq_true, List.nil_append, List.cons_append, Bool.not_true, Bool.not_false, cond_true, cond_false, bne, Q85, Q86, Q87, Q88, Q89, Q90, Q91, Q92, Q93, Q94, Q95, Q96, Q97, Q98, Q110, Q111, Q116, Q117, Q118, Q119, Q120, Q121, Q122, Q123, Option.map_some, Option.map_none]
  | false =>
  cases q4 : (s.toList == (⟨#[59]⟩ : ByteArray).toList) with
  | true => simp only [c79_0, c79_1, c79_2, c79_3, c79_4, c79_5, c79_6, q1, q2, q3, q4, Bool.or_true, Bool.false_or, if_true, Q0, Q1, Q2, Q3, Q4, Q5, Q6, Q7, Q8, Q9, Q10, Q11, Q12, Q13, Q14, Q15, Q16, Q17, Q18, Q19, Q20, Q21, Q22, Q23, Q24, Q25, Q26, Q27, Q28, Q29, Q30, Q31, Q32, Q33, Q35, Q36, Q37, Q38, Q39, Q40, Q41, Q42, Q43, Q44, Q45, Q46, Q47, Q48, Q49, Q50, Q51, Q52, Q53, Q54, Q55, Q56, Q57, Q58, Q59, Q60, Q61, Q62, Q63, Q64, Q65, Q66, Q67, Q68, Q69, Q70, Q71, Q72, Q73, Q99, Q100, Q101, Q102, Q103, Q74, Q75, Q77, Q78, Q79, Q80, Q81, Q82, Q83, Q84, clr, List.length_nil, List.length_cons, List.getElem?_cons_zero, List.getElem?_cons_succ, Nat.reduceAdd, Nat.zero_add, Nat.add_zero, Nat.reduceLeDiff, Nat.reduceSub, ↓reduceIte, List.drop_succ_cons, List.drop_zero, List.take_succ_cons, List.take_zero, Bool.false_eq_true, List.nil_append, List.cons_append, Bool.not_true, Bool.not_false, cond_true, cond_false, bne, Q85, Q86, Q87, Q88, Q89, Q90, Q91, Q92, Q93, Q94, Q95, Q96, Q97, Q98, Q110, Q111, Q116, Q117, Q118, Q119, Q120, Q121, Q122, Q123, Option.map_some, Option.map_none]
  | false =>
  cases q5 : (s.toList == (⟨#[]⟩ : ByteArray).toList) with
  | true => simp only [c79_0, c79_1, c79_2, c79_3, c79_4, c79_5, c79_7, c79_9, q1, q2, q3, q4, q5, Bool.true_or, Bool.or_self, Bool.false_eq_true, if_false, if_true, Q0, Q1, Q2, Q3, Q4, Q5, Q6, Q7, Q8, Q9, Q10, Q11, Q12, Q13, Q14, Q15, Q16, Q17, Q18, Q19, Q20, Q21, Q22, Q23, Q24, Q25, Q26, Q27, Q28, Q29, Q30, Q31, Q32, Q33, Q35, Q36, Q37, Q38, Q39, Q40, Q41, Q42, Q43, Q44, Q45, Q46, Q47, Q48, Q49, Q50, Q51, Q52, Q53, Q54, Q55, Q56, Q57, Q58, Q59, Q60, Q61, Q62, Q63, Q64, Q65, Q66, Q67, Q68, Q69, Q70, Q71, Q72, Q73, Q99, Q100, Q101, Q102, Q103, Q74, Q75, Q77, Q78, Q79, Q80, Q81, Q82, Q83, Q84, clr, List.length_nil, List.length_cons, List.getElem?_cons_zero, List.getElem?_cons_succ, Nat.reduceAdd, Nat.zero_add, Nat.add_zero, Nat.reduceLeDiff, Nat.reduceSub, ↓reduceIte, List.drop_succ_cons, List.drop_zero, List.take_succ_cons, List.take_zero, Bool.false_eq_true, List.nil_append, List.cons_append, Bool.not_true, Bool.not_false, cond_true, cond_false, bne, Q85, Q86, Q87, Q88, Q89, Q90, Q91, Q92, Q93, Q94, Q95, Q96, Q97, Q98, Q110, Q111, Q116, Q117, Q118, Q119, Q120, Q121, Q122, Q123, Option.map_some, Option.map_none]
  | false =>
  cases q6 : (s.toList == (⟨#[46]⟩ : ByteArray).toList) with
  | true => simp only [c79_0, c79_1, c79_2, c79_3, c79_4, c79_5, c79_7, c79_8, c79_9, q1, q2, q3, q4, q5, q6, Bool.or_true, Bool.or_self, Bool.false_eq_true, if_false, if_true, Q0, Q1, Q2, Q3, Q4, Q5, Q6, Q7, Q8, Q9, Q10, Q11, Q12, Q13, Q14, Q15, Q16, Q17, Q18, Q19, Q20, Q21, Q22, Q23, Q24, Q25, Q26, Q27, Q28, Q29, Q30, Q31, Q32, Q33, Q35, Q36, Q37, Q38, Q39, Q40, Q41, Q42, Q43, Q44, Q45, Q46, Q47, Q48, Q49, Q50, Q51, Q52, Q53, Q54, Q55, Q56, Q57, Q58, Q59, Q60, Q61, Q62, Q63, Q64, Q65, Q66, Q67, Q68, Q69, Q70, Q71, Q72, Q73, Q99, Q100, Q101, Q102, Q103, Q74, Q75, Q77, Q78, Q79, Q80, Q81, Q82, Q83, Q84, clr, List.length_nil, List.length_cons, List.getElem?_cons_zero, List.getElem?_cons_succ, Nat.reduceAdd, Nat.zero_add, Nat.add_zero, Nat.reduceLeDiff, Nat.reduceSub, ↓reduceIte, List.drop_succ_cons, List.drop_zero, List.take_succ_cons, List.take_zero, Bool.false_eq_true, List.nil_append, List.cons_append, Bool.not_true, Bool.not_false, cond_true, cond_false, bne, Q85, Q86, Q87, Q88, Q89, Q90, Q91, Q92, Q93, Q94, Q95, Q96, Q97, Q98, Q110, Q111, Q116, Q117, Q118, Q119, Q120, Q121, Q122, Q123, Option.map_some, Option.map_none]
  | false =>
  cases q7 : preS s with
  | true =>
    rw [q7] at hp
    simp only [c79_0, c79_1, c79_2, c79_3, c79_4, c79_5, c79_7, c79_8, c79_10, c79_11, q1, q2, q3, q4, q5, q6, hp, snap_str, Bool.or_self, Bool.false_eq_true, if_false, if_true, Q0, Q1, Q2, Q3, Q4, Q5, Q6, Q7, Q8, Q9, Q10, Q11, Q12, Q13, Q14, Q15, Q16, Q17, Q18, Q19, Q20, Q21, Q22, Q23, Q24, Q25, Q26, Q27, Q28, Q29, Q30, Q31, Q32, Q33, Q35, Q36, Q37, Q38, Q39, Q40, Q41, Q42, Q43, Q44, Q45, Q46, Q47, Q48, Q49, Q50, Q51, Q52, Q53, Q54, Q55, Q56, Q57, Q58, Q59, Q60, Q61, Q62, Q63, Q64, Q65, Q66, Q67, Q68, Q69, Q70, Q71, Q72, Q73, Q99, Q100, Q101, Q102, Q103, Q74, Q75, Q77, Q78, Q79, Q80, Q81, Q82, Q83, Q84, clr, List.length_nil, List.length_cons, List.getElem?_cons_zero, List.getElem?_cons_succ, Nat.reduceAdd, Nat.zero_add, Nat.add_zero, Nat.reduceLeDiff, Nat.reduceSub, ↓reduceIte, List.drop_succ_cons, List.drop_zero, List.take_succ_cons, List.take_zero, Bool.false_eq_true, List.nil_append, List.cons_append, Bool.not_true, Bool.not_false, cond_true, cond_false, bne, Q85, Q86, Q87, Q88, Q89, Q90, Q91, Q92, Q93, Q94, Q95, Q96, Q97, Q98, Q110, Q111, Q116, Q117, Q118, Q119, Q120, Q121, Q122, Q123, Option.map_some, Option.map_none]
  | false =>
    rw [q7] at hp
    rcases lp with ⟨h1, f, x11, h', h2⟩ | ⟨h1, v', h', h2, h3⟩
    · rw [h1]
      simp only [V79, c79_0, c79_1, c79_2, c79_3, c79_4, c79_5, c79_7, c79_8, c79_10, c79_12, c79_13, c79_28, q1, q2, q3, q4, q5, q6, hp, snap_str, e_range, rg0, h2, h255, Bool.or_self, Bool.false_eq_true, if_false, Q0, Q1, Q2, Q3, Q4, Q5, Q6, Q7, Q8, Q9, Q10, Q11, Q12, Q13, Q14, Q15, Q16, Q17, Q18, Q19, Q20, Q21, Q22, Q23, Q24, Q25, Q26, Q27, Q28, Q29, Q30, Q31, Q32, Q33, Q35, Q36, Q37, Q38, Q39, Q40, Q41, Q42, Q43, Q44, Q45, Q46, Q47, Q48, Q49, Q50, Q51, Q52, Q53, Q54, Q55, Q56, Q57, Q58, Q59, Q60, Q61, Q62, Q63, Q64, Q65, Q66, Q67, Q68, Q69, Q70, Q71, Q72, Q73, Q99, Q100, Q101, Q102, Q103, Q74, Q75, Q77, Q78, Q79, Q80, Q81, Q82, Q83, Q84, clr, List.length_nil, List.length_cons, List.getElem?_cons_zero, List.getElem?_cons_succ, Nat.reduceAdd, Nat.zero_add, Nat.add_zero, Nat.reduceLeDiff, Nat.reduceSub, ↓reduceIte, List.drop_succ_cons, List.drop_zero, List.take_succ_cons, List.take_zero, Bool.false_eq_true, List.nil_append, List.cons_append, Bool.not_true, Bool.not_false, cond_true, cond_false, bne, Q85, Q86, Q87, Q88, Q89, Q90, Q91, Q92, Q93, Q94, Q95, Q96, Q97, Q98, Q110, Q111, Q116, Q117, Q118, Q119, Q120, Q121, Q122, Q123, Option.map_some, Option.map_none]
    · rw [h1]
      simp only [V79, c79_0, c79_1, c79_2, c79_3, c79_4, c79_5, c79_7, c79_8, c79_10, c79_12, c79_13, c79_28, q1, q2, q3, q4, q5, q6, hp, snap_str, e_range, rg0, h2, h3, Bool.or_self, Bool.false_eq_true, if_false, Q0, Q1, Q2, Q3, Q4, Q5, Q6, Q7, Q8, Q9, Q10, Q11, Q12, Q13, Q14, Q15, Q16, Q17, Q18, Q19, Q20, Q21, Q22, Q23, Q24, Q25, Q26, Q27, Q28, Q29, Q30, Q31, Q32, Q33, Q35, Q36, Q37, Q38, Q39, Q40, Q41, Q42, Q43, Q44, Q45, Q46, Q47, Q48, Q49, Q50, Q51, Q52, Q53, Q54, Q55, Q56, Q57, Q58, Q59, Q60, Q61, Q62, Q63, Q64, Q65, Q66, Q67, Q68, Q69, Q70, Q71, Q72, Q73, Q99, Q100, Q101, Q102, Q103, Q74, Q75, Q77, Q78, Q79, Q80, Q81, Q82, Q83, Q84, clr, List.length_nil, List.length_cons, List.getElem?_cons_zero, List.getElem?_cons_succ, Nat.reduceAdd, Nat.zero_add, Nat.add_zero, Nat.reduceLeDiff, Nat.reduceSub, ↓reduceIte, List.drop_succ_cons, List.drop_zero, List.take_succ_cons, List.take_zero, Bool.false_eq_true, List.nil_append, List.cons_append, Bool.not_true, Bool.not_false, cond_true, cond_false, bne, Q85, Q86, Q87, Q88, Q89, Q90, Q91, Q92, Q93, Q94, Q95, Q96, Q97, Q98, Q110, Q111, Q116, Q117, Q118, Q119, Q120, Q121, Q122, Q123, Option.map_some, Option.map_none]
end Go.AE.YtgcbaefclkfnoaaDoor
end

/-! Whether an atom's text needs no quotes: the document's. -/
section
set_option linter.unusedVariables false
set_option linter.unusedSimpArgs false
namespace Go.AE.YtgcbaefclkfnoaaDoor
open Go Go.AE Go.Proofs.YtgcbaefclkfnoaaDoor

def rv (c : Nat) : AV := .v (.int .i32 (c : Int))
theorem rns_tail (s : ByteArray) (n : Nat) : ∀ f q, rns (s.extract n s.size) f q = rns s f (n + q)
  | 0, q => rfl
  | f + 1, q => by
    rw [rns, rns, Lib.tail_size, Lib.tail_decode]
    by_cases h : n + q < s.size
    · rw [if_pos (by omega), if_pos h, rns_tail s n f, Nat.add_assoc]
    · rw [if_neg (by omega), if_neg h]
def V84 (s : ByteArray) (acc : AV) (x5 : AV) : List AV := [.v (.string s), .junk, acc, .junk, .junk, x5]
def K84 : List Bool := [true, false, true, false, false, false]
theorem dec_at (s : ByteArray) (h : 0 < s.size) : Lib.decodeGo s = Utf8.decode s 0 := by
  unfold Lib.decodeGo; rw [if_neg (by omega)]
theorem runes_ok {s : ByteArray} (hs : s.size ≤ 100000) : ∃ r, Sl 1 r ((runesOf s).map rv) ∧ callW F 84 [.v (.string s)] [] = some (r, []) := by
  obtain ⟨e, v', h', g1, g2, g3⟩ := loop_rule0 (call := callW F) (K := s.size + 1) (b := c84_6) (keep := K84)
    (fun i v h => ∃ (t : ByteArray) (acc : AV) (L : List Nat), t.size + i ≤ s.size ∧ L.length = i ∧ v = V84 t acc .junk ∧ Acc 21 1 h acc (L.map rv) ∧ L ++ rns t (s.size - i) 0 = runesOf s)
    (fun e v h => e = .exit 0 ∧ ∃ (t : ByteArray) (acc : AV), v = V84 t acc (.v (.bool false)) ∧ Acc 21 1 h acc ((runesOf s).map rv))
    s.size (m := s.size + 1) (v := [.v (.string s), .v (.slice none 0 0), .v (.slice none 0 0), .v undef, .v undef, .v undef]) (h := []) (by omega) ⟨s, .v (.slice none 0 0), [], by omega, rfl, rfl, .nil, rfl⟩ (by
      rintro i v h hi ⟨t, acc, L, hti, hL, rfl, hacc, hR⟩
      by_cases hp : 0 < t.size
      · have hgt : decide ((t.size : Int) > 0) = true := decide_eq_true (by omega)
        have dg : callW F 93 [.v (.string t)] [] = some (.tup [.v (.int .i32 (Utf8.decode t 0).1), .v (.int .i64 (Utf8.decode t 0).2)], []) := by
          rw [← dec_at t hp]; exact callW_oracle (g := decG) rfl rfl
        have hw := width_pos t 0
        have hle : (Utf8.decode t 0).2 ≤ t.size := by rw [← dec_at t hp]; exact Lib.decodeGo_le_size t
        obtain ⟨acc', h2, h3, h4, h5⟩ := hacc.add (x := .slc 1 true true [rv (Utf8.decode t 0).1]) (ys := [rv (Utf8.decode t 0).1]) (bytes := 4) elems_one (by
          unfold fits room
          rw [decide_eq_true_eq, List.length_map, List.length_singleton, hL]
          constructor <;> omega)
        have b1 : ∀ h : List AO, bs1 h 1 (some (.v (.int .i32 (Utf8.decode t 0).1))) = some (.slc 1 true true [rv (Utf8.decode t 0).1], h) := fun h => bs1_some rfl rfl
        have sn : ∀ (h : List AO) (k : IntKind) (x : Int), (AV.v (.int k x)).snap1 h = some (.v (.int k x)) := fun _ _ _ => rfl
        have sl := ss_from hle
        have hil : i < s.size := by clear hR; omega
        have e1 : s.size - i = (s.size - (i + 1)) + 1 := by omega
        refine ⟨.normal, [.v (.string (t.extract (Utf8.decode t 0).2 t.size)), .junk, acc', .v (.int .i32 (Utf8.decode t 0).1), .v (.int .i64 (Utf8.decode t 0).2), .v (.bool true)], h2, ?_, hil, t.extract (Utf8.decode t 0).2 t.size, acc', L ++ [(Utf8.decode t 0).1], ?_, by simp [hL], rfl, ?_, ?_⟩
        · simp only [V84, c84_6, c84_2, c84_3, c84_4, c84_5, hgt, snap_str, dg, sn, b1, Q104, e_append, h3, e_sslice, sl, Q0, Q1, Q2, Q3, Q4, Q5, Q6, Q7, Q8, Q9, Q10, Q11, Q12, Q13, Q14, Q15, Q16, Q17, Q18, Q19, Q20, Q21, Q22, Q23, Q24, Q25, Q26, Q27, Q28, Q29, Q30, Q31, Q32, Q33, Q35, Q36, Q37, Q38, Q39, Q40, Q41, Q42, Q43, Q44, Q45, Q46, Q47, Q48, Q49, Q50, Q51, Q52, Q53, Q54, Q55, Q56, Q57, Q58, Q59, Q60, Q61, Q62, Q63, Q64, Q65, Q66, Q67, Q68, Q69, Q70, Q71, Q72, Q73, Q99, Q100, Q101, Q102, Q103, Q74, Q75, Q77, Q78, Q79, Q80, Q81, Q82, Q83, Q84, clr, List.length_nil, List.length_cons, List.getElem?_cons_zero, List.getElem?_cons_succ, Nat.reduceAdd, Nat.zero_add, Nat.add_zero, Nat.reduceLeDiff, Nat.reduceSub, ↓reduceIte, List.drop_succ_cons, List.drop_zero, List.take_succ_cons, List.take_zero, Bool.false_eq_true, List.nil_append, List.cons_append, Bool.not_true, Bool.not_false, cond_true, cond_false, bne, Q85, Q86, Q87, Q88, Q89, Q90, Q91, Q92, Q93, Q94, Q95, Q96, Q97, Q98, Q110, Q111, Q116, Q117, Q118, Q119, Q120, Q121, Q122, Q123, Option.map_some, Option.map_none, Q34]
        · rw [Lib.tail_size]; omega
        · rw [List.map_append]; exact h4
        · rw [rns_tail, ← hR, e1, rns_cons hp, Nat.zero_add, Nat.add_zero]; simp
      · have hgt : decide ((t.size : Int) > 0) = false := decide_eq_false (by omega)
        rw [rns_nil hp, List.append_nil] at hR
        subst hR
        refine ⟨.exit 0, V84 t acc (.v (.bool false)), h, ?_, rfl, t, acc, rfl, hacc⟩
        simp only [V84, c84_6, c84_2, hgt, Q0, Q1, Q2, Q3, Q4, Q5, Q6, Q7, Q8, Q9, Q10, Q11, Q12, Q13, Q14, Q15, Q16, Q17, Q18, Q19, Q20, Q21, Q22, Q23, Q24, Q25, Q26, Q27, Q28, Q29, Q30, Q31, Q32, Q33, Q35, Q36, Q37, Q38, Q39, Q40, Q41, Q42, Q43, Q44, Q45, Q46, Q47, Q48, Q49, Q50, Q51, Q52, Q53, Q54, Q55, Q56, Q57, Q58, Q59, Q60, Q61, Q62, Q63, Q64, Q65, Q66, Q67, Q68, Q69, Q70, Q71, Q72, Q73, Q99, Q100, Q101, Q102, Q103, Q74, Q75, Q77, Q78, Q79, Q80, Q81, Q82, Q83, Q84, clr, List.length_nil, List.length_cons, List.getElem?_cons_zero, List.getElem?_cons_succ, Nat.reduceAdd, Nat.zero_add, Nat.add_zero, Nat.reduceLeDiff, Nat.reduceSub, ↓reduceIte, List.drop_succ_cons, List.drop_zero, List.take_succ_cons, List.take_zero, Bool.false_eq_true, List.nil_append, List.cons_append, Bool.not_true, Bool.not_false, cond_true, cond_false, bne, Q85, Q86, Q87, Q88, Q89, Q90, Q91, Q92, Q93, Q94, Q95, Q96, Q97, Q98, Q110, Q111, Q116, Q117, Q118, Q119, Q120, Q121, Q122, Q123, Option.map_some, Option.map_none, Q34])
  obtain ⟨rfl, t, acc, rfl, hacc⟩ := g3
  obtain ⟨r, l1, l2⟩ := hacc.lvf
  refine ⟨r, l2, callW_pure (c := c84) rfl rfl (s.size + 1) ?_⟩
  rw [show c84.body = (.seq (.region [] [] c84_0) (.seq (.region [] [] c84_1) (.seq (.block 0 (.loop K84 [] c84_6)) (.seq (.region [] [] c84_7) .ret)))) from rfl, show c84.res = [.var 1] from rfl]
  rw [show start c84 [.v (.string s)] = [.v (.string s), .v undef, .v undef, .v undef, .v undef, .v undef] from rfl]
  generalize c84_6 = bb at g1 ⊢
  simp only [V84, c84_0, c84_1, c84_7, g1, l1, Q0, Q1, Q2, Q3, Q4, Q5, Q6, Q7, Q8, Q9, Q10, Q11, Q12, Q13, Q14, Q15, Q16, Q17, Q18, Q19, Q20, Q21, Q22, Q23, Q24, Q25, Q26, Q27, Q28, Q29, Q30, Q31, Q32, Q33, Q35, Q36, Q37, Q38, Q39, Q40, Q41, Q42, Q43, Q44, Q45, Q46, Q47, Q48, Q49, Q50, Q51, Q52, Q53, Q54, Q55, Q56, Q57, Q58, Q59, Q60, Q61, Q62, Q63, Q64, Q65, Q66, Q67, Q68, Q69, Q70, Q71, Q72, Q73, Q99, Q100, Q101, Q102, Q103, Q74, Q75, Q77, Q78, Q79, Q80, Q81, Q82, Q83, Q84, clr, List.length_nil, List.length_cons, List.getElem?_cons_zero, List.getElem?_cons_succ, Nat.reduceAdd, Nat.zero_add, Nat.add_zero, Nat.reduceLeDiff, Nat.reduceSub, ↓reduceIte, List.drop_succ_cons, List.drop_zero, List.take_succ_cons, List.take_zero, Bool.false_eq_true, List.nil_append, List.cons_append, Bool.not_true, Bool.not_false, cond_true, cond_false, bne, Q85, Q86, Q87, Q88, Q89, Q90, Q91, Q92, Q93, Q94, Q95, Q96, Q97, Q98, Q110, Q111, Q116, Q117, Q118, Q119, Q120, Q121, Q122, Q123, Option.map_some, Option.map_none]
def inN (k : Int) : Bool := (k == 1) || ((k == 2) || (k == 3))
def V83 (nm sg : Bool) (c : AV) (n i : Int) (x5 x6 x12 : AV) : List AV := [.junk, .junk, .junk, .v (.bool nm), .v (.bool sg), x5, x6, .junk, .junk, c, .v (.int .i64 n), .v (.int .i64 i), x12]
def K83 : List Bool := [false, false, false, true, true, false, false, false, false, true, true, true, false]
theorem all_okR (f : Int) (L : List Nat) (h : L ≠ []) (hf : f = clsN (L.headD 0)) : ((f == 1) && L.all (fun c => inN (clsN c)) || L.all (fun c => clsN c == 4)) = L.all fun c => okR f (clsN c) := by
  have e1 : ∀ k : Int, (!(decide (k < 1) || decide (k > 3))) = inN k := by
    intro k
    unfold inN
    by_cases a : k = 1
    · subst a; rfl
    · by_cases b : k = 2
      · subst b; rfl
      · by_cases c : k = 3
        · subst c; rfl
        · have h1 : (k == 1) = false := by simpa using a
          have h2 : (k == 2) = false := by simpa using b
          have h3 : (k == 3) = false := by simpa using c
          rw [h1, h2, h3]
          simp
          omega
  cases L with
  | nil => exact absurd rfl h
  | cons c L =>
    simp only [List.headD_cons] at hf
    cases q1 : (f == 1) with
    | true =>
      have hf1 : clsN c = 1 := by simp at q1; omega
      have : ((c :: L).all fun c => clsN c == 4) = false := by simp [hf1]
      rw [this, Bool.or_false, Bool.true_and]
      congr 1
      funext x
      simp only [okR, q1, if_true, e1]
    | false =>
      simp only [Bool.false_and, Bool.false_or]
      cases q4 : (f == 4) with
      | true =>
        congr 1
        funext x
        simp only [okR, q1, q4, if_true, Bool.false_eq_true, if_false]
      | false =>
        have h4 : (clsN c == 4) = false := by rw [← hf]; exact q4
        simp [okR, q1, q4, h4]
theorem rbare_loop {c : AV} {L : List Nat} (hc : Sl 1 c (L.map rv)) (hm : L.length ≤ 100000) (v : List AV) (nm : Bool) (hv : clr K83 v = V83 nm true c L.length 0 .junk .junk .junk) (K : Nat) (hK : L.length < K) (h : List AO) :
    ∃ (x5 x6 : AV), loopN (exec (callW F) K c83_15) K83 K v h = some (.exit 0, V83 (nm && L.all fun c => inN (clsN c)) (L.all fun c => clsN c == 4) c L.length L.length x5 x6 (.v (.bool false)), h) := by
  obtain ⟨e, v', h', g1, g2, g3⟩ := loop_rule0 (call := callW F) (K := K) (b := c83_15) (keep := K83)
    (fun i v h' => ∃ a b, v = V83 a b c L.length i .junk .junk .junk ∧ h' = h ∧ (a && (L.drop i).all fun c => inN (clsN c)) = (nm && L.all fun c => inN (clsN c)) ∧ (b && (L.drop i).all fun c => clsN c == 4) = (L.all fun c => clsN c == 4))
    (fun e v h' => e = .exit 0 ∧ h' = h ∧ ∃ x5 x6, v = V83 (nm && L.all fun c => inN (clsN c)) (L.all fun c => clsN c == 4) c L.length L.length x5 x6 (.v (.bool false)))
    L.length (m := K) (v := v) (h := h) hK ⟨nm, true, hv, rfl, rfl, by simp⟩ (by
      rintro i v h' hi ⟨a, b, rfl, rfl, hR1, hR2⟩
      by_cases hil : i < L.length
      · have hlt := lt_t hil
        have he : (L.map rv)[i]? = some (rv L[i]) := by simp [hil]
        have q2 := fun h : List AO => hc.ia he h
        have q3 : ∀ (h : List AO) (n : Nat), Q76 h false 1 (.ip (rv n).cells) = some (.v (.int .i32 (n : Int))) := fun _ _ => rfl
        have hd : L.drop i = L[i] :: L.drop (i + 1) := List.drop_eq_getElem_cons hil
        have hw := wrap_succ hil (small_max hm)
        have hk := rcls_ok L[i]
        have sn : ∀ (h : List AO) (k : IntKind) (x : Int), (AV.v (.int k x)).snap1 h = some (.v (.int k x)) := fun _ _ _ => rfl
        rw [hd, List.all_cons, ← Bool.and_assoc] at hR1 hR2
        generalize clsN L[i] = k at hk hR1 hR2
        refine ⟨.normal, V83 (a && inN k) (b && (k == 4)) c L.length ((i + 1 : Nat) : Int) (.v (.int .i32 L[i])) (.v (.int .i64 k)) (.v (.bool true)), h', ?_, hil, _, _, rfl, rfl, hR1, hR2⟩
        unfold inN
        cases a <;> cases b <;> cases q1 : (k == 1) <;> cases q4 : (k == 4) <;> cases q5 : (k == 2) <;> cases q6 : (k == 3) <;>
          simp only [V83, c83_15, c83_9, c83_10, c83_11, c83_12, c83_13, c83_14, hlt, q2, q3, hk, sn, hw, q1, q4, q5, q6, Bool.or_self, Bool.or_false, Bool.or_true, Bool.false_or, Bool.true_or, Bool.and_self, Bool.and_false, Bool.and_true, Bool.false_and, Bool.true_and, Q0, Q1, Q2, Q3, Q4, Q5, Q6, Q7, Q8, Q9, Q10, Q11, Q12, Q13, Q14, Q15, Q16, Q17, Q18, Q19, Q20, Q21, Q22, Q23, Q24, Q25, Q26, Q27, Q28, Q29, Q30, Q31, Q32, Q33, Q35, Q36, Q37, Q38, Q39, Q40, Q41, Q42, Q43, Q44, Q45, Q46, Q47, Q48, Q49, Q50, Q51, Q52, Q53, Q54, Q55, Q56, Q57, Q58, Q59, Q60, Q61, Q62, Q63, Q64, Q65, Q66, Q67, Q68, Q69, Q70, Q71, Q72, Q73, Q99, Q100, Q101, Q102, Q103, Q74, Q75, Q77, Q78, Q79, Q80, Q81, Q82, Q83, Q84, clr, List.length_nil, List.length_cons, List.getElem?_cons_zero, List.getElem?_cons_succ, Nat.reduceAdd, Nat.zero_add, Nat.add_zero, Nat.reduceLeDiff, Nat.reduceSub, ↓reduceIte, List.drop_succ_cons, List.drop_zero, List.take_succ_cons, List.take_zero, Bool.false_eq_true, List.nil_append, List.cons_append, Bool.not_true, Bool.not_false, cond_true, cond_false, bne, Q85, Q86, Q87, Q88, Q89, Q90, Q91, Q92, Q93, Q94, Q95, Q96, Q97, Q98, Q110, Q111, Q116, Q117, Q118, Q119, Q120, Q121, Q122, Q123, Option.map_some, Option.map_none, Q34]
      · have hie : i = L.length := by omega
        subst hie
        have hlt := lt_f (n := L.length)
        rw [List.drop_of_length_le (Nat.le_refl _), List.all_nil, Bool.and_true] at hR1 hR2
        refine ⟨.exit 0, V83 a b c L.length L.length .junk .junk (.v (.bool false)), h', ?_, rfl, rfl, .junk, .junk, by rw [hR1, hR2]⟩
        simp only [V83, c83_15, c83_9, hlt, Q0, Q1, Q2, Q3, Q4, Q5, Q6, Q7, Q8, Q9, Q10, Q11, Q12, Q13, Q14, Q15, Q16, Q17, Q18, Q19, Q20, Q21, Q22, Q23, Q24, Q25, Q26, Q27, Q28, Q29, Q30, Q31, Q32, Q33, Q35, Q36, Q37, Q38, Q39, Q40, Q41, Q42, Q43, Q44, Q45, Q46, Q47, Q48, Q49, Q50, Q51, Q52, Q53, Q54, Q55, Q56, Q57, Q58, Q59, Q60, Q61, Q62, Q63, Q64, Q65, Q66, Q67, Q68, Q69, Q70, Q71, Q72, Q73, Q99, Q100, Q101, Q102, Q103, Q74, Q75, Q77, Q78, Q79, Q80, Q81, Q82, Q83, Q84, clr, List.length_nil, List.length_cons, List.getElem?_cons_zero, List.getElem?_cons_succ, Nat.reduceAdd, Nat.zero_add, Nat.add_zero, Nat.reduceLeDiff, Nat.reduceSub, ↓reduceIte, List.drop_succ_cons, List.drop_zero, List.take_succ_cons, List.take_zero, Bool.false_eq_true, List.nil_append, List.cons_append, Bool.not_true, Bool.not_false, cond_true, cond_false, bne, Q85, Q86, Q87, Q88, Q89, Q90, Q91, Q92, Q93, Q94, Q95, Q96, Q97, Q98, Q110, Q111, Q116, Q117, Q118, Q119, Q120, Q121, Q122, Q123, Option.map_some, Option.map_none, Q34])
  obtain ⟨rfl, rfl, x5, x6, rfl⟩ := g3
  exact ⟨x5, x6, g1⟩
theorem toL_inj' {s s' : ByteArray} (h : s.toList = s'.toList) : s = s' := by
  rw [ByteArray.toList_eq, ByteArray.toList_eq] at h
  cases s with | mk d => cases s' with | mk d' => cases d with | mk x => cases d' with | mk y => simp at h; rw [h]
theorem eqS_eq {s : ByteArray} {l : List UInt8} (h : eqS s l = true) : s = ⟨l.toArray⟩ := by
  unfold eqS at h
  exact toL_inj' (by simpa using h)
theorem special {s : ByteArray} (h : (eqS s [91, 93] || (eqS s [123, 125] || (eqS s [33] || eqS s [59]))) = true) : eqS s [] = false ∧ eqS s [46] = false ∧ preS s = false := by
  simp only [Bool.or_eq_true] at h
  rcases h with h | h | h | h <;> (rw [eqS_eq h]; exact ⟨by kernel_rfl, by kernel_rfl, by kernel_rfl⟩)
theorem size_pos' {s : ByteArray} (h : eqS s [] = false) : 0 < s.size := by
  rcases Nat.eq_zero_or_pos s.size with e | e
  · exfalso
    have : s.toList = (⟨#[]⟩ : ByteArray).toList := by
      rw [ByteArray.toList_eq, ByteArray.toList_eq]
      cases s with
      | mk d =>
        have : d.size = 0 := e
        have := Array.eq_empty_of_size_eq_zero this
        subst this; rfl
    unfold eqS at h
    rw [this] at h
    simp at h
  · exact e
theorem runes_head {s : ByteArray} (h : 0 < s.size) : ∃ L, runesOf s = (Utf8.decode s 0).1 :: L := by
  unfold runesOf
  obtain ⟨k, hk⟩ : ∃ k, s.size = k + 1 := ⟨s.size - 1, by omega⟩
  rw [show rns s s.size 0 = rns s (k + 1) 0 by rw [hk], rns_cons h]
  exact ⟨_, rfl⟩
theorem rns_len (s : ByteArray) : ∀ f p, (rns s f p).length ≤ f
  | 0, p => by simp [rns]
  | f + 1, p => by
    rw [rns]
    split
    · have := rns_len s f (p + (Utf8.decode s p).2)
      simp; omega
    · simp
theorem rbareS_ok {s : ByteArray} (hchk : chkS s = true) : callW F 83 [.v (.string s)] [] = some (.v (.bool (bareS s)), []) := by
  have hk := rchk_ok s
  rw [hchk] at hk
  have h255 : s.size ≤ 255 := by
    simp only [chkS, Bool.and_eq_true, decide_eq_true_eq] at hchk
    omega
  obtain ⟨r, hr, cr⟩ := runes_ok (s := s) (by omega)
  have hlen := rns_len s s.size 0
  rw [show rns s s.size 0 = runesOf s from rfl] at hlen
  have hst : start c83 [.v (.string s)] = [.v (.string s), .v undef, .v undef, .v undef, .v undef, .v undef, .v undef, .v undef, .v undef, .v undef, .v undef, .v undef, .v undef] := rfl
  have hbody : c83.body = (.seq (.region [] [] c83_0) (.seq (.seq (.region [] [] c83_1) (.cond (.var 7) (.seq (.region [] [] c83_2) .ret) .skip)) (.seq (.seq (.region [] [] c83_3) (.cond (.var 8) (.seq (.region [] [] c83_4) .ret) .skip)) (.seq (.region [] [] c83_5) (.seq (.region [] [] c83_6) (.seq (.region [] [] c83_7) (.seq (.seq (.region [] [] c83_8) (.block 0 (.loop K83 [] c83_15))) (.seq (.region [] [] c83_16) .ret)))))))) := rfl
  have hres : c83.res = [.var 1] := rfl
  refine callW_pure (c := c83) rfl rfl ((runesOf s).length + 1) ?_
  rw [hbody, hres, hst]
  have n2 : natV (.v (.int .i64 2)) = some 2 := rfl
  have n0 : natV (.v (.int .i64 0)) = some 0 := rfl
  -- what is ahead
  have ahead : ∀ A B P : Bool, eqS s [] = A → eqS s [46] = B → preS s = P → True := fun _ _ _ _ _ _ => trivial
  have hlp := fun (nm : Bool) (v : List AV) => rbare_loop hr (by omega) v nm
  generalize c83_15 = bb at hlp ⊢
  cases q5 : eqS s [] with
  | true =>
    have hb : bareS s = false := by
      unfold bareS
      cases hS : (eqS s [91, 93] || (eqS s [123, 125] || (eqS s [33] || eqS s [59]))) with
      | true => have := (special hS).1; rw [q5] at this; cases this
      | false => simp [q5]
    rw [hb]
    unfold eqS at q5
    simp only [c83_0, c83_1, c83_2, hk, q5, snap_str, Bool.not_true, Q0, Q1, Q2, Q3, Q4, Q5, Q6, Q7, Q8, Q9, Q10, Q11, Q12, Q13, Q14, Q15, Q16, Q17, Q18, Q19, Q20, Q21, Q22, Q23, Q24, Q25, Q26, Q27, Q28, Q29, Q30, Q31, Q32, Q33, Q35, Q36, Q37, Q38, Q39, Q40, Q41, Q42, Q43, Q44, Q45, Q46, Q47, Q48, Q49, Q50, Q51, Q52, Q53, Q54, Q55, Q56, Q57, Q58, Q59, Q60, Q61, Q62, Q63, Q64, Q65, Q66, Q67, Q68, Q69, Q70, Q71, Q72, Q73, Q99, Q100, Q101, Q102, Q103, Q74, Q75, Q77, Q78, Q79, Q80, Q81, Q82, Q83, Q84, clr, List.length_nil, List.length_cons, List.getElem?_cons_zero, List.getElem?_cons_succ, Nat.reduceAdd, Nat.zero_add, Nat.add_zero, Nat.reduceLeDiff, Nat.reduceSub, ↓reduceIte, List.drop_succ_cons, List.drop_zero, List.take_succ_cons, List.take_zero, Bool.false_eq_true, List.nil_append, List.cons_append, Bool.not_true, Bool.not_false, cond_true, cond_false, bne, Q85, Q86, Q87, Q88, Q89, Q90, Q91, Q92, Q93, Q94, Q95, Q96, Q97, Q98, Q110, Q111, Q116, Q117, Q118, Q119, Q120, Q121, Q122, Q123, Option.map_some, Option.map_none]
  | false =>
  cases q6 : eqS s [46] with
  | true =>
    have hb : bareS s = false := by
      unfold bareS
      cases hS : (eqS s [91, 93] || (eqS s [123, 125] || (eqS s [33] || eqS s [59]))) with
      | true => have := (special hS).2.1; rw [q6] at this; cases this
      | false => simp [q6]
    rw [hb]
    unfold eqS at q5 q6
    simp only [c83_0, c83_1, c83_2, hk, q5, q6, snap_str, Bool.not_true, Q0, Q1, Q2, Q3, Q4, Q5, Q6, Q7, Q8, Q9, Q10, Q11, Q12, Q13, Q14, Q15, Q16, Q17, Q18, Q19, Q20, Q21, Q22, Q23, Q24, Q25, Q26, Q27, Q28, Q29, Q30, Q31, Q32, Q33, Q35, Q36, Q37, Q38, Q39, Q40, Q41, Q42, Q43, Q44, Q45, Q46, Q47, Q48, Q49, Q50, Q51, Q52, Q53, Q54, Q55, Q56, Q57, Q58, Q59, Q60, Q61, Q62, Q63, Q64, Q65, Q66, Q67, Q68, Q69, Q70, Q71, Q72, Q73, Q99, Q100, Q101, Q102, Q103, Q74, Q75, Q77, Q78, Q79, Q80, Q81, Q82, Q83, Q84, clr, List.length_nil, List.length_cons, List.getElem?_cons_zero, List.getElem?_cons_succ, Nat.reduceAdd, Nat.zero_add, Nat.add_zero, Nat.reduceLeDiff, Nat.reduceSub, ↓reduceIte, List.drop_succ_cons, List.drop_zero, List.take_succ_cons, List.take_zero, Bool.false_eq_true, List.nil_append, List.cons_append, Bool.not_true, Bool.not_false, cond_true, cond_false, bne, Q85, Q86, Q87, Q88, Q89, Q90, Q91, Q92, Q93, Q94, Q95, Q96, Q97, Q98, Q110, Q111, Q116, Q117, Q118, Q119, Q120, Q121, Q122, Q123, Option.map_some, Option.map_none]
  | false =>
  have hsz := size_pos' q5
  have hgt : decide ((s.size : Int) > 1) = decide ((s.size : Int) ≥ ((2 : Nat) : Int)) := by
    by_cases e : 2 ≤ s.size
    · rw [decide_eq_true (by omega), decide_eq_true (by omega)]
    · rw [decide_eq_false (by omega), decide_eq_false (by omega)]
  cases q7 : preS s with
  | true =>
    have hb : bareS s = false := by
      unfold bareS
      cases hS : (eqS s [91, 93] || (eqS s [123, 125] || (eqS s [33] || eqS s [59]))) with
      | true => have := (special hS).2.2; rw [q7] at this; cases this
      | false => simp [q5, q6, q7]
    rw [hb]
    unfold preS at q7
    simp only [Bool.and_eq_true] at q7
    rw [← hgt] at q7
    have h2 : 2 ≤ s.size := by have := q7.1; simp at this; omega
    have sl := ss_to h2
    have q7b := q7.2
    have q7a := q7.1
    unfold eqS at q5 q6
    simp only [c83_0, c83_1, c83_2, hk, q5, q6, q7a, q7b, e_sslice, n2, sl, snap_str, Bool.not_true, Q0, Q1, Q2, Q3, Q4, Q5, Q6, Q7, Q8, Q9, Q10, Q11, Q12, Q13, Q14, Q15, Q16, Q17, Q18, Q19, Q20, Q21, Q22, Q23, Q24, Q25, Q26, Q27, Q28, Q29, Q30, Q31, Q32, Q33, Q35, Q36, Q37, Q38, Q39, Q40, Q41, Q42, Q43, Q44, Q45, Q46, Q47, Q48, Q49, Q50, Q51, Q52, Q53, Q54, Q55, Q56, Q57, Q58, Q59, Q60, Q61, Q62, Q63, Q64, Q65, Q66, Q67, Q68, Q69, Q70, Q71, Q72, Q73, Q99, Q100, Q101, Q102, Q103, Q74, Q75, Q77, Q78, Q79, Q80, Q81, Q82, Q83, Q84, clr, List.length_nil, List.length_cons, List.getElem?_cons_zero, List.getElem?_cons_succ, Nat.reduceAdd, Nat.zero_add, Nat.add_zero, Nat.reduceLeDiff, Nat.reduceSub, ↓reduceIte, List.drop_succ_cons, List.drop_zero, List.take_succ_cons, List.take_zero, Bool.false_eq_true, List.nil_append, List.cons_append, Bool.not_true, Bool.not_false, cond_true, cond_false, bne, Q85, Q86, Q87, Q88, Q89, Q90, Q91, Q92, Q93, Q94, Q95, Q96, Q97, Q98, Q110, Q111, Q116, Q117, Q118, Q119, Q120, Q121, Q122, Q123, Option.map_some, Option.map_none]
  | false =>
  have first : ∀ rest : CC, lv [.var 1] (exec (callW F) ((runesOf s).length + 1) (.seq (.region [] [] c83_0) (.seq (.seq (.region [] [] c83_1) (.cond (.var 7) (.seq (.region [] [] c83_2) .ret) .skip)) rest)) [.v (.string s), .v undef, .v undef, .v undef, .v undef, .v undef, .v undef, .v undef, .v undef, .v undef, .v undef, .v undef, .v undef] []) = lv [.var 1] (exec (callW F) ((runesOf s).length + 1) rest [.v (.string s), .v (.bool false), .v undef, .v undef, .v undef, .v undef, .v undef, .v (.bool false), .v undef, .v undef, .v undef, .v undef, .v undef] []) := by
    intro rest
    unfold preS at q7
    rw [← hgt] at q7
    unfold eqS at q5 q6
    cases q8 : decide ((s.size : Int) > 1) with
    | false => simp only [c83_0, c83_1, hk, q5, q6, q8, snap_str, Bool.not_true, Q0, Q1, Q2, Q3, Q4, Q5, Q6, Q7, Q8, Q9, Q10, Q11, Q12, Q13, Q14, Q15, Q16, Q17, Q18, Q19, Q20, Q21, Q22, Q23, Q24, Q25, Q26, Q27, Q28, Q29, Q30, Q31, Q32, Q33, Q35, Q36, Q37, Q38, Q39, Q40, Q41, Q42, Q43, Q44, Q45, Q46, Q47, Q48, Q49, Q50, Q51, Q52, Q53, Q54, Q55, Q56, Q57, Q58, Q59, Q60, Q61, Q62, Q63, Q64, Q65, Q66, Q67, Q68, Q69, Q70, Q71, Q72, Q73, Q99, Q100, Q101, Q102, Q103, Q74, Q75, Q77, Q78, Q79, Q80, Q81, Q82, Q83, Q84, clr, List.length_nil, List.length_cons, List.getElem?_cons_zero, List.getElem?_cons_succ, Nat.reduceAdd, Nat.zero_add, Nat.add_zero, Nat.reduceLeDiff, Nat.reduceSub, ↓reduceIte, List.drop_succ_cons, List.drop_zero, List.take_succ_cons, List.take_zero, Bool.false_eq_true, List.nil_append, List.cons_append, Bool.not_true, Bool.not_false, cond_true, cond_false, bne, Q85, Q86, Q87, Q88, Q89, Q90, Q91, Q92, Q93, Q94, Q95, Q96, Q97, Q98, Q110, Q111, Q116, Q117, Q118, Q119, Q120, Q121, Q122, Q123, Option.map_some, Option.map_none]
    | true =>
      rw [q8, Bool.true_and] at q7
      have h2 : 2 ≤ s.size := by simp at q8; omega
      have sl := ss_to h2
      simp only [c83_0, c83_1, hk, q5, q6, q7, q8, e_sslice, n2, sl, snap_str, Bool.not_true, Q0, Q1, Q2, Q3, Q4, Q5, Q6, Q7, Q8, Q9, Q10, Q11, Q12, Q13, Q14, Q15, Q16, Q17, Q18, Q19, Q20, Q21, Q22, Q23, Q24, Q25, Q26, Q27, Q28, Q29, Q30, Q31, Q32, Q33, Q35, Q36, Q37, Q38, Q39, Q40, Q41, Q42, Q43, Q44, Q45, Q46, Q47, Q48, Q49, Q50, Q51, Q52, Q53, Q54, Q55, Q56, Q57, Q58, Q59, Q60, Q61, Q62, Q63, Q64, Q65, Q66, Q67, Q68, Q69, Q70, Q71, Q72, Q73, Q99, Q100, Q101, Q102, Q103, Q74, Q75, Q77, Q78, Q79, Q80, Q81, Q82, Q83, Q84, clr, List.length_nil, List.length_cons, List.getElem?_cons_zero, List.getElem?_cons_succ, Nat.reduceAdd, Nat.zero_add, Nat.add_zero, Nat.reduceLeDiff, Nat.reduceSub, ↓reduceIte, List.drop_succ_cons, List.drop_zero, List.take_succ_cons, List.take_zero, Bool.false_eq_true, List.nil_append, List.cons_append, Bool.not_true, Bool.not_false, cond_true, cond_false, bne, Q85, Q86, Q87, Q88, Q89, Q90, Q91, Q92, Q93, Q94, Q95, Q96, Q97, Q98, Q110, Q111, Q116, Q117, Q118, Q119, Q120, Q121, Q122, Q123, Option.map_some, Option.map_none]
  rw [first]
  have hb : bareS s = if (eqS s [91, 93] || (eqS s [123, 125] || (eqS s [33] || eqS s [59]))) = true then true else (runesOf s).all fun c => okR (firstC s) (clsN c) := by
    unfold bareS
    cases (eqS s [91, 93] || (eqS s [123, 125] || (eqS s [33] || eqS s [59]))) <;> simp [q5, q6, q7]
  rw [hb]
  obtain ⟨L', hL⟩ := runes_head hsz
  have hall := all_okR (firstC s) (runesOf s) (by rw [hL]; simp) (by rw [hL]; rfl)
  rw [← hall]
  have he : ((runesOf s).map rv)[0]? = some (rv (Utf8.decode s 0).1) := by rw [hL]; rfl
  have i0 := fun h : List AO => hr.ia he h
  have l0 := fun h : List AO => hr.len h
  rw [List.length_map] at l0
  have q3' : ∀ (h : List AO) (n : Nat), Q76 h false 1 (.ip (rv n).cells) = some (.v (.int .i32 (n : Int))) := fun _ _ => rfl
  have c0 := rcls_ok (Utf8.decode s 0).1
  rw [show clsN (Utf8.decode s 0).1 = firstC s from rfl] at c0
  have sn : ∀ (h : List AO) (k : IntKind) (x : Int), (AV.v (.int k x)).snap1 h = some (.v (.int k x)) := fun _ _ _ => rfl
  unfold eqS
  cases q1 : (s.toList == (⟨#[91, 93]⟩ : ByteArray).toList) with
  | true => simp only [c83_3, c83_4, q1, Bool.true_or, if_true, Q0, Q1, Q2, Q3, Q4, Q5, Q6, Q7, Q8, Q9, Q10, Q11, Q12, Q13, Q14, Q15, Q16, Q17, Q18, Q19, Q20, Q21, Q22, Q23, Q24, Q25, Q26, Q27, Q28, Q29, Q30, Q31, Q32, Q33, Q35, Q36, Q37, Q38, Q39, Q40, Q41, Q42, Q43, Q44, Q45, Q46, Q47, Q48, Q49, Q50, Q51, Q52, Q53, Q54, Q55, Q56, Q57, Q58, Q59, Q60, Q61, Q62, Q63, Q64, Q65, Q66, Q67, Q68, Q69, Q70, Q71, Q72, Q73, Q99, Q100, Q101, Q102, Q103, Q74, Q75, Q77, Q78, Q79, Q80, Q81, Q82, Q83, Q84, clr, List.length_nil, List.length_cons, List.getElem?_cons_zero, List.getElem?_cons_succ, Nat.reduceAdd, Nat.zero_add, Nat.add_zero, Nat.reduceLeDiff, Nat.reduceSub, ↓reduceIte, List.drop_succ_cons, List.drop_zero, List.take_succ_cons, List.take_zero, Bool.false_eq_true, List.nil_append, List.cons_append, Bool.not_true, Bool.not_false, cond_true, cond_false, bne, Q85, Q86, Q87, Q88, Q89, Q90, Q91, Q92, Q93, Q94, Q95, Q96, Q97, Q98, Q110, Q111, Q116, Q117, Q118, Q119, Q120, Q121, Q122, Q123, Option.map_some, Option.map_none]
  | false =>
  cases q2 : (s.toList == (⟨#[123, 125]⟩ : ByteArray).toList) with
  | true => simp only [c83_3, c83_4, q1, q2, Bool.true_or, Bool.or_true, if_true, Q0, Q1, Q2, Q3, Q4, Q5, Q6, Q7, Q8, Q9, Q10, Q11, Q12, Q13, Q14, Q15, Q16, Q17, Q18, Q19, Q20, Q21, Q22, Q23, Q24, Q25, Q26, Q27, Q28, Q29, Q30, Q31, Q32, Q33, Q35, Q36, Q37, Q38, Q39, Q40, Q41, Q42, Q43, Q44, Q45, Q46, Q47, Q48, Q49, Q50, Q51, Q52, Q53, Q54, Q55, Q56, Q57, Q58, Q59, Q60, Q61, Q62, Q63, Q64, Q65, Q66, Q67, Q68, Q69, Q70, Q71, Q72, Q73, Q99, Q100, Q101, Q102, Q103, Q74, Q75, Q77, Q78, Q79, Q80, Q81, Q82, Q83, Q84, clr, List.length_nil, List.length_cons, List.getElem?_cons_zero, List.getElem?_cons_succ, Nat.reduceAdd, Nat.zero_add, Nat.add_zero, Nat.reduceLeDiff, Nat.reduceSub, ↓reduceIte, List.drop_succ_cons, List.drop_zero, List.take_succ_cons, List.take_zero, Bool.false_eq_true, List.nil_append, List.cons_append, Bool.not_true, Bool.not_false, cond_true, cond_false, bne, Q85, Q86, Q87, Q88, Q89, Q90, Q91, Q92, Q93, Q94, Q95, Q96, Q97, Q98, Q110, Q111, Q116, Q117, Q118, Q119, Q120, Q121, Q122, Q123, Option.map_some, Option.map_none]
  | false =>
  cases q3 : (s.toList == (⟨#[33]⟩ : ByteArray).toList) with
  | true => simp only [c83_3, c83_4, q1, q2, q3, Bool.true_or, Bool.or_true, if_true, Q0, Q1, Q2, Q3, Q4, Q5, Q6, Q7, Q8, Q9, Q10, Q11, Q12, Q13, Q14, Q15, Q16, Q17, Q18, Q19, Q20, Q21, Q22, Q23, Q24, Q25, Q26, Q27, Q28, Q29, Q30, Q31, Q32, Q33, Q35, Q36, Q37, Q38, Q39, Q40, Q41, Q42, Q43, Q44, Q45, Q46, Q47, Q48, Q49, Q50, Q51, Q52, Q53, Q54, Q55, Q56, Q57, Q58, Q59, Q60, Q61, Q62, Q63, Q64, Q65, Q66, Q67, Q68, Q69, Q70, Q71, Q72, Q73, Q99, Q100, Q101, Q102, Q103, Q74, Q75, Q77, Q78, Q79, Q80, Q81, Q82, Q83, Q84, clr, List.length_nil, List.length_cons, List.getElem?_cons_zero, List.getElem?_cons_succ, Nat.reduceAdd, Nat.zero_add, Nat.add_zero, Nat.reduceLeDiff, Nat.reduceSub, ↓reduceIte, List.drop_succ_cons, List.drop_zero, List.take_succ_cons, List.take_zero, Bool.false_eq_true, List.nil_append, List.cons_append, Bool.not_true, Bool.not_false, cond_true, cond_false, bne, Q85, Q86, Q87, Q88, Q89, Q90, Q91, Q92, Q93, Q94, Q95, Q96, Q97, Q98, Q110, Q111, Q116, Q117, Q118, Q119, Q120, Q121, Q122, Q123, Option.map_some, Option.map_none]
  | false =>
  cases q4 : (s.toList == (⟨#[59]⟩ : ByteArray).toList) with
  | true => simp only [c83_3, c83_4, q1, q2, q3, q4, Bool.or_true, if_true, Q0, Q1, Q2, Q3, Q4, Q5, Q6, Q7, Q8, Q9, Q10, Q11, Q12, Q13, Q14, Q15, Q16, Q17, Q18, Q19, Q20, Q21, Q22, Q23, Q24, Q25, Q26, Q27, Q28, Q29, Q30, Q31, Q32, Q33, Q35, Q36, Q37, Q38, Q39, Q40, Q41, Q42, Q43, Q44, Q45, Q46, Q47, Q48, Q49, Q50, Q51, Q52, Q53, Q54, Q55, Q56, Q57, Q58, Q59, Q60, Q61, Q62, Q63, Q64, Q65, Q66, Q67, Q68, Q69, Q70, Q71, Q72, Q73, Q99, Q100, Q101, Q102, Q103, Q74, Q75, Q77, Q78, Q79, Q80, Q81, Q82, Q83, Q84, clr, List.length_nil, List.length_cons, List.getElem?_cons_zero, List.getElem?_cons_succ, Nat.reduceAdd, Nat.zero_add, Nat.add_zero, Nat.reduceLeDiff, Nat.reduceSub, ↓reduceIte, List.drop_succ_cons, List.drop_zero, List.take_succ_cons, List.take_zero, Bool.false_eq_true, List.nil_append, List.cons_append, Bool.not_true, Bool.not_false, cond_true, cond_false, bne, Q85, Q86, Q87, Q88, Q89, Q90, Q91, Q92, Q93, Q94, Q95, Q96, Q97, Q98, Q110, Q111, Q116, Q117, Q118, Q119, Q120, Q121, Q122, Q123, Option.map_some, Option.map_none]
  | false =>
    obtain ⟨x5, x6, hl⟩ := hlp (firstC s == 1) [.v (.string s), .v (.bool false), r, .v (.bool (firstC s == 1)), .v (.bool true), .v undef, .v undef, .v (.bool false), .v (.bool false), r, .v (.int .i64 (runesOf s).length), .v (.int .i64 0), .v undef] rfl ((runesOf s).length + 1) (by omega) []
    generalize ((firstC s == 1) && (runesOf s).all fun c => inN (clsN c)) = R1 at hl ⊢
    generalize ((runesOf s).all fun c => clsN c == 4) = R2 at hl ⊢
    cases R1 <;> cases R2 <;>
    simp only [V83, c83_3, c83_5, c83_6, c83_7, c83_8, c83_16, q1, q2, q3, q4, cr, snap_str, n0, i0, l0, q3', c0, sn, hl, Bool.or_self, Bool.or_true, Bool.true_or, Bool.false_eq_true, if_false, Q0, Q1, Q2, Q3, Q4, Q5, Q6, Q7, Q8, Q9, Q10, Q11, Q12, Q13, Q14, Q15, Q16, Q17, Q18, Q19, Q20, Q21, Q22, Q23, Q24, Q25, Q26, Q27, Q28, Q29, Q30, Q31, Q32, Q33, Q35, Q36, Q37, Q38, Q39, Q40, Q41, Q42, Q43, Q44, Q45, Q46, Q47, Q48, Q49, Q50, Q51, Q52, Q53, Q54, Q55, Q56, Q57, Q58, Q59, Q60, Q61, Q62, Q63, Q64, Q65, Q66, Q67, Q68, Q69, Q70, Q71, Q72, Q73, Q99, Q100, Q101, Q102, Q103, Q74, Q75, Q77, Q78, Q79, Q80, Q81, Q82, Q83, Q84, clr, List.length_nil, List.length_cons, List.getElem?_cons_zero, List.getElem?_cons_succ, Nat.reduceAdd, Nat.zero_add, Nat.add_zero, Nat.reduceLeDiff, Nat.reduceSub, ↓reduceIte, List.drop_succ_cons, List.drop_zero, List.take_succ_cons, List.take_zero, Bool.false_eq_true, List.nil_append, List.cons_append, Bool.not_true, Bool.not_false, cond_true, cond_false, bne, Q85, Q86, Q87, Q88, Q89, Q90, Q91, Q92, Q93, Q94, Q95, Q96, Q97, Q98, Q110, Q111, Q116, Q117, Q118, Q119, Q120, Q121, Q122, Q123, Option.map_some, Option.map_none]
end Go.AE.YtgcbaefclkfnoaaDoor
end

/-! An atom's text, quoted: the document's. -/
section
set_option linter.unusedVariables false
set_option linter.unusedSimpArgs false
namespace Go.AE.YtgcbaefclkfnoaaDoor
open Go Go.AE Go.Proofs.YtgcbaefclkfnoaaDoor

def hd16 (d : Nat) : UInt8 := UInt8.ofNat (if d < 10 then 48 + d else 87 + d)
def hexL (c : Nat) : List UInt8 := if c < 16 then [hd16 c] else [hd16 (c / 16), hd16 (c % 16)]
theorem hexL_len (c : Nat) : (hexL c).length ≤ 2 := by unfold hexL; split <;> simp
def bl (s : ByteArray) : List UInt8 := s.data.toList
theorem bl_eta (s : ByteArray) : s = ⟨(bl s).toArray⟩ := by cases s; simp [bl]
def encL (c : Nat) : List UInt8 := bl (Utf8.encode (c : Int))
theorem enc_eq (c : Nat) : Utf8.encode (c : Int) = ⟨(encL c).toArray⟩ := bl_eta _
theorem bl_len (l : List UInt8) (h : l.length ≤ 4) : (bl ⟨l.toArray⟩).length ≤ 4 := by simpa [bl] using h
theorem enc_len (r : Int) : (bl (Utf8.encode r)).length ≤ 4 := by
  unfold Utf8.encode
  generalize (if Utf8.valid r = true then r.toNat else Utf8.runeError) = m
  simp only
  split
  · exact bl_len _ (by simp)
  · split
    · exact bl_len _ (by simp)
    · split
      · exact bl_len _ (by simp)
      · exact bl_len _ (by simp)
theorem encL_len (c : Nat) : (encL c).length ≤ 4 := enc_len _
def escH (b1 b2 b3 b4 : Bool) (E H : List UInt8) : List UInt8 :=
  if b1 = true then [92] ++ E else if b2 = true then [92, 110] else if b3 = true then [92, 116] else if b4 = true then ([92, 120] ++ H) ++ [92] else E
theorem escH_len (b1 b2 b3 b4 : Bool) {E H : List UInt8} (h1 : E.length ≤ 4) (h2 : H.length ≤ 2) : (escH b1 b2 b3 b4 E H).length ≤ 5 := by
  cases b1 <;> cases b2 <;> cases b3 <;> cases b4 <;> simp [escH] <;> omega
def escL (c : Nat) : List UInt8 := escH ((c : Int) == 39 || (c : Int) == 92) ((c : Int) == 10) ((c : Int) == 9) (decide ((c : Int) < 32)) (encL c) (hexL c)
theorem escL_len (c : Nat) : (escL c).length ≤ 5 := escH_len _ _ _ _ (encL_len c) (hexL_len c)
def writeL (s : ByteArray) : List UInt8 := if bareS s = true then bl s else 39 :: ((runesOf s).flatMap escL ++ [39])
theorem rhex_tab : (List.range 32).map (fun (c : Nat) => callN F 20 85 [.v (.int .i32 (c : Int))] []) = (List.range 32).map fun (c : Nat) => some (.v (.string ⟨(hexL c).toArray⟩), []) := by kernel_rfl
theorem rhex_ok {c : Nat} (h : c < 32) : callW F 85 [.v (.int .i32 (c : Int))] [] = some (.v (.string ⟨(hexL c).toArray⟩), []) :=
  callW_iff.2 ⟨20, List.map_inj_left.1 rhex_tab c (List.mem_range.2 h)⟩
def rsV (h : List AO) : AV → Option (AV × List AO)
  | .v (.int _ n) => some (.v (.string (Utf8.encode n)), h)
  | _ => none
theorem e_runestr {call : CallF} {vars env : List AV} {h : List AO} {x : Opd} : evOp call vars env h (.runestr x) = rsV h (getO vars env x) := by
  simp only [evOp, rsV]
  generalize getO vars env x = a
  cases a with
  | v x => cases x <;> rfl
  | _ => rfl
theorem rsV_nat {h : List AO} {k : IntKind} {c : Nat} : rsV h (.v (.int k (c : Int))) = some (.v (.string ⟨(encL c).toArray⟩), h) := by
  rw [← enc_eq]; rfl
def strV (l : List UInt8) : AV := .v (.string ⟨l.toArray⟩)
theorem add_str {x y : List UInt8} (hl : x.length + y.length ≤ 1000000000) : Q78 .add (strV x) (strV y) = some (strV (x ++ y)) := by
  unfold strV
  simp only [Q78, Q80, str_cat]
  rw [if_pos (str_le hl)]
def V74 (P : ByteArray) (r : AV) (n i : Int) (x9 : AV) : List AV := [.junk, .junk, .v (.string P), .junk, .junk, .junk, r, .v (.int .i64 n), .v (.int .i64 i), x9, .junk, .junk, .junk, .junk]
def K74 : List Bool := [false, false, true, false, false, false, true, true, true, false, false, false, false, false]
def Adds (x y z : ByteArray) : Prop := ((x.size + y.size : Nat) : Int) ≤ 9223372036854775807 ∧ x ++ y = z
section
variable {call : CallF} {K : Nat} {h : List AO} {P R SE SH : ByteArray} {x : Int} {v0 v1 v4 v5 v6 v7 v8 v9 v10 v11 v12 v13 : AV}
theorem g12 {Y : ByteArray} (a2 : Q78 .add (.v (.string P)) (.v (.string Y)) = some (.v (.string R))) : exec call K (.region [] [] [⟨(.mov (.var 2)), none, none⟩, ⟨(.bin .add (.loc 0) (.k (.string Y))), none, none⟩, ⟨(.mov (.loc 0)), (some 2), none⟩]) [v0, v1, .v (.string P), .v (.int .i32 x), v4, v5, v6, v7, v8, v9, v10, v11, v12, v13] h = some (.normal, [v0, v1, .v (.string R), .v (.int .i32 x), v4, v5, v6, v7, v8, v9, v10, v11, v12, v13], h) := by
  simp only [a2, Q0, Q1, Q2, Q3, Q4, Q5, Q6, Q7, Q8, Q9, Q10, Q11, Q12, Q13, Q14, Q15, Q16, Q17, Q18, Q19, Q20, Q21, Q22, Q23, Q24, Q25, Q26, Q27, Q28, Q29, Q30, Q31, Q32, Q33, Q35, Q36, Q37, Q38, Q39, Q40, Q41, Q42, Q43, Q44, Q45, Q46, Q47, Q48, Q49, Q50, Q51, Q52, Q53, Q54, Q55, Q56, Q57, Q58, Q59, Q60, Q61, Q62, Q63, Q64, Q65, Q66, Q67, Q68, Q69, Q70, Q71, Q72, Q73, Q99, Q100, Q101, Q102, Q103, Q74, Q75, Q77, Q78, Q79, Q80, Q81, Q82, Q83, Q84, clr, List.length_nil, List.length_cons, List.getElem?_cons_zero, List.getElem?_cons_succ, Nat.reduceAdd, Nat.zero_add, Nat.add_zero, Nat.reduceLeDiff, Nat.reduceSub, ↓reduceIte, List.drop_succ_cons, List.drop_zero, List.take_succ_cons, List.take_zero, Bool.false_eq_true, List.nil_append, List.cons_append, Bool.not_true, Bool.not_false, cond_true, cond_false, bne, Q85, Q86, Q87, Q88, Q89, Q90, Q91, Q92, Q93, Q94, Q95, Q96, Q97, Q98, Q110, Q111, Q116, Q117, Q118, Q119, Q120, Q121, Q122, Q123, Option.map_some, Option.map_none, Q34, -Q78]
theorem r12 (a2 : Q78 .add (.v (.string P)) (.v (.string ⟨#[92, 110]⟩)) = some (.v (.string R))) : exec call K (.region [] [] c74_12) [v0, v1, .v (.string P), .v (.int .i32 x), v4, v5, v6, v7, v8, v9, v10, v11, v12, v13] h = some (.normal, [v0, v1, .v (.string R), .v (.int .i32 x), v4, v5, v6, v7, v8, v9, v10, v11, v12, v13], h) := g12 a2
theorem r14 (a2 : Q78 .add (.v (.string P)) (.v (.string ⟨#[92, 116]⟩)) = some (.v (.string R))) : exec call K (.region [] [] c74_14) [v0, v1, .v (.string P), .v (.int .i32 x), v4, v5, v6, v7, v8, v9, v10, v11, v12, v13] h = some (.normal, [v0, v1, .v (.string R), .v (.int .i32 x), v4, v5, v6, v7, v8, v9, v10, v11, v12, v13], h) := g12 a2
theorem g10 {Y Q : ByteArray} (hrs : rsV h (.v (.int .i32 x)) = some (.v (.string SE), h)) (a1 : Q78 .add (.v (.string Y)) (.v (.string SE)) = some (.v (.string Q))) (a2 : Q78 .add (.v (.string P)) (.v (.string Q)) = some (.v (.string R))) : exec call K (.region [] [] [⟨(.mov (.var 2)), none, none⟩,
  ⟨(.mov (.var 3)), none, none⟩,
  ⟨(.runestr (.loc 0)), none, none⟩,
  ⟨(.bin .add (.k (.string Y)) (.loc 0)), none, none⟩,
  ⟨(.bin .add (.loc 3) (.loc 0)), none, none⟩,
  ⟨(.mov (.loc 0)), (some 2), none⟩]) [v0, v1, .v (.string P), .v (.int .i32 x), v4, v5, v6, v7, v8, v9, v10, v11, v12, v13] h = some (.normal, [v0, v1, .v (.string R), .v (.int .i32 x), v4, v5, v6, v7, v8, v9, v10, v11, v12, v13], h) := by
  simp only [e_runestr, hrs, a1, a2, Q0, Q1, Q2, Q3, Q4, Q5, Q6, Q7, Q8, Q9, Q10, Q11, Q12, Q13, Q14, Q15, Q16, Q17, Q18, Q19, Q20, Q21, Q22, Q23, Q24, Q25, Q26, Q27, Q28, Q29, Q30, Q31, Q32, Q33, Q35, Q36, Q37, Q38, Q39, Q40, Q41, Q42, Q43, Q44, Q45, Q46, Q47, Q48, Q49, Q50, Q51, Q52, Q53, Q54, Q55, Q56, Q57, Q58, Q59, Q60, Q61, Q62, Q63, Q64, Q65, Q66, Q67, Q68, Q69, Q70, Q71, Q72, Q73, Q99, Q100, Q101, Q102, Q103, Q74, Q75, Q77, Q78, Q79, Q80, Q81, Q82, Q83, Q84, clr, List.length_nil, List.length_cons, List.getElem?_cons_zero, List.getElem?_cons_succ, Nat.reduceAdd, Nat.zero_add, Nat.add_zero, Nat.reduceLeDiff, Nat.reduceSub, ↓reduceIte, List.drop_succ_cons, List.drop_zero, List.take_succ_cons, List.take_zero, Bool.false_eq_true, List.nil_append, List.cons_append, Bool.not_true, Bool.not_false, cond_true, cond_false, bne, Q85, Q86, Q87, Q88, Q89, Q90, Q91, Q92, Q93, Q94, Q95, Q96, Q97, Q98, Q110, Q111, Q116, Q117, Q118, Q119, Q120, Q121, Q122, Q123, Option.map_some, Option.map_none, Q34, -Q78]
theorem r10 {Q : ByteArray} (hrs : rsV h (.v (.int .i32 x)) = some (.v (.string SE), h)) (a1 : Q78 .add (.v (.string ⟨#[92]⟩)) (.v (.string SE)) = some (.v (.string Q))) (a2 : Q78 .add (.v (.string P)) (.v (.string Q)) = some (.v (.string R))) : exec call K (.region [] [] c74_10) [v0, v1, .v (.string P), .v (.int .i32 x), v4, v5, v6, v7, v8, v9, v10, v11, v12, v13] h = some (.normal, [v0, v1, .v (.string R), .v (.int .i32 x), v4, v5, v6, v7, v8, v9, v10, v11, v12, v13], h) := g10 hrs a1 a2
theorem r17 (hrs : rsV h (.v (.int .i32 x)) = some (.v (.string SE), h)) (a2 : Q78 .add (.v (.string P)) (.v (.string SE)) = some (.v (.string R))) : exec call K (.region [] [] c74_17) [v0, v1, .v (.string P), .v (.int .i32 x), v4, v5, v6, v7, v8, v9, v10, v11, v12, v13] h = some (.normal, [v0, v1, .v (.string R), .v (.int .i32 x), v4, v5, v6, v7, v8, v9, v10, v11, v12, v13], h) := by
  simp only [c74_17, e_runestr, hrs, a2, Q0, Q1, Q2, Q3, Q4, Q5, Q6, Q7, Q8, Q9, Q10, Q11, Q12, Q13, Q14, Q15, Q16, Q17, Q18, Q19, Q20, Q21, Q22, Q23, Q24, Q25, Q26, Q27, Q28, Q29, Q30, Q31, Q32, Q33, Q35, Q36, Q37, Q38, Q39, Q40, Q41, Q42, Q43, Q44, Q45, Q46, Q47, Q48, Q49, Q50, Q51, Q52, Q53, Q54, Q55, Q56, Q57, Q58, Q59, Q60, Q61, Q62, Q63, Q64, Q65, Q66, Q67, Q68, Q69, Q70, Q71, Q72, Q73, Q99, Q100, Q101, Q102, Q103, Q74, Q75, Q77, Q78, Q79, Q80, Q81, Q82, Q83, Q84, clr, List.length_nil, List.length_cons, List.getElem?_cons_zero, List.getElem?_cons_succ, Nat.reduceAdd, Nat.zero_add, Nat.add_zero, Nat.reduceLeDiff, Nat.reduceSub, ↓reduceIte, List.drop_succ_cons, List.drop_zero, List.take_succ_cons, List.take_zero, Bool.false_eq_true, List.nil_append, List.cons_append, Bool.not_true, Bool.not_false, cond_true, cond_false, bne, Q85, Q86, Q87, Q88, Q89, Q90, Q91, Q92, Q93, Q94, Q95, Q96, Q97, Q98, Q110, Q111, Q116, Q117, Q118, Q119, Q120, Q121, Q122, Q123, Option.map_some, Option.map_none, Q34, -Q78]
theorem g16 {Y Y' Q Q' : ByteArray} (hx : call 85 [.v (.int .i32 x)] [] = some (.v (.string SH), [])) (a1 : Q78 .add (.v (.string Y)) (.v (.string SH)) = some (.v (.string Q))) (a2 : Q78 .add (.v (.string Q)) (.v (.string Y')) = some (.v (.string Q'))) (a3 : Q78 .add (.v (.string P)) (.v (.string Q')) = some (.v (.string R))) : exec call K (.region [] [] [⟨(.mov (.var 2)), none, none⟩,
  ⟨(.mov (.var 3)), none, none⟩,
  ⟨(.call true 85 [(.loc 0)]), none, none⟩,
  ⟨(.bin .add (.k (.string Y)) (.loc 0)), none, none⟩,
  ⟨(.bin .add (.loc 0) (.k (.string Y'))), none, none⟩,
  ⟨(.bin .add (.loc 4) (.loc 0)), none, none⟩,
  ⟨(.mov (.loc 0)), (some 2), none⟩]) [v0, v1, .v (.string P), .v (.int .i32 x), v4, v5, v6, v7, v8, v9, v10, v11, v12, v13] h = some (.normal, [v0, v1, .v (.string R), .v (.int .i32 x), v4, v5, v6, v7, v8, v9, v10, v11, v12, v13], h) := by
  have sn : (AV.v (.int .i32 x)).snap1 h = some (.v (.int .i32 x)) := rfl
  simp only [sn, hx, a1, a2, a3, Q0, Q1, Q2, Q3, Q4, Q5, Q6, Q7, Q8, Q9, Q10, Q11, Q12, Q13, Q14, Q15, Q16, Q17, Q18, Q19, Q20, Q21, Q22, Q23, Q24, Q25, Q26, Q27, Q28, Q29, Q30, Q31, Q32, Q33, Q35, Q36, Q37, Q38, Q39, Q40, Q41, Q42, Q43, Q44, Q45, Q46, Q47, Q48, Q49, Q50, Q51, Q52, Q53, Q54, Q55, Q56, Q57, Q58, Q59, Q60, Q61, Q62, Q63, Q64, Q65, Q66, Q67, Q68, Q69, Q70, Q71, Q72, Q73, Q99, Q100, Q101, Q102, Q103, Q74, Q75, Q77, Q78, Q79, Q80, Q81, Q82, Q83, Q84, clr, List.length_nil, List.length_cons, List.getElem?_cons_zero, List.getElem?_cons_succ, Nat.reduceAdd, Nat.zero_add, Nat.add_zero, Nat.reduceLeDiff, Nat.reduceSub, ↓reduceIte, List.drop_succ_cons, List.drop_zero, List.take_succ_cons, List.take_zero, Bool.false_eq_true, List.nil_append, List.cons_append, Bool.not_true, Bool.not_false, cond_true, cond_false, bne, Q85, Q86, Q87, Q88, Q89, Q90, Q91, Q92, Q93, Q94, Q95, Q96, Q97, Q98, Q110, Q111, Q116, Q117, Q118, Q119, Q120, Q121, Q122, Q123, Option.map_some, Option.map_none, Q34, -Q78]
theorem r16 {Q Q' : ByteArray} (hx : call 85 [.v (.int .i32 x)] [] = some (.v (.string SH), [])) (a1 : Q78 .add (.v (.string ⟨#[92, 120]⟩)) (.v (.string SH)) = some (.v (.string Q))) (a2 : Q78 .add (.v (.string Q)) (.v (.string ⟨#[92]⟩)) = some (.v (.string Q'))) (a3 : Q78 .add (.v (.string P)) (.v (.string Q')) = some (.v (.string R))) : exec call K (.region [] [] c74_16) [v0, v1, .v (.string P), .v (.int .i32 x), v4, v5, v6, v7, v8, v9, v10, v11, v12, v13] h = some (.normal, [v0, v1, .v (.string R), .v (.int .i32 x), v4, v5, v6, v7, v8, v9, v10, v11, v12, v13], h) := g16 hx a1 a2 a3
end
def AddS (x y z : ByteArray) : Prop := Q78 .add (.v (.string x)) (.v (.string y)) = some (.v (.string z))
def code19 (X10 X12 X14 X16 X17 : CC) : CC := (.seq (.region [] [] c74_7) (.seq (.cond (.var 9) .skip (.exit 0)) (.seq (.block 1 (.seq (.region [] [] c74_8) (.block 2 (.seq (.region [] [] c74_9) (.cond (.var 10) X10 (.seq (.region [] [] c74_11) (.cond (.var 11) X12 (.seq (.region [] [] c74_13) (.cond (.var 12) X14 (.seq (.region [] [] c74_15) (.cond (.var 13) X16 X17))))))))))) (.region [] [] c74_18))))
theorem code_eq : c74_19 = code19 (.region [] [] c74_10) (.region [] [] c74_12) (.region [] [] c74_14) (.region [] [] c74_16) (.region [] [] c74_17) := rfl
theorem step74 {call : CallF} {r : AV} {P R : ByteArray} {c : Int} {i n K : Nat} {h : List AO} {X10 X12 X14 X16 X17 : CC} (hlt : decide ((i : Int) < (n : Int)) = true) (hw : IntKind.i64.wrap ((i : Int) + 1) = ((i + 1 : Nat) : Int))
    (q2 : ∀ h : List AO, iaV h 1 r (some i) = some (.ip [.v (.int .i32 c)]))
    (k1 : (c == 39 || c == 92) = true → ∀ v0 v1 v4 v5 v6 v7 v8 v9 v10 v11 v12 v13 : AV, exec call K X10 [v0, v1, .v (.string P), .v (.int .i32 c), v4, v5, v6, v7, v8, v9, v10, v11, v12, v13] h = some (.normal, [v0, v1, .v (.string R), .v (.int .i32 c), v4, v5, v6, v7, v8, v9, v10, v11, v12, v13], h))
    (k2 : (c == 39 || c == 92) = false → (c == 10) = true → ∀ v0 v1 v4 v5 v6 v7 v8 v9 v10 v11 v12 v13 : AV, exec call K X12 [v0, v1, .v (.string P), .v (.int .i32 c), v4, v5, v6, v7, v8, v9, v10, v11, v12, v13] h = some (.normal, [v0, v1, .v (.string R), .v (.int .i32 c), v4, v5, v6, v7, v8, v9, v10, v11, v12, v13], h))
    (k3 : (c == 39 || c == 92) = false → (c == 10) = false → (c == 9) = true → ∀ v0 v1 v4 v5 v6 v7 v8 v9 v10 v11 v12 v13 : AV, exec call K X14 [v0, v1, .v (.string P), .v (.int .i32 c), v4, v5, v6, v7, v8, v9, v10, v11, v12, v13] h = some (.normal, [v0, v1, .v (.string R), .v (.int .i32 c), v4, v5, v6, v7, v8, v9, v10, v11, v12, v13], h))
    (k4 : (c == 39 || c == 92) = false → (c == 10) = false → (c == 9) = false → decide (c < 32) = true → ∀ v0 v1 v4 v5 v6 v7 v8 v9 v10 v11 v12 v13 : AV, exec call K X16 [v0, v1, .v (.string P), .v (.int .i32 c), v4, v5, v6, v7, v8, v9, v10, v11, v12, v13] h = some (.normal, [v0, v1, .v (.string R), .v (.int .i32 c), v4, v5, v6, v7, v8, v9, v10, v11, v12, v13], h))
    (k5 : (c == 39 || c == 92) = false → (c == 10) = false → (c == 9) = false → decide (c < 32) = false → ∀ v0 v1 v4 v5 v6 v7 v8 v9 v10 v11 v12 v13 : AV, exec call K X17 [v0, v1, .v (.string P), .v (.int .i32 c), v4, v5, v6, v7, v8, v9, v10, v11, v12, v13] h = some (.normal, [v0, v1, .v (.string R), .v (.int .i32 c), v4, v5, v6, v7, v8, v9, v10, v11, v12, v13], h)) :
    ∃ x9 x10 x11 x12 x13 : AV, exec call K (code19 X10 X12 X14 X16 X17) (V74 P r n i .junk) h = some (.normal, [.junk, .junk, .v (.string R), .v (.int .i32 c), .junk, .junk, r, .v (.int .i64 n), .v (.int .i64 ((i + 1 : Nat) : Int)), x9, x10, x11, x12, x13], h) := by
  have q3 : ∀ (h : List AO), Q76 h false 1 (.ip [.v (.int .i32 c)]) = some (.v (.int .i32 c)) := fun _ => rfl
  cases q1 : (c == 39 || c == 92) with
  | true =>
    have z := k1 q1
    refine ⟨.v (.bool true), .v (.bool true), .junk, .junk, .junk, ?_⟩
    cases q2' : (c == 39) with
    | true => simp only [V74, code19, c74_7, c74_8, c74_9, c74_18, hlt, hw, q2, q3, q2', z, Q0, Q1, Q2, Q3, Q4, Q5, Q6, Q7, Q8, Q9, Q10, Q11, Q12, Q13, Q14, Q15, Q16, Q17, Q18, Q19, Q20, Q21, Q22, Q23, Q24, Q25, Q26, Q27, Q28, Q29, Q30, Q31, Q32, Q33, Q35, Q36, Q37, Q38, Q39, Q40, Q41, Q42, Q43, Q44, Q45, Q46, Q47, Q48, Q49, Q50, Q51, Q52, Q53, Q54, Q55, Q56, Q57, Q58, Q59, Q60, Q61, Q62, Q63, Q64, Q65, Q66, Q67, Q68, Q69, Q70, Q71, Q72, Q73, Q99, Q100, Q101, Q102, Q103, Q74, Q75, Q77, Q78, Q79, Q80, Q81, Q82, Q83, Q84, clr, List.length_nil, List.length_cons, List.getElem?_cons_zero, List.getElem?_cons_succ, Nat.reduceAdd, Nat.zero_add, Nat.add_zero, Nat.reduceLeDiff, Nat.reduceSub, ↓reduceIte, List.drop_succ_cons, List.drop_zero, List.take_succ_cons, List.take_zero, Bool.false_eq_true, List.nil_append, List.cons_append, Bool.not_true, Bool.not_false, cond_true, cond_false, bne, Q85, Q86, Q87, Q88, Q89, Q90, Q91, Q92, Q93, Q94, Q95, Q96, Q97, Q98, Q110, Q111, Q116, Q117, Q118, Q119, Q120, Q121, Q122, Q123, Option.map_some, Option.map_none, Q34]
    | false =>
      rw [q2', Bool.false_or] at q1
      simp only [V74, code19, c74_7, c74_8, c74_9, c74_18, hlt, hw, q2, q3, q2', q1, z, Q0, Q1, Q2, Q3, Q4, Q5, Q6, Q7, Q8, Q9, Q10, Q11, Q12, Q13, Q14, Q15, Q16, Q17, Q18, Q19, Q20, Q21, Q22, Q23, Q24, Q25, Q26, Q27, Q28, Q29, Q30, Q31, Q32, Q33, Q35, Q36, Q37, Q38, Q39, Q40, Q41, Q42, Q43, Q44, Q45, Q46, Q47, Q48, Q49, Q50, Q51, Q52, Q53, Q54, Q55, Q56, Q57, Q58, Q59, Q60, Q61, Q62, Q63, Q64, Q65, Q66, Q67, Q68, Q69, Q70, Q71, Q72, Q73, Q99, Q100, Q101, Q102, Q103, Q74, Q75, Q77, Q78, Q79, Q80, Q81, Q82, Q83, Q84, clr, List.length_nil, List.length_cons, List.getElem?_cons_zero, List.getElem?_cons_succ, Nat.reduceAdd, Nat.zero_add, Nat.add_zero, Nat.reduceLeDiff, Nat.reduceSub, ↓reduceIte, List.drop_succ_cons, List.drop_zero, List.take_succ_cons, List.take_zero, Bool.false_eq_true, List.nil_append, List.cons_append, Bool.not_true, Bool.not_false, cond_true, cond_false, bne, Q85, Q86, Q87, Q88, Q89, Q90, Q91, Q92, Q93, Q94, Q95, Q96, Q97, Q98, Q110, Q111, Q116, Q117, Q118, Q119, Q120, Q121, Q122, Q123, Option.map_some, Option.map_none, Q34]
  | false =>
    have q1a : (c == 39) = false := by simp only [Bool.or_eq_false_iff] at q1; exact q1.1
    have q1b : (c == 92) = false := by simp only [Bool.or_eq_false_iff] at q1; exact q1.2
    cases q5 : (c == 10) with
    | true =>
      have z := k2 q1 q5
      refine ⟨.v (.bool true), .v (.bool false), .v (.bool true), .junk, .junk, ?_⟩
      simp only [V74, code19, c74_7, c74_8, c74_9, c74_11, c74_18, hlt, hw, q2, q3, q1a, q1b, q5, z, Q0, Q1, Q2, Q3, Q4, Q5, Q6, Q7, Q8, Q9, Q10, Q11, Q12, Q13, Q14, Q15, Q16, Q17, Q18, Q19, Q20, Q21, Q22, Q23, Q24, Q25, Q26, Q27, Q28, Q29, Q30, Q31, Q32, Q33, Q35, Q36, Q37, Q38, Q39, Q40, Q41, Q42, Q43, Q44, Q45, Q46, Q47, Q48, Q49, Q50, Q51, Q52, Q53, Q54, Q55, Q56, Q57, Q58, Q59, Q60, Q61, Q62, Q63, Q64, Q65, Q66, Q67, Q68, Q69, Q70, Q71, Q72, Q73, Q99, Q100, Q101, Q102, Q103, Q74, Q75, Q77, Q78, Q79, Q80, Q81, Q82, Q83, Q84, clr, List.length_nil, List.length_cons, List.getElem?_cons_zero, List.getElem?_cons_succ, Nat.reduceAdd, Nat.zero_add, Nat.add_zero, Nat.reduceLeDiff, Nat.reduceSub, ↓reduceIte, List.drop_succ_cons, List.drop_zero, List.take_succ_cons, List.take_zero, Bool.false_eq_true, List.nil_append, List.cons_append, Bool.not_true, Bool.not_false, cond_true, cond_false, bne, Q85, Q86, Q87, Q88, Q89, Q90, Q91, Q92, Q93, Q94, Q95, Q96, Q97, Q98, Q110, Q111, Q116, Q117, Q118, Q119, Q120, Q121, Q122, Q123, Option.map_some, Option.map_none, Q34]
    | false =>
      cases q6 : (c == 9) with
      | true =>
        have z := k3 q1 q5 q6
        refine ⟨.v (.bool true), .v (.bool false), .v (.bool false), .v (.bool true), .junk, ?_⟩
        simp only [V74, code19, c74_7, c74_8, c74_9, c74_11, c74_13, c74_18, hlt, hw, q2, q3, q1a, q1b, q5, q6, z, Q0, Q1, Q2, Q3, Q4, Q5, Q6, Q7, Q8, Q9, Q10, Q11, Q12, Q13, Q14, Q15, Q16, Q17, Q18, Q19, Q20, Q21, Q22, Q23, Q24, Q25, Q26, Q27, Q28, Q29, Q30, Q31, Q32, Q33, Q35, Q36, Q37, Q38, Q39, Q40, Q41, Q42, Q43, Q44, Q45, Q46, Q47, Q48, Q49, Q50, Q51, Q52, Q53, Q54, Q55, Q56, Q57, Q58, Q59, Q60, Q61, Q62, Q63, Q64, Q65, Q66, Q67, Q68, Q69, Q70, Q71, Q72, Q73, Q99, Q100, Q101, Q102, Q103, Q74, Q75, Q77, Q78, Q79, Q80, Q81, Q82, Q83, Q84, clr, List.length_nil, List.length_cons, List.getElem?_cons_zero, List.getElem?_cons_succ, Nat.reduceAdd, Nat.zero_add, Nat.add_zero, Nat.reduceLeDiff, Nat.reduceSub, ↓reduceIte, List.drop_succ_cons, List.drop_zero, List.take_succ_cons, List.take_zero, Bool.false_eq_true, List.nil_append, List.cons_append, Bool.not_true, Bool.not_false, cond_true, cond_false, bne, Q85, Q86, Q87, Q88, Q89, Q90, Q91, Q92, Q93, Q94, Q95, Q96, Q97, Q98, Q110, Q111, Q116, Q117, Q118, Q119, Q120, Q121, Q122, Q123, Option.map_some, Option.map_none, Q34]
      | false =>
        cases q7 : decide (c < 32) with
        | true =>
          have z := k4 q1 q5 q6 q7
          refine ⟨.v (.bool true), .v (.bool false), .v (.bool false), .v (.bool false), .v (.bool true), ?_⟩
          simp only [V74, code19, c74_7, c74_8, c74_9, c74_11, c74_13, c74_15, c74_18, hlt, hw, q2, q3, q1a, q1b, q5, q6, q7, z, Q0, Q1, Q2, Q3, Q4, Q5, Q6, Q7, Q8, Q9, Q10, Q11, Q12, Q13, Q14, Q15, Q16, Q17, Q18, Q19, Q20, Q21, Q22, Q23, Q24, Q25, Q26, Q27, Q28, Q29, Q30, Q31, Q32, Q33, Q35, Q36, Q37, Q38, Q39, Q40, Q41, Q42, Q43, Q44, Q45, Q46, Q47, Q48, Q49, Q50, Q51, Q52, Q53, Q54, Q55, Q56, Q57, Q58, Q59, Q60, Q61, Q62, Q63, Q64, Q65, Q66, Q67, Q68, Q69, Q70, Q71, Q72, Q73, Q99, Q100, Q101, Q102, Q103, Q74, Q75, Q77, Q78, Q79, Q80, Q81, Q82, Q83, Q84, clr, List.length_nil, List.length_cons, List.getElem?_cons_zero, List.getElem?_cons_succ, Nat.reduceAdd, Nat.zero_add, Nat.add_zero, Nat.reduceLeDiff, Nat.reduceSub, ↓reduceIte, List.drop_succ_cons, List.drop_zero, List.take_succ_cons, List.take_zero, Bool.false_eq_true, List.nil_append, List.cons_append, Bool.not_true, Bool.not_false, cond_true, cond_false, bne, Q85, Q86, Q87, Q88, Q89, Q90, Q91, Q92, Q93, Q94, Q95, Q96, Q97, Q98, Q110, Q111, Q116, Q117, Q118, Q119, Q120, Q121, Q122, Q123, Option.map_some, Option.map_none, Q34]
        | false =>
          have z := k5 q1 q5 q6 q7
          refine ⟨.v (.bool true), .v (.bool false), .v (.bool false), .v (.bool false), .v (.bool false), ?_⟩
          simp only [V74, code19, c74_7, c74_8, c74_9, c74_11, c74_13, c74_15, c74_18, hlt, hw, q2, q3, q1a, q1b, q5, q6, q7, z, Q0, Q1, Q2, Q3, Q4, Q5, Q6, Q7, Q8, Q9, Q10, Q11, Q12, Q13, Q14, Q15, Q16, Q17, Q18, Q19, Q20, Q21, Q22, Q23, Q24, Q25, Q26, Q27, Q28, Q29, Q30, Q31, Q32, Q33, Q35, Q36, Q37, Q38, Q39, Q40, Q41, Q42, Q43, Q44, Q45, Q46, Q47, Q48, Q49, Q50, Q51, Q52, Q53, Q54, Q55, Q56, Q57, Q58, Q59, Q60, Q61, Q62, Q63, Q64, Q65, Q66, Q67, Q68, Q69, Q70, Q71, Q72, Q73, Q99, Q100, Q101, Q102, Q103, Q74, Q75, Q77, Q78, Q79, Q80, Q81, Q82, Q83, Q84, clr, List.length_nil, List.length_cons, List.getElem?_cons_zero, List.getElem?_cons_succ, Nat.reduceAdd, Nat.zero_add, Nat.add_zero, Nat.reduceLeDiff, Nat.reduceSub, ↓reduceIte, List.drop_succ_cons, List.drop_zero, List.take_succ_cons, List.take_zero, Bool.false_eq_true, List.nil_append, List.cons_append, Bool.not_true, Bool.not_false, cond_true, cond_false, bne, Q85, Q86, Q87, Q88, Q89, Q90, Q91, Q92, Q93, Q94, Q95, Q96, Q97, Q98, Q110, Q111, Q116, Q117, Q118, Q119, Q120, Q121, Q122, Q123, Option.map_some, Option.map_none, Q34]
theorem exit74 {call : CallF} {r : AV} {P : ByteArray} {n K : Nat} {h : List AO} {X10 X12 X14 X16 X17 : CC} : exec call K (code19 X10 X12 X14 X16 X17) (V74 P r n n .junk) h = some (.exit 0, V74 P r n n (.v (.bool false)), h) := by
  have hlt := lt_f (n := n)
  simp only [V74, code19, c74_7, hlt, Q0, Q1, Q2, Q3, Q4, Q5, Q6, Q7, Q8, Q9, Q10, Q11, Q12, Q13, Q14, Q15, Q16, Q17, Q18, Q19, Q20, Q21, Q22, Q23, Q24, Q25, Q26, Q27, Q28, Q29, Q30, Q31, Q32, Q33, Q35, Q36, Q37, Q38, Q39, Q40, Q41, Q42, Q43, Q44, Q45, Q46, Q47, Q48, Q49, Q50, Q51, Q52, Q53, Q54, Q55, Q56, Q57, Q58, Q59, Q60, Q61, Q62, Q63, Q64, Q65, Q66, Q67, Q68, Q69, Q70, Q71, Q72, Q73, Q99, Q100, Q101, Q102, Q103, Q74, Q75, Q77, Q78, Q79, Q80, Q81, Q82, Q83, Q84, clr, List.length_nil, List.length_cons, List.getElem?_cons_zero, List.getElem?_cons_succ, Nat.reduceAdd, Nat.zero_add, Nat.add_zero, Nat.reduceLeDiff, Nat.reduceSub, ↓reduceIte, List.drop_succ_cons, List.drop_zero, List.take_succ_cons, List.take_zero, Bool.false_eq_true, List.nil_append, List.cons_append, Bool.not_true, Bool.not_false, cond_true, cond_false, bne, Q85, Q86, Q87, Q88, Q89, Q90, Q91, Q92, Q93, Q94, Q95, Q96, Q97, Q98, Q110, Q111, Q116, Q117, Q118, Q119, Q120, Q121, Q122, Q123, Option.map_some, Option.map_none, Q34]
theorem addS {x y z : List UInt8} (hl : x.length + y.length ≤ 1000000000) (e : x ++ y = z) : Q78 .add (.v (.string ⟨x.toArray⟩)) (.v (.string ⟨y.toArray⟩)) = some (.v (.string ⟨z.toArray⟩)) := by
  rw [← e]; exact add_str hl
theorem rwrite_loop {r : AV} {L : List Nat} (hr : Sl 1 r (L.map rv)) (hm : L.length ≤ 300) (v : List AV) (o : List UInt8) (ho : o.length ≤ 100) (hv : clr K74 v = V74 ⟨o.toArray⟩ r L.length 0 .junk) (K : Nat) (hK : L.length < K) (h : List AO) :
    loopN (exec (callW F) K c74_19) K74 K v h = some (.exit 0, V74 ⟨(o ++ L.flatMap escL).toArray⟩ r L.length L.length (.v (.bool false)), h) := by
  obtain ⟨e, v', h', g1, g2, g3⟩ := loop_rule0 (call := callW F) (K := K) (b := c74_19) (keep := K74)
    (fun i v h' => ∃ p : List UInt8, v = V74 ⟨p.toArray⟩ r L.length i .junk ∧ h' = h ∧ p.length ≤ 100 + 5 * i ∧ p ++ (L.drop i).flatMap escL = o ++ L.flatMap escL)
    (fun e v h' => e = .exit 0 ∧ h' = h ∧ v = V74 ⟨(o ++ L.flatMap escL).toArray⟩ r L.length L.length (.v (.bool false)))
    L.length (m := K) (v := v) (h := h) hK ⟨o, hv, rfl, by omega, rfl⟩ (by
      rintro i v h' hi ⟨p, rfl, rfl, hpl, hR⟩
      by_cases hil : i < L.length
      · have hlt := lt_t hil
        have he : (L.map rv)[i]? = some (rv L[i]) := by simp [hil]
        have hd : L.drop i = L[i] :: L.drop (i + 1) := List.drop_eq_getElem_cons hil
        have hw := wrap_succ hil (small_max (by omega : L.length ≤ 100000))
        rw [hd, List.flatMap_cons] at hR
        clear hd
        generalize L[i] = d at he hR
        have hel := escL_len d
        have hnl := encL_len d
        have hxl := hexL_len d
        have hE : escL d = escH ((d : Int) == 39 || (d : Int) == 92) ((d : Int) == 10) ((d : Int) == 9) (decide ((d : Int) < 32)) (encL d) (hexL d) := by unfold escL; exact Eq.refl _
        have hrs : rsV h' (.v (.int .i32 (d : Int))) = some (.v (.string ⟨(encL d).toArray⟩), h') := rsV_nat
        have hx : decide ((d : Int) < 32) = true → callW F 85 [.v (.int .i32 (d : Int))] [] = some (.v (.string ⟨(hexL d).toArray⟩), []) := fun q => rhex_ok (by simp at q; omega)
        have q2 := fun h : List AO => hr.ia he h
        simp only [rv, AV.cells] at q2
        generalize escL d = Z at hE hel hR
        generalize encL d = E at hE hnl hrs
        generalize hexL d = H at hE hxl hx
        generalize (d : Int) = c at hE hrs hx q2
        have w1 := addS (x := [92]) (y := E) (z := [92] ++ E) (by simp only [List.length_cons, List.length_nil, List.length_append]; omega) rfl
        have w2 := addS (x := p) (y := [92] ++ E) (z := p ++ ([92] ++ E)) (by simp only [List.length_cons, List.length_nil, List.length_append]; omega) rfl
        have w3 := addS (x := p) (y := [92, 110]) (z := p ++ [92, 110]) (by simp only [List.length_cons, List.length_nil, List.length_append]; omega) rfl
        have w4 := addS (x := p) (y := [92, 116]) (z := p ++ [92, 116]) (by simp only [List.length_cons, List.length_nil, List.length_append]; omega) rfl
        have w5 := addS (x := [92, 120]) (y := H) (z := [92, 120] ++ H) (by simp only [List.length_cons, List.length_nil, List.length_append]; omega) rfl
        have w6 := addS (x := [92, 120] ++ H) (y := [92]) (z := ([92, 120] ++ H) ++ [92]) (by simp only [List.length_cons, List.length_nil, List.length_append]; omega) rfl
        have w7 := addS (x := p) (y := ([92, 120] ++ H) ++ [92]) (z := p ++ (([92, 120] ++ H) ++ [92])) (by simp only [List.length_cons, List.length_nil, List.length_append]; omega) rfl
        have w8 := addS (x := p) (y := E) (z := p ++ E) (by omega) rfl
        have z1 : (c == 39 || c == 92) = true → Z = [92] ++ E := fun a => by rw [hE, a]; rfl
        have z2 : (c == 39 || c == 92) = false → (c == 10) = true → Z = [92, 110] := fun a b => by rw [hE, a, b]; rfl
        have z3 : (c == 39 || c == 92) = false → (c == 10) = false → (c == 9) = true → Z = [92, 116] := fun a b d => by rw [hE, a, b, d]; rfl
        have z4 : (c == 39 || c == 92) = false → (c == 10) = false → (c == 9) = false → decide (c < 32) = true → Z = ([92, 120] ++ H) ++ [92] := fun a b d f => by rw [hE, a, b, d, f]; rfl
        have z5 : (c == 39 || c == 92) = false → (c == 10) = false → (c == 9) = false → decide (c < 32) = false → Z = E := fun a b d f => by rw [hE, a, b, d, f]; rfl
        obtain ⟨x9, x10, x11, x12, x13, hs⟩ := step74 (call := callW F) (r := r) (P := ⟨p.toArray⟩) (R := ⟨(p ++ Z).toArray⟩) (n := L.length) (K := K) (h := h') (X10 := .region [] [] c74_10) (X12 := .region [] [] c74_12) (X14 := .region [] [] c74_14) (X16 := .region [] [] c74_16) (X17 := .region [] [] c74_17) hlt hw q2
          (fun a _ _ _ _ _ _ _ _ _ _ _ _ => by rw [z1 a]; exact r10 hrs w1 w2)
          (fun a b _ _ _ _ _ _ _ _ _ _ _ _ => by rw [z2 a b]; exact r12 w3)
          (fun a b d _ _ _ _ _ _ _ _ _ _ _ _ => by rw [z3 a b d]; exact r14 w4)
          (fun a b d f _ _ _ _ _ _ _ _ _ _ _ _ => by rw [z4 a b d f]; exact r16 (hx f) w5 w6 w7)
          (fun a b d f _ _ _ _ _ _ _ _ _ _ _ _ => by rw [z5 a b d f]; exact r17 hrs w8)
        rw [← code_eq] at hs
        exact ⟨_, _, _, hs, hil, p ++ Z, rfl, rfl, by rw [List.length_append]; omega, by rw [List.append_assoc]; exact hR⟩
      · have hie : i = L.length := by omega
        subst hie
        have hlt := lt_f (n := L.length)
        rw [List.drop_of_length_le (Nat.le_refl _), List.flatMap_nil, List.append_nil] at hR
        subst hR
        refine ⟨.exit 0, V74 ⟨(o ++ L.flatMap escL).toArray⟩ r L.length L.length (.v (.bool false)), h', ?_, rfl, rfl, rfl⟩
        rw [code_eq]; exact exit74)
  obtain ⟨rfl, rfl, rfl⟩ := g3
  exact g1
theorem g20 {call : CallF} {K : Nat} {h : List AO} {P R Y : ByteArray} {v0 v1 v3 v4 v5 v6 v7 v8 v9 v10 v11 v12 v13 : AV} (a2 : Q78 .add (.v (.string P)) (.v (.string Y)) = some (.v (.string R))) : exec call K (.region [] [] [⟨(.mov (.var 2)), none, none⟩, ⟨(.bin .add (.loc 0) (.k (.string Y))), none, none⟩, ⟨(.mov (.loc 0)), (some 1), none⟩]) [v0, v1, .v (.string P), v3, v4, v5, v6, v7, v8, v9, v10, v11, v12, v13] h = some (.normal, [v0, .v (.string R), .v (.string P), v3, v4, v5, v6, v7, v8, v9, v10, v11, v12, v13], h) := by
  simp only [a2, Q0, Q1, Q2, Q3, Q4, Q5, Q6, Q7, Q8, Q9, Q10, Q11, Q12, Q13, Q14, Q15, Q16, Q17, Q18, Q19, Q20, Q21, Q22, Q23, Q24, Q25, Q26, Q27, Q28, Q29, Q30, Q31, Q32, Q33, Q35, Q36, Q37, Q38, Q39, Q40, Q41, Q42, Q43, Q44, Q45, Q46, Q47, Q48, Q49, Q50, Q51, Q52, Q53, Q54, Q55, Q56, Q57, Q58, Q59, Q60, Q61, Q62, Q63, Q64, Q65, Q66, Q67, Q68, Q69, Q70, Q71, Q72, Q73, Q99, Q100, Q101, Q102, Q103, Q74, Q75, Q77, Q78, Q79, Q80, Q81, Q82, Q83, Q84, clr, List.length_nil, List.length_cons, List.getElem?_cons_zero, List.getElem?_cons_succ, Nat.reduceAdd, Nat.zero_add, Nat.add_zero, Nat.reduceLeDiff, Nat.reduceSub, ↓reduceIte, List.drop_succ_cons, List.drop_zero, List.take_succ_cons, List.take_zero, Bool.false_eq_true, List.nil_append, List.cons_append, Bool.not_true, Bool.not_false, cond_true, cond_false, bne, Q85, Q86, Q87, Q88, Q89, Q90, Q91, Q92, Q93, Q94, Q95, Q96, Q97, Q98, Q110, Q111, Q116, Q117, Q118, Q119, Q120, Q121, Q122, Q123, Option.map_some, Option.map_none, Q34, -Q78]
theorem rw_false {call : CallF} {K n : Nat} {s S T W : ByteArray} {r : AV} {X5 X20 bb : CC} (hk : call 62 [.v (.string s)] [] = some (.v (.bool true), [])) (hb : call 83 [.v (.string s)] [] = some (.v (.bool false), [])) (cr : call 84 [.v (.string s)] [] = some (r, [])) (l0 : ∀ h : List AO, evLen h .slice r = some n)
    (hX5 : ∀ v0 v1 v2 v3 v4 v5 v6 v7 v8 v9 v10 v11 v12 v13 : AV, exec call K X5 [v0, v1, v2, v3, v4, v5, v6, v7, v8, v9, v10, v11, v12, v13] [] = some (.normal, [v0, v1, .v (.string T), v3, v4, v5, v6, v7, v8, v9, v10, v11, v12, v13], []))
    (lp : loopN (exec call K bb) K74 K [.v (.string s), .v (.string ⟨#[]⟩), .v (.string T), .v undef, .v (.bool false), .v (.bool false), r, .v (.int .i64 n), .v (.int .i64 0), .v undef, .v undef, .v undef, .v undef, .v undef] [] = some (.exit 0, V74 S r n n (.v (.bool false)), []))
    (hX0 : ∀ v0 v1 v3 v4 v5 v6 v7 v8 v9 v10 v11 v12 v13 : AV, exec call K X20 [v0, v1, .v (.string S), v3, v4, v5, v6, v7, v8, v9, v10, v11, v12, v13] [] = some (.normal, [v0, .v (.string W), .v (.string S), v3, v4, v5, v6, v7, v8, v9, v10, v11, v12, v13], [])) :
    lv [.var 1] (exec call K (.seq (.region [] [] c74_0) (.seq (.seq (.region [] [] c74_1) (.cond (.var 4) (.seq (.region [] [] c74_2) .ret) .skip)) (.seq (.seq (.region [] [] c74_3) (.cond (.var 5) (.seq (.region [] [] c74_4) .ret) .skip)) (.seq X5 (.seq (.seq (.region [] [] c74_6) (.block 0 (.loop K74 [] bb))) (.seq X20 .ret)))))) [.v (.string s), .v undef, .v undef, .v undef, .v undef, .v undef, .v undef, .v undef, .v undef, .v undef, .v undef, .v undef, .v undef, .v undef] []) = some (.v (.string W), []) := by
  simp only [V74, c74_0, c74_1, c74_3, c74_6, hk, hb, cr, l0, hX5, lp, hX0, snap_str, Bool.not_true, Q0, Q1, Q2, Q3, Q4, Q5, Q6, Q7, Q8, Q9, Q10, Q11, Q12, Q13, Q14, Q15, Q16, Q17, Q18, Q19, Q20, Q21, Q22, Q23, Q24, Q25, Q26, Q27, Q28, Q29, Q30, Q31, Q32, Q33, Q35, Q36, Q37, Q38, Q39, Q40, Q41, Q42, Q43, Q44, Q45, Q46, Q47, Q48, Q49, Q50, Q51, Q52, Q53, Q54, Q55, Q56, Q57, Q58, Q59, Q60, Q61, Q62, Q63, Q64, Q65, Q66, Q67, Q68, Q69, Q70, Q71, Q72, Q73, Q99, Q100, Q101, Q102, Q103, Q74, Q75, Q77, Q78, Q79, Q80, Q81, Q82, Q83, Q84, clr, List.length_nil, List.length_cons, List.getElem?_cons_zero, List.getElem?_cons_succ, Nat.reduceAdd, Nat.zero_add, Nat.add_zero, Nat.reduceLeDiff, Nat.reduceSub, ↓reduceIte, List.drop_succ_cons, List.drop_zero, List.take_succ_cons, List.take_zero, Bool.false_eq_true, List.nil_append, List.cons_append, Bool.not_true, Bool.not_false, cond_true, cond_false, bne, Q85, Q86, Q87, Q88, Q89, Q90, Q91, Q92, Q93, Q94, Q95, Q96, Q97, Q98, Q110, Q111, Q116, Q117, Q118, Q119, Q120, Q121, Q122, Q123, Option.map_some, Option.map_none]
theorem rwrite_ok {s : ByteArray} (hchk : chkS s = true) : callW F 74 [.v (.string s)] [] = some (.v (.string ⟨(writeL s).toArray⟩), []) := by
  have hk := rchk_ok s
  rw [hchk] at hk
  have hb := rbareS_ok hchk
  have h255 : s.size ≤ 255 := by
    simp only [chkS, Bool.and_eq_true, decide_eq_true_eq] at hchk
    omega
  obtain ⟨r, hr, cr⟩ := runes_ok (s := s) (by omega)
  have hlen := rns_len s s.size 0
  rw [show rns s s.size 0 = runesOf s from rfl] at hlen
  have hfl : ∀ L : List Nat, (L.flatMap escL).length ≤ 5 * L.length := by
    intro L
    induction L with
    | nil => simp
    | cons c L ih =>
      have := escL_len c
      rw [List.flatMap_cons, List.length_append, List.length_cons]; omega
  have hfl := hfl (runesOf s)
  have lp := rwrite_loop hr (by omega) [.v (.string s), .v (.string ⟨#[]⟩), .v (.string ⟨[39].toArray⟩), .v undef, .v (.bool false), .v (.bool false), r, .v (.int .i64 (runesOf s).length), .v (.int .i64 0), .v undef, .v undef, .v undef, .v undef, .v undef] [39] (by decide) rfl ((runesOf s).length + 1) (by omega) []
  have l0 := fun h : List AO => hr.len h
  rw [List.length_map] at l0
  have w := addS (x := [39] ++ (runesOf s).flatMap escL) (y := [39]) (z := 39 :: ((runesOf s).flatMap escL ++ [39])) (by simp only [List.length_cons, List.length_nil, List.length_append]; omega) rfl
  have hX0 : ∀ v0 v1 v3 v4 v5 v6 v7 v8 v9 v10 v11 v12 v13 : AV, exec (callW F) ((runesOf s).length + 1) (.region [] [] c74_20) [v0, v1, .v (.string ⟨([39] ++ (runesOf s).flatMap escL).toArray⟩), v3, v4, v5, v6, v7, v8, v9, v10, v11, v12, v13] [] = some (.normal, [v0, .v (.string ⟨(39 :: ((runesOf s).flatMap escL ++ [39])).toArray⟩), .v (.string ⟨([39] ++ (runesOf s).flatMap escL).toArray⟩), v3, v4, v5, v6, v7, v8, v9, v10, v11, v12, v13], []) := fun _ _ _ _ _ _ _ _ _ _ _ _ _ => g20 w
  refine callW_pure (c := c74) rfl rfl ((runesOf s).length + 1) ?_
  rw [show c74.body = (.seq (.region [] [] c74_0) (.seq (.seq (.region [] [] c74_1) (.cond (.var 4) (.seq (.region [] [] c74_2) .ret) .skip)) (.seq (.seq (.region [] [] c74_3) (.cond (.var 5) (.seq (.region [] [] c74_4) .ret) .skip)) (.seq (.region [] [] c74_5) (.seq (.seq (.region [] [] c74_6) (.block 0 (.loop K74 [] c74_19))) (.seq (.region [] [] c74_20) .ret)))))) from rfl, show c74.res = [.var 1] from rfl]
  rw [show start c74 [.v (.string s)] = [.v (.string s), .v undef, .v undef, .v undef, .v undef, .v undef, .v undef, .v undef, .v undef, .v undef, .v undef, .v undef, .v undef, .v undef] from rfl]
  have hs : ⟨(bl s).toArray⟩ = s := (bl_eta s).symm
  unfold writeL
  clear w hfl hlen
  have hX5 : ∀ v0 v1 v2 v3 v4 v5 v6 v7 v8 v9 v10 v11 v12 v13 : AV, exec (callW F) ((runesOf s).length + 1) (.region [] [] c74_5) [v0, v1, v2, v3, v4, v5, v6, v7, v8, v9, v10, v11, v12, v13] [] = some (.normal, [v0, v1, .v (.string ⟨[39].toArray⟩), v3, v4, v5, v6, v7, v8, v9, v10, v11, v12, v13], []) := by
    intro v0 v1 v2 v3 v4 v5 v6 v7 v8 v9 v10 v11 v12 v13
    simp only [c74_5, Q0, Q1, Q2, Q3, Q4, Q5, Q6, Q7, Q8, Q9, Q10, Q11, Q12, Q13, Q14, Q15, Q16, Q17, Q18, Q19, Q20, Q21, Q22, Q23, Q24, Q25, Q26, Q27, Q28, Q29, Q30, Q31, Q32, Q33, Q35, Q36, Q37, Q38, Q39, Q40, Q41, Q42, Q43, Q44, Q45, Q46, Q47, Q48, Q49, Q50, Q51, Q52, Q53, Q54, Q55, Q56, Q57, Q58, Q59, Q60, Q61, Q62, Q63, Q64, Q65, Q66, Q67, Q68, Q69, Q70, Q71, Q72, Q73, Q99, Q100, Q101, Q102, Q103, Q74, Q75, Q77, Q78, Q79, Q80, Q81, Q82, Q83, Q84, clr, List.length_nil, List.length_cons, List.getElem?_cons_zero, List.getElem?_cons_succ, Nat.reduceAdd, Nat.zero_add, Nat.add_zero, Nat.reduceLeDiff, Nat.reduceSub, ↓reduceIte, List.drop_succ_cons, List.drop_zero, List.take_succ_cons, List.take_zero, Bool.false_eq_true, List.nil_append, List.cons_append, Bool.not_true, Bool.not_false, cond_true, cond_false, bne, Q85, Q86, Q87, Q88, Q89, Q90, Q91, Q92, Q93, Q94, Q95, Q96, Q97, Q98, Q110, Q111, Q116, Q117, Q118, Q119, Q120, Q121, Q122, Q123, Option.map_some, Option.map_none]
  generalize (CC.region [] [] c74_20) = X20 at hX0 ⊢
  generalize (CC.region [] [] c74_5) = X5 at hX5 ⊢
  generalize c74_19 = bb at lp ⊢
  generalize (⟨([39] ++ (runesOf s).flatMap escL).toArray⟩ : ByteArray) = S at hX0 lp
  generalize (⟨[39].toArray⟩ : ByteArray) = T at hX5 lp
  cases q : bareS s with
  | true =>
    rw [q] at hb
    rw [if_pos rfl, hs]
    simp only [c74_0, c74_1, c74_3, c74_4, hk, hb, snap_str, Bool.not_true, Q0, Q1, Q2, Q3, Q4, Q5, Q6, Q7, Q8, Q9, Q10, Q11, Q12, Q13, Q14, Q15, Q16, Q17, Q18, Q19, Q20, Q21, Q22, Q23, Q24, Q25, Q26, Q27, Q28, Q29, Q30, Q31, Q32, Q33, Q35, Q36, Q37, Q38, Q39, Q40, Q41, Q42, Q43, Q44, Q45, Q46, Q47, Q48, Q49, Q50, Q51, Q52, Q53, Q54, Q55, Q56, Q57, Q58, Q59, Q60, Q61, Q62, Q63, Q64, Q65, Q66, Q67, Q68, Q69, Q70, Q71, Q72, Q73, Q99, Q100, Q101, Q102, Q103, Q74, Q75, Q77, Q78, Q79, Q80, Q81, Q82, Q83, Q84, clr, List.length_nil, List.length_cons, List.getElem?_cons_zero, List.getElem?_cons_succ, Nat.reduceAdd, Nat.zero_add, Nat.add_zero, Nat.reduceLeDiff, Nat.reduceSub, ↓reduceIte, List.drop_succ_cons, List.drop_zero, List.take_succ_cons, List.take_zero, Bool.false_eq_true, List.nil_append, List.cons_append, Bool.not_true, Bool.not_false, cond_true, cond_false, bne, Q85, Q86, Q87, Q88, Q89, Q90, Q91, Q92, Q93, Q94, Q95, Q96, Q97, Q98, Q110, Q111, Q116, Q117, Q118, Q119, Q120, Q121, Q122, Q123, Option.map_some, Option.map_none]
  | false =>
    rw [q] at hb
    rw [if_neg (by simp)]
    generalize (⟨(39 :: ((runesOf s).flatMap escL ++ [39])).toArray⟩ : ByteArray) = W at hX0 ⊢
    exact rw_false hk hb cr l0 hX5 lp hX0
end Go.AE.YtgcbaefclkfnoaaDoor
end
