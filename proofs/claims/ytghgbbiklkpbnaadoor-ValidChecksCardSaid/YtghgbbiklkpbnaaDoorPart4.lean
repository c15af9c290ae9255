/- Texts of this claim, put together. -/
import Derived.Test.YtghgbbiklkpbnaaDoorPart3
import Derived.Test.YtghgbbiklkpbnaaDoorPart1
import Derived.Test.YtghgbbiklkpbnaaDoorPart2
import Derived.Test.YtghgbbiklkpbnaaDoorEval3
import Derived.Test.YtghgbbiklkpbnaaDoorRows
import Derived.WalkKit
import Derived.ProofKit
import Derived.OpenShut
import Derived.ShutString
import Derived.ChangeOld
import Derived.Below
import Derived.SizedLaws
import Derived.Test.YtghgbbiklkpbnaaDoorTie
import Derived.Test.YtghgbbiklkpbnaaDoorCards
import Derived.Lib.LaidIn
import Derived.Lib.LaidU8T
import Derived.KernelRfl
import Derived.Handed
import Derived.SevenTiedAt
set_option linter.unusedSimpArgs false
set_option linter.unusedVariables false
section
namespace Go.AE.YtghgbbiklkpbnaaDoor.Chk
open Go Go.AE Go.Proofs.YtghgbbiklkpbnaaDoor

def chkR (c : Co) : Int × Int := checkR c.nm c.ar c.vs c.l
theorem rcheck_ok {a : AV} {c : Co} (ha : IsCo a c) (hl2 : c.l.length ≤ 2000) : callW F 8 [a] [] = some (.tup [.v (.int .i64 (chkR c).1), .v (.int .i64 (chkR c).2)], []) := by
 cases ha with
 | mk nm ar vs c3 l hl =>
 obtain ⟨es, hs, hes, hm⟩ := hl
 have hel := hes.length
 have cl := (show (AV.agg [.v (.string nm), .v (.int .i64 ar), .v (.int .i64 vs), c3]).cl = some [.v (.string nm), .v (.int .i64 ar), .v (.int .i64 vs), c3] by cases hs <;> rfl)
 have hch := char17_ok nm
 have sx : ∀ h : List AO, (AV.v (.string nm)).snap1 h = some (.v (.string nm)) := fun _ => rfl
 have l0 : ∀ h, Q76 (.box 24 [.v (.string nm), .v (.int .i64 ar), .v (.int .i64 vs), c3] :: h) false 1 (.ptr 0 0) = some (.v (.string nm)) := fun _ => rfl
 have l1 : ∀ h, Q76 (.box 24 [.v (.string nm), .v (.int .i64 ar), .v (.int .i64 vs), c3] :: h) false 1 (.ptr 0 1) = some (.v (.int .i64 ar)) := fun _ => rfl
 have l2 : ∀ h, Q76 (.box 24 [.v (.string nm), .v (.int .i64 ar), .v (.int .i64 vs), c3] :: h) false 1 (.ptr 0 2) = some (.v (.int .i64 vs)) := fun _ => rfl
 have l3 : ∀ h, Q76 (.box 24 [.v (.string nm), .v (.int .i64 ar), .v (.int .i64 vs), c3] :: h) false 1 (.ptr 0 3) = some c3 := fun _ => rfl
 have la : ∀ h, Q76 (.box 24 [.v (.string nm), .v (.int .i64 ar), .v (.int .i64 vs), c3] :: h) true 4 (.ptr 0 0) = some (.agg [.v (.string nm), .v (.int .i64 ar), .v (.int .i64 vs), c3]) := fun _ => rfl
 have hres : c8.res = [.var 2, .var 3] := rfl
 have st9 : start c8 [.agg [.v (.string nm), .v (.int .i64 ar), .v (.int .i64 vs), c3]] = [.agg [.v (.string nm), .v (.int .i64 ar), .v (.int .i64 vs), c3], .v undef, .v undef, .v undef, .v undef, .v undef, .v undef, .v undef, .v undef, .v undef, .v undef, .v undef, .v undef, .v undef, .v undef, .v undef, .v undef, .v undef, .v undef] := rfl
 cases hok : okT nm ar vs with
 | false =>
  have e : chkR ⟨nm, ar, vs, l⟩ = (0, 150) := by simp only [chkR, checkR, hok]; rfl
  rw [e]
  refine callW_pure (c := c8) rfl rfl 0 ?_
  rw [st9]
  simp only [okT, Bool.not_eq_false'] at hok
  generalize charT nm = ch at hch hok
  cases b1 : decide (ar < 0) with
  | true => simp only [c8, c8_0, c8_1, c8_2, cl, l0, l1, l2, b1, Q122, Q0, Q1, Q2, Q3, Q4, Q5, Q6, Q7, Q8, Q9, Q10, Q11, Q12, Q13, Q14, Q15, Q16, Q17, Q18, Q19, Q20, Q21, Q22, Q23, Q24, Q25, Q26, Q27, Q28, Q29, Q30, Q31, Q32, Q33, Q35, Q36, Q37, Q38, Q39, Q40, Q41, Q42, Q43, Q44, Q45, Q46, Q47, Q48, Q49, Q50, Q51, Q52, Q53, Q54, Q55, Q56, Q57, Q58, Q59, Q60, Q61, Q62, Q63, Q64, Q65, Q66, Q67, Q68, Q69, Q70, Q71, Q72, Q73, Q99, Q100, Q101, Q102, Q103, Q74, Q75, Q77, Q78, Q79, Q80, Q81, Q82, Q83, Q84, clr, List.length_nil, List.length_cons, List.getElem?_cons_zero, List.getElem?_cons_succ, Nat.reduceAdd, Nat.zero_add, Nat.add_zero, Nat.reduceLeDiff, Nat.reduceSub, ↓reduceIte, List.drop_succ_cons, List.drop_zero, List.take_succ_cons, List.take_zero, Bool.false_eq_true, List.nil_append, List.cons_append, Bool.not_true, Bool.not_false, cond_true, cond_false, bne, Q85, Q86, Q87, Q88, Q89, Q90, Q91, Q92, Q93, Q94, Q95, Q96, Q97, Q98, Q110, Q111, Q116, Q117, Q118, Q119, Q120, Q121, Q122, Q123, Option.map_some, Option.map_none, Q34]; rfl
  | false =>
   cases b2 : decide (ar > 16) with
   | true => simp only [c8, c8_0, c8_1, c8_2, cl, l0, l1, l2, b1, b2, Q122, Q0, Q1, Q2, Q3, Q4, Q5, Q6, Q7, Q8, Q9, Q10, Q11, Q12, Q13, Q14, Q15, Q16, Q17, Q18, Q19, Q20, Q21, Q22, Q23, Q24, Q25, Q26, Q27, Q28, Q29, Q30, Q31, Q32, Q33, Q35, Q36, Q37, Q38, Q39, Q40, Q41, Q42, Q43, Q44, Q45, Q46, Q47, Q48, Q49, Q50, Q51, Q52, Q53, Q54, Q55, Q56, Q57, Q58, Q59, Q60, Q61, Q62, Q63, Q64, Q65, Q66, Q67, Q68, Q69, Q70, Q71, Q72, Q73, Q99, Q100, Q101, Q102, Q103, Q74, Q75, Q77, Q78, Q79, Q80, Q81, Q82, Q83, Q84, clr, List.length_nil, List.length_cons, List.getElem?_cons_zero, List.getElem?_cons_succ, Nat.reduceAdd, Nat.zero_add, Nat.add_zero, Nat.reduceLeDiff, Nat.reduceSub, ↓reduceIte, List.drop_succ_cons, List.drop_zero, List.take_succ_cons, List.take_zero, Bool.false_eq_true, List.nil_append, List.cons_append, Bool.not_true, Bool.not_false, cond_true, cond_false, bne, Q85, Q86, Q87, Q88, Q89, Q90, Q91, Q92, Q93, Q94, Q95, Q96, Q97, Q98, Q110, Q111, Q116, Q117, Q118, Q119, Q120, Q121, Q122, Q123, Option.map_some, Option.map_none, Q34]; rfl
   | false =>
    cases b3 : decide (vs < 0) with
    | true => simp only [c8, c8_0, c8_1, c8_2, cl, l0, l1, l2, b1, b2, b3, Q122, Q0, Q1, Q2, Q3, Q4, Q5, Q6, Q7, Q8, Q9, Q10, Q11, Q12, Q13, Q14, Q15, Q16, Q17, Q18, Q19, Q20, Q21, Q22, Q23, Q24, Q25, Q26, Q27, Q28, Q29, Q30, Q31, Q32, Q33, Q35, Q36, Q37, Q38, Q39, Q40, Q41, Q42, Q43, Q44, Q45, Q46, Q47, Q48, Q49, Q50, Q51, Q52, Q53, Q54, Q55, Q56, Q57, Q58, Q59, Q60, Q61, Q62, Q63, Q64, Q65, Q66, Q67, Q68, Q69, Q70, Q71, Q72, Q73, Q99, Q100, Q101, Q102, Q103, Q74, Q75, Q77, Q78, Q79, Q80, Q81, Q82, Q83, Q84, clr, List.length_nil, List.length_cons, List.getElem?_cons_zero, List.getElem?_cons_succ, Nat.reduceAdd, Nat.zero_add, Nat.add_zero, Nat.reduceLeDiff, Nat.reduceSub, ↓reduceIte, List.drop_succ_cons, List.drop_zero, List.take_succ_cons, List.take_zero, Bool.false_eq_true, List.nil_append, List.cons_append, Bool.not_true, Bool.not_false, cond_true, cond_false, bne, Q85, Q86, Q87, Q88, Q89, Q90, Q91, Q92, Q93, Q94, Q95, Q96, Q97, Q98, Q110, Q111, Q116, Q117, Q118, Q119, Q120, Q121, Q122, Q123, Option.map_some, Option.map_none, Q34]; rfl
    | false =>
     rw [b1, b2, b3] at hok
     simp only [Bool.false_or, Bool.not_eq_true'] at hok
     subst hok
     simp only [c8, c8_0, c8_1, c8_2, cl, l0, l1, l2, b1, b2, b3, hch, sx, Q122, Q0, Q1, Q2, Q3, Q4, Q5, Q6, Q7, Q8, Q9, Q10, Q11, Q12, Q13, Q14, Q15, Q16, Q17, Q18, Q19, Q20, Q21, Q22, Q23, Q24, Q25, Q26, Q27, Q28, Q29, Q30, Q31, Q32, Q33, Q35, Q36, Q37, Q38, Q39, Q40, Q41, Q42, Q43, Q44, Q45, Q46, Q47, Q48, Q49, Q50, Q51, Q52, Q53, Q54, Q55, Q56, Q57, Q58, Q59, Q60, Q61, Q62, Q63, Q64, Q65, Q66, Q67, Q68, Q69, Q70, Q71, Q72, Q73, Q99, Q100, Q101, Q102, Q103, Q74, Q75, Q77, Q78, Q79, Q80, Q81, Q82, Q83, Q84, clr, List.length_nil, List.length_cons, List.getElem?_cons_zero, List.getElem?_cons_succ, Nat.reduceAdd, Nat.zero_add, Nat.add_zero, Nat.reduceLeDiff, Nat.reduceSub, ↓reduceIte, List.drop_succ_cons, List.drop_zero, List.take_succ_cons, List.take_zero, Bool.false_eq_true, List.nil_append, List.cons_append, Bool.not_true, Bool.not_false, cond_true, cond_false, bne, Q85, Q86, Q87, Q88, Q89, Q90, Q91, Q92, Q93, Q94, Q95, Q96, Q97, Q98, Q110, Q111, Q116, Q117, Q118, Q119, Q120, Q121, Q122, Q123, Option.map_some, Option.map_none, Q34]; rfl
 | true =>
  have e : chkR ⟨nm, ar, vs, l⟩ = runR vs 0 (beginR ar) false l := by simp only [chkR, checkR, hok]; rfl
  rw [e]
  simp only [okT, Bool.not_eq_true', Bool.or_eq_false_iff] at hok
  obtain ⟨b1, b2, b3, b4⟩ := hok
  have b4 : charT nm = true := by simpa using b4
  rw [b4] at hch
  obtain ⟨n, rfl⟩ := Int.eq_ofNat_of_zero_le (show 0 ≤ ar by simp at b1; omega)
  have hn : n ≤ 16 := by simp at b2; omega
  let K := l.length + 100
  have b0 : (AV.v (.string nm)).below1 0 = true := rfl
  have b3' : c3.below1 0 = true := by cases hs <;> rfl
  have p0 : Sp (.v (.string nm)) n vs c3 [AO.box 24 [.v (.string nm), .v (.int .i64 n), .v (.int .i64 vs), c3], .box 54 [.v (.string nm), .v (.int .i64 n), .v (.int .i64 vs), c3, .v (.slice none 0 0), .v (.slice none 0 0), .v (.int .i64 0), .v (.bool false), .v (.bool true), .v (.int .i64 0)]] ⟨[], [], 0, false, true, 0⟩ :=
   ⟨⟨.v (.slice none 0 0), .v (.slice none 0 0), rfl, .nil, .nil, fun _ hi => by cases hi⟩, by cases hs <;> rfl, b0, b3'⟩
  obtain ⟨x5, h1, p1, bb1, g1⟩ := rregs_loop (K := K) hn (by omega) p0 [.agg [.v (.string nm), .v (.int .i64 n), .v (.int .i64 vs), c3], .ptr 0 0, .v (.int .i64 0), .v (.int .i64 0), .ptr 1 0, .v undef, .v undef, .v undef, .v undef, .v (.bool false), .v (.int .i64 n), .v (.int .i64 0), .v undef, .v undef, .v undef, .v undef, .v undef, .v undef, .v undef] rfl
  have eb : beginR (n : Int) = ⟨rUp n, [], 0, false, true, 0⟩ := by simp only [beginR, Int.toNat_natCast]
  obtain ⟨ex, v', h', g2, g3⟩ := rcheck_loop (K := K) hs hes hl2 (by omega) p1 (by simp only [rUp_len]; omega) rfl [.junk, .ptr 0 0, .junk, .junk, .ptr 1 0, x5, .v (.bool false), .junk, .junk, .junk, .v (.int .i64 n), .v (.int .i64 n), .v (.bool false), c3, .v (.int .i64 l.length), .v (.int .i64 0), .junk, .junk, .junk] rfl
  rw [← eb] at g3
  have nl := fun h : List AO => hs.len h
  rw [hel] at nl
  have c3ld : ∀ {H : List AO}, Bx [AO.box 24 [.v (.string nm), .v (.int .i64 n), .v (.int .i64 vs), c3], .box 54 [.v (.string nm), .v (.int .i64 n), .v (.int .i64 vs), c3, .v (.slice none 0 0), .v (.slice none 0 0), .v (.int .i64 0), .v (.bool false), .v (.bool true), .v (.int .i64 0)]] H → Q76 H false 1 (.ptr 0 3) = some c3 := fun b => by rw [bx_ld (b.2 0 _ _ (by omega) rfl)]; cases hs <;> rfl
  have hv3 := c3ld bb1
  have pre : ∀ rest : CC, exec (callW F) K (.seq (.region [] [] c8_0) (.seq (.seq (.region [] [] c8_1) (.cond (.var 9) (.seq (.region [] [] c8_2) .ret) .skip)) (.seq (.region [] [] c8_3) (.seq (.seq (.region [] [] c8_4) (.block 0 (.loop K8a [] c8_9))) rest)))) [.agg [.v (.string nm), .v (.int .i64 n), .v (.int .i64 vs), c3], .v undef, .v undef, .v undef, .v undef, .v undef, .v undef, .v undef, .v undef, .v undef, .v undef, .v undef, .v undef, .v undef, .v undef, .v undef, .v undef, .v undef, .v undef] [] =
    exec (callW F) K rest [.junk, .ptr 0 0, .junk, .junk, .ptr 1 0, x5, .junk, .junk, .junk, .junk, .v (.int .i64 n), .v (.int .i64 n), .v (.bool false), .junk, .junk, .junk, .junk, .junk, .junk] h1 := by
   intro rest
   simp only [V8a] at g1
   generalize c8_9 = bb at g1 ⊢
   have clA : (AV.agg [.v (.string nm), .v (.int .i64 n), .v (.int .i64 vs), c3, .v (.slice none 0 0), .v (.slice none 0 0), .v (.int .i64 0), .v (.bool false), .v (.bool true), .v (.int .i64 0)]).cl = some [.v (.string nm), .v (.int .i64 n), .v (.int .i64 vs), c3, .v (.slice none 0 0), .v (.slice none 0 0), .v (.int .i64 0), .v (.bool false), .v (.bool true), .v (.int .i64 0)] := by cases hs <;> rfl
   have clt : ∀ b, (AV.v (.bool b)).cl = some [.v (.bool b)] := fun _ => rfl
   simp only [c8_0, c8_1, c8_3, c8_4, cl, clA, clt, l0, l1, l2, la, b1, b2, b3, hch, sx, g1, Q106, Q107, Q108, Q109, bd1, toL, List.map_cons, List.map_nil, ofVal, Q112, List.set_cons_zero, List.set_cons_succ, and_self, Nat.le_refl, Q122, Q0, Q1, Q2, Q3, Q4, Q5, Q6, Q7, Q8, Q9, Q10, Q11, Q12, Q13, Q14, Q15, Q16, Q17, Q18, Q19, Q20, Q21, Q22, Q23, Q24, Q25, Q26, Q27, Q28, Q29, Q30, Q31, Q32, Q33, Q35, Q36, Q37, Q38, Q39, Q40, Q41, Q42, Q43, Q44, Q45, Q46, Q47, Q48, Q49, Q50, Q51, Q52, Q53, Q54, Q55, Q56, Q57, Q58, Q59, Q60, Q61, Q62, Q63, Q64, Q65, Q66, Q67, Q68, Q69, Q70, Q71, Q72, Q73, Q99, Q100, Q101, Q102, Q103, Q74, Q75, Q77, Q78, Q79, Q80, Q81, Q82, Q83, Q84, clr, List.length_nil, List.length_cons, List.getElem?_cons_zero, List.getElem?_cons_succ, Nat.reduceAdd, Nat.zero_add, Nat.add_zero, Nat.reduceLeDiff, Nat.reduceSub, ↓reduceIte, List.drop_succ_cons, List.drop_zero, List.take_succ_cons, List.take_zero, Bool.false_eq_true, List.nil_append, List.cons_append, Bool.not_true, Bool.not_false, cond_true, cond_false, bne, Q85, Q86, Q87, Q88, Q89, Q90, Q91, Q92, Q93, Q94, Q95, Q96, Q97, Q98, Q110, Q111, Q116, Q117, Q118, Q119, Q120, Q121, Q122, Q123, Option.map_some, Option.map_none, Q34]
  refine callW_pure (c := c8) rfl rfl K ?_
  rw [st9, hres, show c8.body = (.seq (.region [] [] c8_0) (.seq (.seq (.region [] [] c8_1) (.cond (.var 9) (.seq (.region [] [] c8_2) .ret) .skip)) (.seq (.region [] [] c8_3) (.seq (.seq (.region [] [] c8_4) (.block 0 (.loop K8a [] c8_9))) (.seq (.region [] [] c8_10) (.seq (.seq (.region [] [] c8_11) (.block 2 (.loop K8b [] c8_19))) (.seq (.seq (.region [] [] c8_20) (.cond (.var 18) (.seq (.region [] [] c8_21) .ret) .skip)) (.seq (.region [] [] c8_22) .ret)))))))) from rfl, pre]
  rcases g3 with ⟨rfl, e2, e3⟩ | ⟨rfl, bb2, ov, x16, rfl, hr⟩
  ·generalize c8_19 = bb at g2 ⊢
   simp only [c8_10, c8_11, hv3, nl, g2, Q0, Q1, Q2, Q3, Q4, Q5, Q6, Q7, Q8, Q9, Q10, Q11, Q12, Q13, Q14, Q15, Q16, Q17, Q18, Q19, Q20, Q21, Q22, Q23, Q24, Q25, Q26, Q27, Q28, Q29, Q30, Q31, Q32, Q33, Q35, Q36, Q37, Q38, Q39, Q40, Q41, Q42, Q43, Q44, Q45, Q46, Q47, Q48, Q49, Q50, Q51, Q52, Q53, Q54, Q55, Q56, Q57, Q58, Q59, Q60, Q61, Q62, Q63, Q64, Q65, Q66, Q67, Q68, Q69, Q70, Q71, Q72, Q73, Q99, Q100, Q101, Q102, Q103, Q74, Q75, Q77, Q78, Q79, Q80, Q81, Q82, Q83, Q84, clr, List.length_nil, List.length_cons, List.getElem?_cons_zero, List.getElem?_cons_succ, Nat.reduceAdd, Nat.zero_add, Nat.add_zero, Nat.reduceLeDiff, Nat.reduceSub, ↓reduceIte, List.drop_succ_cons, List.drop_zero, List.take_succ_cons, List.take_zero, Bool.false_eq_true, List.nil_append, List.cons_append, Bool.not_true, Bool.not_false, cond_true, cond_false, bne, Q85, Q86, Q87, Q88, Q89, Q90, Q91, Q92, Q93, Q94, Q95, Q96, Q97, Q98, Q110, Q111, Q116, Q117, Q118, Q119, Q120, Q121, Q122, Q123, Option.map_some, Option.map_none]
   exact lv2_two e2 e3
  ·have hv3' := c3ld (bb1.trans bb2)
   rw [hr]
   generalize c8_19 = bb at g2 ⊢
   cases hov : ov with
   | true =>
    rw [hov] at g2
    simp only [c8_10, c8_11, c8_20, c8_22, hv3, nl, g2, Q0, Q1, Q2, Q3, Q4, Q5, Q6, Q7, Q8, Q9, Q10, Q11, Q12, Q13, Q14, Q15, Q16, Q17, Q18, Q19, Q20, Q21, Q22, Q23, Q24, Q25, Q26, Q27, Q28, Q29, Q30, Q31, Q32, Q33, Q35, Q36, Q37, Q38, Q39, Q40, Q41, Q42, Q43, Q44, Q45, Q46, Q47, Q48, Q49, Q50, Q51, Q52, Q53, Q54, Q55, Q56, Q57, Q58, Q59, Q60, Q61, Q62, Q63, Q64, Q65, Q66, Q67, Q68, Q69, Q70, Q71, Q72, Q73, Q99, Q100, Q101, Q102, Q103, Q74, Q75, Q77, Q78, Q79, Q80, Q81, Q82, Q83, Q84, clr, List.length_nil, List.length_cons, List.getElem?_cons_zero, List.getElem?_cons_succ, Nat.reduceAdd, Nat.zero_add, Nat.add_zero, Nat.reduceLeDiff, Nat.reduceSub, ↓reduceIte, List.drop_succ_cons, List.drop_zero, List.take_succ_cons, List.take_zero, Bool.false_eq_true, List.nil_append, List.cons_append, Bool.not_true, Bool.not_false, cond_true, cond_false, bne, Q85, Q86, Q87, Q88, Q89, Q90, Q91, Q92, Q93, Q94, Q95, Q96, Q97, Q98, Q110, Q111, Q116, Q117, Q118, Q119, Q120, Q121, Q122, Q123, Option.map_some, Option.map_none]
    rfl
   | false =>
    rw [hov] at g2
    simp only [c8_10, c8_11, c8_20, c8_21, hv3, hv3', nl, g2, Q0, Q1, Q2, Q3, Q4, Q5, Q6, Q7, Q8, Q9, Q10, Q11, Q12, Q13, Q14, Q15, Q16, Q17, Q18, Q19, Q20, Q21, Q22, Q23, Q24, Q25, Q26, Q27, Q28, Q29, Q30, Q31, Q32, Q33, Q35, Q36, Q37, Q38, Q39, Q40, Q41, Q42, Q43, Q44, Q45, Q46, Q47, Q48, Q49, Q50, Q51, Q52, Q53, Q54, Q55, Q56, Q57, Q58, Q59, Q60, Q61, Q62, Q63, Q64, Q65, Q66, Q67, Q68, Q69, Q70, Q71, Q72, Q73, Q99, Q100, Q101, Q102, Q103, Q74, Q75, Q77, Q78, Q79, Q80, Q81, Q82, Q83, Q84, clr, List.length_nil, List.length_cons, List.getElem?_cons_zero, List.getElem?_cons_succ, Nat.reduceAdd, Nat.zero_add, Nat.add_zero, Nat.reduceLeDiff, Nat.reduceSub, ↓reduceIte, List.drop_succ_cons, List.drop_zero, List.take_succ_cons, List.take_zero, Bool.false_eq_true, List.nil_append, List.cons_append, Bool.not_true, Bool.not_false, cond_true, cond_false, bne, Q85, Q86, Q87, Q88, Q89, Q90, Q91, Q92, Q93, Q94, Q95, Q96, Q97, Q98, Q110, Q111, Q116, Q117, Q118, Q119, Q120, Q121, Q122, Q123, Option.map_some, Option.map_none]
    rfl
end Go.AE.YtghgbbiklkpbnaaDoor.Chk
end

section
namespace Go.AE.YtghgbbiklkpbnaaDoor
open Go Go.AE Go.Proofs.YtghgbbiklkpbnaaDoor

theorem run_eq (vs : Int) : ∀ (l : List Op5) (n : Nat) (s : VS), Chk.runT vs n s l = runV Chk.charT vs n s l
 | [], n, s => rfl
 | i :: l, n, s => by
  have e : Chk.stepT vs s i = stepV Chk.charT vs s i := rfl
  rw [Chk.runT, runV, e]
  cases stepV Chk.charT vs s i with
  | none => rfl
  | some s' => exact run_eq vs l (n + 1) s'
end Go.AE.YtghgbbiklkpbnaaDoor
end

section
namespace Go.AE.YtghgbbiklkpbnaaDoor
open Go Go.AE Go.Proofs.YtghgbbiklkpbnaaDoor

theorem callsV_congr {S S' : List Int} (h : ∀ n, n ∈ S ↔ n ∈ S') (hd : Bool) (n : Int) : callsV S hd n = callsV S' hd n := by
 have e : hasAllV S n.toNat = hasAllV S' n.toNat := by
  have : ∀ j : Int, S.contains j = S'.contains j := fun j => by
   rw [Bool.eq_iff_iff]; simp [h]
  simp only [hasAllV, this]
 simp only [callsV, e]
structure Rel (s : RS) (ov : Bool) (v : VS) : Prop where
 rg : ∀ n, n ∈ v.regs ↔ n ∈ s.regs
 kn : ∀ n, n ∈ v.known ↔ n ∈ s.known
 pa : v.parts = s.parts
 hd : v.head = s.inHead
 ovr : v.over = ov
 of : 0 < s.parts → (v.of = 0 ∧ s.ofGet = true) ∨ (v.of = 2 ∧ s.ofGet = false ∧ v.under = s.under)
theorem op23 {op : Int} (h : 1 ≤ op ∧ op ≤ 23) : op = 1 ∨ op = 2 ∨ op = 3 ∨ op = 4 ∨ op = 5 ∨ op = 6 ∨ op = 7 ∨ op = 8 ∨ op = 9 ∨ op = 10 ∨ op = 11 ∨ op = 12 ∨ op = 13 ∨ op = 14 ∨ op = 15 ∨ op = 16 ∨ op = 17 ∨ op = 18 ∨ op = 19 ∨ op = 20 ∨ op = 21 ∨ op = 22 ∨ op = 23 := by omega
theorem rel_good {s : RS} {ov : Bool} {v : VS} (h : Rel s ov v) (vs : Int) (i : Op5) : (placeR s i && partedR s vs i) = ((rowV i.op).2.2 && (standsV v.regs v.parts v.of v.head (rowV i.op).1 (rowV i.op).2.1 i && wholeV v.regs v.known vs v.head (rowV i.op).1 (rowV i.op).2.1 i)) := by
 by_cases hv : 1 ≤ i.op ∧ i.op ≤ 23
 ·obtain ⟨S, Q, p, og, ih, u⟩ := s
  obtain ⟨S', Q', p', o, u', hd', ov'⟩ := v
  obtain ⟨rg, kn, pa, hd, ovr, of⟩ := h
  simp only at rg kn pa hd ovr of
  subst pa hd ovr
  have cc := callsV_congr rg hd' i.n
  obtain ⟨op, a, b, nm, n⟩ := i
  simp only at hv cc
  rcases op23 hv with rfl | rfl | rfl | rfl | rfl | rfl | rfl | rfl | rfl | rfl | rfl | rfl | rfl | rfl | rfl | rfl | rfl | rfl | rfl | rfl | rfl | rfl | rfl
  ·have e : rowV 1 = (0, 0, true) := by simp [rowV]
   rw [e]
   cases hd' <;> simp [placeR, partedR, isVarR, isValR, standsV, wholeV, rg, kn]
  ·have e : rowV 2 = (0, 1, true) := by simp [rowV]
   rw [e]
   cases hd' <;> simp [placeR, partedR, isVarR, isValR, standsV, wholeV, rg, kn]
  ·have e : rowV 3 = (0, 2, true) := by simp [rowV]
   rw [e]
   cases hd' <;> simp [placeR, partedR, isVarR, isValR, standsV, wholeV, rg, kn]
  ·have e : rowV 4 = (0, 3, true) := by simp [rowV]
   rw [e]
   cases hd' <;> simp [placeR, partedR, isVarR, isValR, standsV, wholeV, rg, kn]
  ·have e : rowV 5 = (0, 4, true) := by simp [rowV]
   rw [e]
   cases hd' <;> simp [placeR, partedR, isVarR, isValR, standsV, wholeV, rg, kn]
  ·have e : rowV 6 = (1, 0, true) := by simp [rowV]
   rw [e]
   by_cases hp : 0 < p'
   ·rcases of hp with ⟨rfl, rfl⟩ | ⟨rfl, rfl, rfl⟩ <;> simp [placeR, partedR, isVarR, isValR, standsV, wholeV, hp, rg, kn]
   ·simp [placeR, partedR, isVarR, isValR, standsV, wholeV, hp, rg, kn]
  ·have e : rowV 7 = (1, 1, true) := by simp [rowV]
   rw [e]
   by_cases hp : 0 < p'
   ·rcases of hp with ⟨rfl, rfl⟩ | ⟨rfl, rfl, rfl⟩ <;> simp [placeR, partedR, isVarR, isValR, standsV, wholeV, hp, rg, kn]
   ·simp [placeR, partedR, isVarR, isValR, standsV, wholeV, hp, rg, kn]
  ·have e : rowV 8 = (1, 2, true) := by simp [rowV]
   rw [e]
   by_cases hp : 0 < p'
   ·rcases of hp with ⟨rfl, rfl⟩ | ⟨rfl, rfl, rfl⟩ <;> simp [placeR, partedR, isVarR, isValR, standsV, wholeV, hp, rg, kn]
   ·simp [placeR, partedR, isVarR, isValR, standsV, wholeV, hp, rg, kn]
  ·have e : rowV 9 = (1, 3, true) := by simp [rowV]
   rw [e]
   by_cases hp : 0 < p'
   ·rcases of hp with ⟨rfl, rfl⟩ | ⟨rfl, rfl, rfl⟩ <;> simp [placeR, partedR, isVarR, isValR, standsV, wholeV, hp, rg, kn]
   ·simp [placeR, partedR, isVarR, isValR, standsV, wholeV, hp, rg, kn]
  ·have e : rowV 10 = (1, 4, true) := by simp [rowV]
   rw [e]
   by_cases hp : 0 < p'
   ·rcases of hp with ⟨rfl, rfl⟩ | ⟨rfl, rfl, rfl⟩ <;> simp [placeR, partedR, isVarR, isValR, standsV, wholeV, hp, rg, kn]
   ·simp [placeR, partedR, isVarR, isValR, standsV, wholeV, hp, rg, kn]
  ·have e : rowV 11 = (2, 0, true) := by simp [rowV]
   rw [e]
   cases hd' <;> simp [placeR, partedR, isVarR, isValR, standsV, wholeV, rg, kn]
  ·have e : rowV 12 = (2, 1, true) := by simp [rowV]
   rw [e]
   cases hd' <;> simp [placeR, partedR, isVarR, isValR, standsV, wholeV, rg, kn]
  ·have e : rowV 13 = (2, 2, true) := by simp [rowV]
   rw [e]
   cases hd' <;> simp [placeR, partedR, isVarR, isValR, standsV, wholeV, rg, kn]
  ·have e : rowV 14 = (2, 3, true) := by simp [rowV]
   rw [e]
   cases hd' <;> simp [placeR, partedR, isVarR, isValR, standsV, wholeV, rg, kn]
  ·have e : rowV 15 = (2, 4, true) := by simp [rowV]
   rw [e]
   cases hd' <;> simp [placeR, partedR, isVarR, isValR, standsV, wholeV, rg, kn]
  ·have e : rowV 16 = (3, 0, true) := by simp [rowV]
   rw [e]
   by_cases hp : 0 < p'
   ·rcases of hp with ⟨rfl, rfl⟩ | ⟨rfl, rfl, rfl⟩ <;> simp [placeR, partedR, isVarR, isValR, standsV, wholeV, hp, rg, kn]
   ·simp [placeR, partedR, isVarR, isValR, standsV, wholeV, hp, rg, kn]
  ·have e : rowV 17 = (3, 1, true) := by simp [rowV]
   rw [e]
   by_cases hp : 0 < p'
   ·rcases of hp with ⟨rfl, rfl⟩ | ⟨rfl, rfl, rfl⟩ <;> simp [placeR, partedR, isVarR, isValR, standsV, wholeV, hp, rg, kn]
   ·simp [placeR, partedR, isVarR, isValR, standsV, wholeV, hp, rg, kn]
  ·have e : rowV 18 = (3, 2, true) := by simp [rowV]
   rw [e]
   by_cases hp : 0 < p'
   ·rcases of hp with ⟨rfl, rfl⟩ | ⟨rfl, rfl, rfl⟩ <;> simp [placeR, partedR, isVarR, isValR, standsV, wholeV, hp, rg, kn]
   ·simp [placeR, partedR, isVarR, isValR, standsV, wholeV, hp, rg, kn]
  ·have e : rowV 19 = (3, 3, true) := by simp [rowV]
   rw [e]
   by_cases hp : 0 < p'
   ·rcases of hp with ⟨rfl, rfl⟩ | ⟨rfl, rfl, rfl⟩ <;> simp [placeR, partedR, isVarR, isValR, standsV, wholeV, hp, rg, kn]
   ·simp [placeR, partedR, isVarR, isValR, standsV, wholeV, hp, rg, kn]
  ·have e : rowV 20 = (3, 4, true) := by simp [rowV]
   rw [e]
   by_cases hp : 0 < p'
   ·rcases of hp with ⟨rfl, rfl⟩ | ⟨rfl, rfl, rfl⟩ <;> simp [placeR, partedR, isVarR, isValR, standsV, wholeV, hp, rg, kn]
   ·simp [placeR, partedR, isVarR, isValR, standsV, wholeV, hp, rg, kn]
  ·have e : rowV 21 = (4, 0, true) := by simp [rowV]
   rw [e]
   simp [placeR, partedR, isVarR, isValR, standsV, wholeV, cc]
  ·have e : rowV 22 = (4, 1, true) := by simp [rowV]
   rw [e]
   cases hd' <;> simp [placeR, partedR, isVarR, isValR, standsV, wholeV, rg, kn]
  ·have e : rowV 23 = (4, 2, true) := by simp [rowV]
   rw [e]
   cases hd' <;> simp [placeR, partedR, isVarR, isValR, standsV, wholeV, rg, kn]
 ·have e : (rowV i.op).2.2 = false := by rw [rowV, if_pos (by omega)]
  have e2 : placeR s i = false := by
   unfold placeR
   rw [if_neg (by omega), if_neg (by omega), if_neg (by omega), if_neg (by omega), if_neg (by omega)]
  rw [e, e2]; rfl
theorem rel_does {s : RS} {ov : Bool} {v : VS} (h : Rel s ov v) (vs : Int) (i : Op5) (hv : 1 ≤ i.op ∧ i.op ≤ 23) (ho : v.over = false) (hs : standsV v.regs v.parts v.of v.head (rowV i.op).1 (rowV i.op).2.1 i = true) :
  Rel (doesR s i) (i.op == 23) (doesV v (rowV i.op).1 (rowV i.op).2.1 i) := by
 obtain ⟨S, Q, p, og, ih, u⟩ := s
 obtain ⟨S', Q', p', o, u', hd', ov'⟩ := v
 obtain ⟨rg, kn, pa, hd, ovr, of⟩ := h
 simp only at rg kn pa hd ovr of ho hs
 subst pa hd ovr ho
 obtain ⟨op, a, b, nm, n⟩ := i
 simp only at hv hs ⊢
 rcases op23 hv with rfl | rfl | rfl | rfl | rfl | rfl | rfl | rfl | rfl | rfl | rfl | rfl | rfl | rfl | rfl | rfl | rfl | rfl | rfl | rfl | rfl | rfl | rfl
 ·have e : rowV 1 = (0, 0, true) := by simp [rowV]
  rw [e] at hs ⊢
  simp only at hs ⊢
  simp [doesR, dA, dB, dC, dBody, dPart, isVarR, isValR, doesV, headOffV]
  exact ⟨fun x => by simp [rg], fun x => by simp [kn, or_comm], rfl, rfl, rfl, of⟩
 ·have e : rowV 2 = (0, 1, true) := by simp [rowV]
  rw [e] at hs ⊢
  simp only at hs ⊢
  simp [doesR, dA, dB, dC, dBody, dPart, isVarR, isValR, doesV, headOffV]
  exact ⟨fun x => by simp [rg], fun x => by simp [kn, or_comm], rfl, rfl, rfl, of⟩
 ·have e : rowV 3 = (0, 2, true) := by simp [rowV]
  rw [e] at hs ⊢
  simp only at hs ⊢
  simp [doesR, dA, dB, dC, dBody, dPart, isVarR, isValR, doesV, headOffV]
  exact ⟨fun x => by simp [rg], fun x => by simp [kn, or_comm], rfl, rfl, rfl, of⟩
 ·have e : rowV 4 = (0, 3, true) := by simp [rowV]
  rw [e] at hs ⊢
  simp only at hs ⊢
  simp [doesR, dA, dB, dC, dBody, dPart, isVarR, isValR, doesV, headOffV]
  exact ⟨fun x => by simp [rg], fun x => by simp [kn, or_comm], rfl, rfl, rfl, of⟩
 ·have e : rowV 5 = (0, 4, true) := by simp [rowV]
  rw [e] at hs ⊢
  simp only at hs ⊢
  simp [doesR, dA, dB, dC, dBody, dPart, isVarR, isValR, doesV, headOffV]
  exact ⟨fun x => by simp [rg], fun x => by simp [kn], rfl, rfl, rfl, fun _ => .inl ⟨rfl, rfl⟩⟩
 ·have e : rowV 6 = (1, 0, true) := by simp [rowV]
  rw [e] at hs ⊢
  simp only at hs ⊢
  simp [standsV] at hs
  obtain ⟨hp, rfl⟩ := hs
  rcases of hp with ⟨_, rfl⟩ | ⟨h2, _⟩
  ·simp [doesR, dA, dB, dC, dBody, dPart, isVarR, isValR, doesV, headOffV]
   exact ⟨fun x => by simp [rg, or_comm], fun x => by simp [kn, or_comm], rfl, rfl, rfl, fun _ => .inl ⟨rfl, rfl⟩⟩
  ·omega
 ·have e : rowV 7 = (1, 1, true) := by simp [rowV]
  rw [e] at hs ⊢
  simp only at hs ⊢
  simp [standsV] at hs
  obtain ⟨hp, rfl⟩ := hs
  rcases of hp with ⟨_, rfl⟩ | ⟨h2, _⟩
  ·simp [doesR, dA, dB, dC, dBody, dPart, isVarR, isValR, doesV, headOffV]
   exact ⟨fun x => by simp [rg, or_comm], fun x => by simp [kn, or_comm], rfl, rfl, rfl, fun _ => .inl ⟨rfl, rfl⟩⟩
  ·omega
 ·have e : rowV 8 = (1, 2, true) := by simp [rowV]
  rw [e] at hs ⊢
  simp only at hs ⊢
  simp [standsV] at hs
  obtain ⟨hp, rfl⟩ := hs
  rcases of hp with ⟨_, rfl⟩ | ⟨h2, _⟩
  ·simp [doesR, dA, dB, dC, dBody, dPart, isVarR, isValR, doesV, headOffV]
   exact ⟨fun x => by simp [rg, or_comm], fun x => by simp [kn, or_comm], rfl, rfl, rfl, fun _ => .inl ⟨rfl, rfl⟩⟩
  ·omega
 ·have e : rowV 9 = (1, 3, true) := by simp [rowV]
  rw [e] at hs ⊢
  simp only at hs ⊢
  simp [standsV] at hs
  obtain ⟨hp, rfl⟩ := hs
  rcases of hp with ⟨_, rfl⟩ | ⟨h2, _⟩
  ·simp [doesR, dA, dB, dC, dBody, dPart, isVarR, isValR, doesV, headOffV]
   exact ⟨fun x => by simp [rg, or_comm], fun x => by simp [kn, or_comm], rfl, rfl, rfl, fun _ => .inl ⟨rfl, rfl⟩⟩
  ·omega
 ·have e : rowV 10 = (1, 4, true) := by simp [rowV]
  rw [e] at hs ⊢
  simp only at hs ⊢
  simp [standsV] at hs
  obtain ⟨hp, rfl⟩ := hs
  rcases of hp with ⟨_, rfl⟩ | ⟨h2, _⟩
  ·simp [doesR, dA, dB, dC, dBody, dPart, isVarR, isValR, doesV, headOffV]
   exact ⟨fun x => by simp [rg, or_comm], fun x => by simp [kn, or_comm], rfl, rfl, rfl, fun _ => .inl ⟨rfl, rfl⟩⟩
  ·omega
 ·have e : rowV 11 = (2, 0, true) := by simp [rowV]
  rw [e] at hs ⊢
  simp only at hs ⊢
  have hp : p' = 0 := by simp [standsV] at hs; exact hs.1
  subst hp
  cases hd' <;> simp [doesR, dA, dB, dC, dBody, dPart, isVarR, isValR, doesV, headOffV]
  all_goals exact ⟨fun x => by simp [rg, or_comm], fun x => by simp [kn, or_comm], rfl, rfl, rfl, fun h => absurd h (by simp)⟩
 ·have e : rowV 12 = (2, 1, true) := by simp [rowV]
  rw [e] at hs ⊢
  simp only at hs ⊢
  have hp : p' = 0 := by simp [standsV] at hs; exact hs.1
  subst hp
  cases hd' <;> simp [doesR, dA, dB, dC, dBody, dPart, isVarR, isValR, doesV, headOffV]
  all_goals exact ⟨fun x => by simp [rg, or_comm], fun x => by simp [kn, or_comm], rfl, rfl, rfl, fun h => absurd h (by simp)⟩
 ·have e : rowV 13 = (2, 2, true) := by simp [rowV]
  rw [e] at hs ⊢
  simp only at hs ⊢
  have hp : p' = 0 := by simp [standsV] at hs; exact hs.1
  subst hp
  cases hd' <;> simp [doesR, dA, dB, dC, dBody, dPart, isVarR, isValR, doesV, headOffV]
  all_goals exact ⟨fun x => by simp [rg, or_comm], fun x => by simp [kn, or_comm], rfl, rfl, rfl, fun h => absurd h (by simp)⟩
 ·have e : rowV 14 = (2, 3, true) := by simp [rowV]
  rw [e] at hs ⊢
  simp only at hs ⊢
  have hp : p' = 0 := by simp [standsV] at hs; exact hs.1
  subst hp
  cases hd' <;> simp [doesR, dA, dB, dC, dBody, dPart, isVarR, isValR, doesV, headOffV]
  all_goals exact ⟨fun x => by simp [rg, or_comm], fun x => by simp [kn, or_comm], rfl, rfl, rfl, fun h => absurd h (by simp)⟩
 ·have e : rowV 15 = (2, 4, true) := by simp [rowV]
  rw [e] at hs ⊢
  simp only at hs ⊢
  cases hd' <;> simp [doesR, dA, dB, dC, dBody, dPart, isVarR, isValR, doesV, headOffV]
  all_goals exact ⟨fun x => by simp [rg, or_comm], fun x => by simp [kn, or_comm], rfl, rfl, rfl, fun _ => .inr ⟨rfl, rfl, rfl⟩⟩
 ·have e : rowV 16 = (3, 0, true) := by simp [rowV]
  rw [e] at hs ⊢
  simp only at hs ⊢
  simp [standsV] at hs
  obtain ⟨hp, rfl⟩ := hs
  rcases of hp with ⟨h2, _⟩ | ⟨_, rfl, rfl⟩
  ·omega
  ·by_cases hw : IntKind.i64.wrap (p' - 1) = 0
   ·simp [doesR, dA, dB, dC, dBody, dPart, isVarR, isValR, doesV, headOffV, hw]
    exact ⟨fun x => by simp [rg, or_comm], fun x => by simp [kn, or_comm], by simp [hw], rfl, rfl, fun h => by simp [hw] at h⟩
   ·simp [doesR, dA, dB, dC, dBody, dPart, isVarR, isValR, doesV, headOffV, hw]
    exact ⟨fun x => by simp [rg, or_comm], fun x => by simp [kn, or_comm], rfl, rfl, rfl, fun _ => .inr ⟨rfl, rfl, rfl⟩⟩
 ·have e : rowV 17 = (3, 1, true) := by simp [rowV]
  rw [e] at hs ⊢
  simp only at hs ⊢
  simp [standsV] at hs
  obtain ⟨hp, rfl⟩ := hs
  rcases of hp with ⟨h2, _⟩ | ⟨_, rfl, rfl⟩
  ·omega
  ·by_cases hw : IntKind.i64.wrap (p' - 1) = 0
   ·simp [doesR, dA, dB, dC, dBody, dPart, isVarR, isValR, doesV, headOffV, hw]
    exact ⟨fun x => by simp [rg, or_comm], fun x => by simp [kn, or_comm], by simp [hw], rfl, rfl, fun h => by simp [hw] at h⟩
   ·simp [doesR, dA, dB, dC, dBody, dPart, isVarR, isValR, doesV, headOffV, hw]
    exact ⟨fun x => by simp [rg, or_comm], fun x => by simp [kn, or_comm], rfl, rfl, rfl, fun _ => .inr ⟨rfl, rfl, rfl⟩⟩
 ·have e : rowV 18 = (3, 2, true) := by simp [rowV]
  rw [e] at hs ⊢
  simp only at hs ⊢
  simp [standsV] at hs
  obtain ⟨hp, rfl⟩ := hs
  rcases of hp with ⟨h2, _⟩ | ⟨_, rfl, rfl⟩
  ·omega
  ·by_cases hw : IntKind.i64.wrap (p' - 1) = 0
   ·simp [doesR, dA, dB, dC, dBody, dPart, isVarR, isValR, doesV, headOffV, hw]
    exact ⟨fun x => by simp [rg, or_comm], fun x => by simp [kn, or_comm], by simp [hw], rfl, rfl, fun h => by simp [hw] at h⟩
   ·simp [doesR, dA, dB, dC, dBody, dPart, isVarR, isValR, doesV, headOffV, hw]
    exact ⟨fun x => by simp [rg, or_comm], fun x => by simp [kn, or_comm], rfl, rfl, rfl, fun _ => .inr ⟨rfl, rfl, rfl⟩⟩
 ·have e : rowV 19 = (3, 3, true) := by simp [rowV]
  rw [e] at hs ⊢
  simp only at hs ⊢
  simp [standsV] at hs
  obtain ⟨hp, rfl⟩ := hs
  rcases of hp with ⟨h2, _⟩ | ⟨_, rfl, rfl⟩
  ·omega
  ·by_cases hw : IntKind.i64.wrap (p' - 1) = 0
   ·simp [doesR, dA, dB, dC, dBody, dPart, isVarR, isValR, doesV, headOffV, hw]
    exact ⟨fun x => by simp [rg, or_comm], fun x => by simp [kn, or_comm], by simp [hw], rfl, rfl, fun h => by simp [hw] at h⟩
   ·simp [doesR, dA, dB, dC, dBody, dPart, isVarR, isValR, doesV, headOffV, hw]
    exact ⟨fun x => by simp [rg, or_comm], fun x => by simp [kn, or_comm], rfl, rfl, rfl, fun _ => .inr ⟨rfl, rfl, rfl⟩⟩
 ·have e : rowV 20 = (3, 4, true) := by simp [rowV]
  rw [e] at hs ⊢
  simp only at hs ⊢
  simp [standsV] at hs
  obtain ⟨hp, rfl⟩ := hs
  rcases of hp with ⟨h2, _⟩ | ⟨_, rfl, rfl⟩
  ·omega
  ·by_cases hw : IntKind.i64.wrap (p' - 1) = 0
   ·simp [doesR, dA, dB, dC, dBody, dPart, isVarR, isValR, doesV, headOffV, hw]
    exact ⟨fun x => by simp [rg, or_comm], fun x => by simp [kn, or_comm], by simp [hw], rfl, rfl, fun h => by simp [hw] at h⟩
   ·simp [doesR, dA, dB, dC, dBody, dPart, isVarR, isValR, doesV, headOffV, hw]
    exact ⟨fun x => by simp [rg, or_comm], fun x => by simp [kn, or_comm], rfl, rfl, rfl, fun _ => .inr ⟨rfl, rfl, rfl⟩⟩
 ·have e : rowV 21 = (4, 0, true) := by simp [rowV]
  rw [e] at hs ⊢
  simp only at hs ⊢
  cases hd' <;> simp [doesR, dA, dB, dC, dBody, dPart, isVarR, isValR, doesV, headOffV]
  all_goals exact ⟨fun x => by simp [rg, or_comm], fun x => by simp [kn, or_comm], rfl, rfl, rfl, of⟩
 ·have e : rowV 22 = (4, 1, true) := by simp [rowV]
  rw [e] at hs ⊢
  simp only at hs ⊢
  cases hd' <;> simp [doesR, dA, dB, dC, dBody, dPart, isVarR, isValR, doesV, headOffV]
  all_goals exact ⟨fun x => by simp [rg, or_comm], fun x => by simp [kn, or_comm], rfl, rfl, rfl, of⟩
 ·have e : rowV 23 = (4, 2, true) := by simp [rowV]
  rw [e] at hs ⊢
  simp only at hs ⊢
  cases hd' <;> simp [doesR, dA, dB, dC, dBody, dPart, isVarR, isValR, doesV, headOffV]
  all_goals exact ⟨fun x => by simp [rg, or_comm], fun x => by simp [kn, or_comm], rfl, rfl, rfl, of⟩
theorem run_same (vs : Int) : ∀ (l : List Op5) (n : Nat) (s : RS) (ov : Bool) (v : VS), Rel s ov v → Chk.runR vs n s ov l = runV Chk.charT vs n v l
 | [], n, s, ov, v, h => by rw [Chk.runR, runV, h.ovr]
 | i :: l, n, s, ov, v, h => by
  have g := rel_good h vs i
  rw [Chk.runR, runV]
  have e1 : Chk.stepR vs s ov i = if !ov && (Chk.charT i.nm && (placeR s i && partedR s vs i)) then some (doesR s i) else none := rfl
  have e2 : stepV Chk.charT vs v i = if (rowV i.op).2.2 && (!v.over && (Chk.charT i.nm && (standsV v.regs v.parts v.of v.head (rowV i.op).1 (rowV i.op).2.1 i && wholeV v.regs v.known vs v.head (rowV i.op).1 (rowV i.op).2.1 i))) then some (doesV v (rowV i.op).1 (rowV i.op).2.1 i) else none := rfl
  rw [e1, e2, h.ovr, g]
  have hcomm : (!ov && (Chk.charT i.nm && ((rowV i.op).2.2 && (standsV v.regs v.parts v.of v.head (rowV i.op).1 (rowV i.op).2.1 i && wholeV v.regs v.known vs v.head (rowV i.op).1 (rowV i.op).2.1 i)))) = ((rowV i.op).2.2 && (!ov && (Chk.charT i.nm && (standsV v.regs v.parts v.of v.head (rowV i.op).1 (rowV i.op).2.1 i && wholeV v.regs v.known vs v.head (rowV i.op).1 (rowV i.op).2.1 i)))) := by
   cases ov <;> cases Chk.charT i.nm <;> cases (rowV i.op).2.2 <;> rfl
  rw [hcomm]
  by_cases hg : ((rowV i.op).2.2 && (!ov && (Chk.charT i.nm && (standsV v.regs v.parts v.of v.head (rowV i.op).1 (rowV i.op).2.1 i && wholeV v.regs v.known vs v.head (rowV i.op).1 (rowV i.op).2.1 i)))) = true
  ·rw [if_pos hg, if_pos hg]
   simp only [Bool.and_eq_true, Bool.not_eq_true'] at hg
   obtain ⟨g1, g2, _, g4, _⟩ := hg
   have hv : 1 ≤ i.op ∧ i.op ≤ 23 := by
    rw [rowV] at g1
    by_cases hh : i.op < 1 ∨ i.op > 23
    ·rw [if_pos hh] at g1; cases g1
    ·omega
   exact run_same vs l (n + 1) _ _ _ (rel_does h vs i hv (by rw [h.ovr, g2]) g4)
  ·rw [if_neg hg, if_neg hg]
theorem chk_same (c : Chk.Co) : Chk.chkR c = Chk.chkT c := by
 have h : Rel (Chk.beginR c.ar) false (Chk.beginT c.ar) := ⟨fun n => by simp [Chk.beginR, Chk.beginT, Chk.rUp, Chk.upTo], fun n => Iff.rfl, rfl, rfl, rfl, fun h => by simp [Chk.beginR] at h⟩
 simp only [Chk.chkR, Chk.chkT, Chk.checkR, Chk.checkT, run_eq, run_same c.vs c.l 0 _ _ _ h]
end Go.AE.YtghgbbiklkpbnaaDoor
end

section
namespace Go.AE.YtghgbbiklkpbnaaDoor.Chk
open Go Go.AE Go.Proofs.YtghgbbiklkpbnaaDoor
theorem int3 {cs : List AV} (w : WT T 3 cs) : ∃ n : Int, cs = [.v (.int .i64 n)] := by
 obtain ⟨n, h, _⟩ := wt_int_of (t := 3) (k := .i64) rfl rfl w
 exact ⟨n, h⟩
theorem int2 {cs : List AV} (w : WT T 2 cs) : ∃ n : Int, cs = [.v (.int .i64 n)] := by
 obtain ⟨n, h, _⟩ := wt_int_of (t := 2) (k := .i64) rfl rfl w
 exact ⟨n, h⟩
theorem str9 {cs : List AV} (w : WT T 9 cs) : ∃ s : ByteArray, cs = [.v (.string s)] := by
 obtain ⟨s, h, _⟩ := wt_str_of (t := 9) rfl rfl w
 exact ⟨s, h⟩
theorem instr_in {cs : List AV} (w : WT T 41 cs) : ∃ i, IsIn (.agg cs) i := by
 obtain ⟨a, b, c, d, e, rfl, wa, wb, wc, wd, we⟩ := wt_struct5 (t := 41) rfl rfl w
 obtain ⟨_, rfl⟩ := int3 wa
 obtain ⟨_, rfl⟩ := int3 wb
 obtain ⟨_, rfl⟩ := int3 wc
 obtain ⟨_, rfl⟩ := str9 wd
 obtain ⟨_, rfl⟩ := int2 we
 exact ⟨_, .mk _ _ _ _ _⟩
theorem instrs_in {cs : List AV} (w : WT T 22 cs) : ∃ c l, cs = [c] ∧ IsS 5 IsIn c l := by
 rcases wt_slice_of (t := 22) (e := 41) rfl rfl rfl w with rfl | ⟨l, rfl, hl, hel, has⟩
 ·exact ⟨_, [], rfl, [], .nil, .nil, by simp⟩
 ·obtain ⟨xs, hxs⟩ := allR_of (R := IsIn) (l := l) (fun el hm => by
   obtain ⟨x, hx⟩ := instr_in (hel el hm)
   have := has el hm
   rw [← agg_cells this] at hx
   exact ⟨x, hx⟩)
  exact ⟨_, xs, rfl, l, .slc _ _ _, hxs, hl⟩
theorem code_in {a : AV} (w : WT T 24 a.cells) (e : Q77 ti24.agg a.cells = some a) : ∃ c, IsCo a c := by
 obtain ⟨n, b, c, d, h, wn, wb, wc, wd⟩ := wt_struct4 (t := 24) rfl rfl w
 obtain ⟨_, rfl⟩ := str9 wn
 obtain ⟨_, rfl⟩ := int3 wb
 obtain ⟨_, rfl⟩ := int3 wc
 obtain ⟨q, l, rfl, hl⟩ := instrs_in wd
 rw [agg_cells e, h]
 exact ⟨_, .mk _ _ _ _ _ hl⟩
theorem checks_ok {a : AV} {c : Co} (ha : IsCo a c) : callW F 3 [a] [] = some (.v (.bool true), []) := by
 have hlive := live_ok
 have hchk := check_ok ha
 obtain ⟨r, hbig, hbl⟩ := big_ok ha
 have hrc : r = false → callW F 8 [a] [] = some (.tup [.v (.int .i64 (chkT c).1), .v (.int .i64 (chkT c).2)], []) := fun h => by
  have := rcheck_ok ha (hbl h)
  rw [chk_same] at this
  exact this
 cases ha with
 | mk nm ar vs c3' l hl =>
 obtain ⟨es, hs, hes, hm⟩ := hl
 have cl := (show (AV.agg [.v (.string nm), .v (.int .i64 ar), .v (.int .i64 vs), c3']).cl = some [.v (.string nm), .v (.int .i64 ar), .v (.int .i64 vs), c3'] by cases hs <;> rfl)
 have sa := (show ∀ h : List AO, (AV.agg [.v (.string nm), .v (.int .i64 ar), .v (.int .i64 vs), c3']).snap1 h = some (.agg [.v (.string nm), .v (.int .i64 ar), .v (.int .i64 vs), c3']) by intro h; cases hs <;> rfl)
 have la : ∀ h, Q76 (.box 24 [.v (.string nm), .v (.int .i64 ar), .v (.int .i64 vs), c3'] :: h) true 4 (.ptr 0 0) = some (.agg [.v (.string nm), .v (.int .i64 ar), .v (.int .i64 vs), c3']) := fun _ => rfl
 have st : start c3 [.agg [.v (.string nm), .v (.int .i64 ar), .v (.int .i64 vs), c3']] = [.agg [.v (.string nm), .v (.int .i64 ar), .v (.int .i64 vs), c3'], .v undef, .v undef, .v undef, .v undef, .v undef, .v undef, .v undef, .v undef] := rfl
 refine callW_pure (c := c3) rfl rfl 0 ?_
 rw [st]
 cases r with
 | true => simp only [c3, c3_0, c3_1, c3_2, c3_3, cl, la, sa, hlive, hbig, Q0, Q1, Q2, Q3, Q4, Q5, Q6, Q7, Q8, Q9, Q10, Q11, Q12, Q13, Q14, Q15, Q16, Q17, Q18, Q19, Q20, Q21, Q22, Q23, Q24, Q25, Q26, Q27, Q28, Q29, Q30, Q31, Q32, Q33, Q35, Q36, Q37, Q38, Q39, Q40, Q41, Q42, Q43, Q44, Q45, Q46, Q47, Q48, Q49, Q50, Q51, Q52, Q53, Q54, Q55, Q56, Q57, Q58, Q59, Q60, Q61, Q62, Q63, Q64, Q65, Q66, Q67, Q68, Q69, Q70, Q71, Q72, Q73, Q99, Q100, Q101, Q102, Q103, Q74, Q75, Q77, Q78, Q79, Q80, Q81, Q82, Q83, Q84, clr, List.length_nil, List.length_cons, List.getElem?_cons_zero, List.getElem?_cons_succ, Nat.reduceAdd, Nat.zero_add, Nat.add_zero, Nat.reduceLeDiff, Nat.reduceSub, ↓reduceIte, List.drop_succ_cons, List.drop_zero, List.take_succ_cons, List.take_zero, Bool.false_eq_true, List.nil_append, List.cons_append, Bool.not_true, Bool.not_false, cond_true, cond_false, bne, Q85, Q86, Q87, Q88, Q89, Q90, Q91, Q92, Q93, Q94, Q95, Q96, Q97, Q98, Q110, Q111, Q116, Q117, Q118, Q119, Q120, Q121, Q122, Q123, Option.map_some, Option.map_none, Q34]
 | false =>
  have h8 := hrc rfl
  generalize chkT ⟨nm, ar, vs, l⟩ = q at hchk h8
  obtain ⟨n, e⟩ := q
  have e1 : ((n : Int) == n) = true := by simp
  have e2 : ((e : Int) == e) = true := by simp
  simp only [c3, c3_0, c3_1, c3_2, c3_4, c3_5, c3_6, cl, la, sa, hlive, hbig, hchk, h8, e1, e2, Q122, Q0, Q1, Q2, Q3, Q4, Q5, Q6, Q7, Q8, Q9, Q10, Q11, Q12, Q13, Q14, Q15, Q16, Q17, Q18, Q19, Q20, Q21, Q22, Q23, Q24, Q25, Q26, Q27, Q28, Q29, Q30, Q31, Q32, Q33, Q35, Q36, Q37, Q38, Q39, Q40, Q41, Q42, Q43, Q44, Q45, Q46, Q47, Q48, Q49, Q50, Q51, Q52, Q53, Q54, Q55, Q56, Q57, Q58, Q59, Q60, Q61, Q62, Q63, Q64, Q65, Q66, Q67, Q68, Q69, Q70, Q71, Q72, Q73, Q99, Q100, Q101, Q102, Q103, Q74, Q75, Q77, Q78, Q79, Q80, Q81, Q82, Q83, Q84, clr, List.length_nil, List.length_cons, List.getElem?_cons_zero, List.getElem?_cons_succ, Nat.reduceAdd, Nat.zero_add, Nat.add_zero, Nat.reduceLeDiff, Nat.reduceSub, ↓reduceIte, List.drop_succ_cons, List.drop_zero, List.take_succ_cons, List.take_zero, Bool.false_eq_true, List.nil_append, List.cons_append, Bool.not_true, Bool.not_false, cond_true, cond_false, bne, Q85, Q86, Q87, Q88, Q89, Q90, Q91, Q92, Q93, Q94, Q95, Q96, Q97, Q98, Q110, Q111, Q116, Q117, Q118, Q119, Q120, Q121, Q122, Q123, Option.map_some, Option.map_none, Q34]
end Go.AE.YtghgbbiklkpbnaaDoor.Chk
end

section
namespace Go.Proofs.YtghgbbiklkpbnaaDoor
open Go Go.AE Go.Proofs Go.ChangeShapes Go.WideShapes Go.ChangeAt Go.RowKit
open Go.ChangeMaps (open_string shut_string)

theorem own : ownKnob Tryd.prog.godebug = none := by kernel_rfl
theorem laidOut : laidOutB Tryd.prog = true := by kernel_rfl
theorem mixed : Tryd.prog.follows .mixedOrders = true := by kernel_rfl
def G : List TypeId := [2, 3, 9, 22, 24, 30, 32, 41]
theorem hG : goodB T G = true := by kernel_rfl

theorem push_ok : ∀ f, T.push f = true → (∃ g, F f = some (.oracle g) ∧ ∀ args h r h', g args h = some (r, h') → ∃ X, h' = h ++ X) ∨ ∃ c, F f = some (.pkeep c) := by
 intro f h
 have h : pushes.contains f = true := h
 simp only [pushes, List.contains_cons, List.contains_nil, Bool.or_false, beq_iff_eq] at h
 subst h
 exact .inr ⟨_, rfl⟩
theorem law_calls {f : FuncId} {args : List AV} {vals : Array Value} {W : World} (hK : K W.heap.size W) (ha : ArgsRep (AllCells W) W [] args vals) {n : Nat} (he : callN F n f args [] = some (.v (.bool true), [])) :
  Calls Tryd.prog f vals W fun e W' => e = .returned (.bool true) ∧ Below W.heap.size W W' := by
 have hI : AE.Inv W.heap.size W (AllCells W) [] W [] := ⟨Below.refl _ _, Nat.le_refl _, rfl, fun id o L h => by simp at h, fun id L h => by simp at h, fun i j Li Lj h => by simp at h, fun b x h => h⟩
 refine ((callN_ok mixed hT hKs hF push_ok n W.heap.size W hK).calls f args [] _ _ he (AllCells W) [] W vals hI ha).mono fun e W' h => ?_
 obtain ⟨v, I', σ', rfl, hI', _, hr⟩ := h
 cases hr
 exact ⟨rfl, hI'.below⟩
end Go.Proofs.YtghgbbiklkpbnaaDoor
end

section
namespace Go.Proofs.YtghgbbiklkpbnaaDoor
open Go Go.AE Go.Proofs Go.RowKit Go.Lib Go.Shelf

noncomputable def laidWorld (os : Os) : World :=
 let w0 := World.holding Tryd.prog os ⟨#[], #[], []⟩
 let put (h : Array Obj) (g : Nat) (cs : Array Value) : Array Obj := h.modify g fun
  | .cells _ t frozen => .cells cs t frozen
  | o => o
 let h1 := put w0.heap (Tryd.lays196_ren.g 3) (Lib.firstTab.map fun z => Value.int .u8 z).toArray
 let h2 := put h1 (Tryd.lays196_ren.g 4) ((List.range 16).flatMap fun i => [Value.int .u8 (Lib.accLo i), Value.int .u8 (Lib.accHi i)]).toArray
 { w0 with heap := h2 }
set_option maxRecDepth 1000000 in
theorem laid_met (os : Os) (args : Array Value) : laidMetH Tryd.prog Rows.validCompilesRow.laid ((laidWorld os).forCall (fun _ _ => 0) ⟨#[], args, []⟩).memory :=
 (LaidIn.of_run (l := [("unicode/utf8.acceptRanges", Lib.acceptData), ("unicode/utf8.first", Lib.firstData)]) [0, 1] 8 (by kernel_rfl) (by kernel_rfl) (by kernel_rfl) (by kernel_rfl)).met
set_option maxRecDepth 1000000 in
theorem tabs_of {W : World} (hL : laidMetH Tryd.prog Rows.validCompilesRow.laid W) : Lib.Utf8Tabs (Tryd.lays196_ren.g 3) (Tryd.lays196_ren.g 4) W :=
 utf8Tabs_of_readsT (U8Types.of196 Tryd.lays196) ⟨by kernel_rfl, by kernel_rfl, by kernel_rfl, by kernel_rfl, by kernel_rfl, by kernel_rfl, by kernel_rfl⟩ (Lib.laidMet.reads (l := Rows.validCompilesRow.laid) hL (.tail _ (.head _))) (Lib.laidMet.reads (l := Rows.validCompilesRow.laid) hL (.head _))
end Go.Proofs.YtghgbbiklkpbnaaDoor
end

section
namespace Go.Proofs.YtghgbbiklkpbnaaDoor
open Go Go.AE Go.Proofs Go.ChangeShapes Go.WideShapes Go.ChangeAt Go.RowKit
open Go.ChangeMaps (open_string shut_string)
namespace validChecks
theorem args {I : Cells} {W : World} {a0 : AV} {v0 : Value} (r0 : Rep I W [] a0 v0) : ArgsRep I W [] [a0] #[v0] := by
 refine ⟨rfl, fun i a h => ?_⟩
 match i, h with
 | 0, h => cases h; exact r0
def Plain : Prop := ∀ a0 : AV, WT T 24 a0.cells → Q77 ti24.agg a0.cells = some a0 →
 ∃ n, callN F n 3 [a0] [] = some (.v (.bool true), [])

set_option maxRecDepth 100000 in
theorem lifted (plain : Plain) (os : Os) (started : os.Started) (H : Type) (enc : TypeId × Value → H) :
  ReturnsInHanded {} Tryd.checked os 3 .any (fun w args => (Rows.validChecksSpec.pre enc Tryd.prog Tryd.f3 [] false w args ∧ laidMetH Tryd.prog Rows.validChecksRow.laid w) ∧ sizedMet enc Tryd.prog Tryd.f3 (OpenSpec.ofChange Rows.validChecksSpec) false w args)
   (Rows.validChecksSpec.post enc Tryd.prog Tryd.f3 false true false false) := by
 refine returnsInHanded_of_change_and (C := Tryd.checked) (X := fun w _ => laidMetH Tryd.prog Rows.validChecksRow.laid w) (fun _ _ _ hh h => h.of_heap hh) own started (by kernel_rfl) Tryd.func3
  (ChangeSpec.witness_at (enc := enc) (C := Tryd.checked) (os := os) (X := fun w _ => laidMetH Tryd.prog Rows.validChecksRow.laid w) false (laidWorld os) #[ti24.zero] 8 rfl (by kernel_rfl) (by kernel_rfl) (by kernel_rfl) (by kernel_rfl) (by kernel_rfl) (laid_met os _)) ?_
 intro W base args' ds gs before hval0 hW _ _ hL _
 have hval : ∀ (j : Nat) t v, Tryd.f3.params[j]? = some t → args'[j]? = some v → Value.okWide Tryd.prog W .any base t v := hval0
 have hW' := hW
 obtain ⟨p, q, hA0, hV, rfl, hfz, hnd⟩ := hW
 have hA : DataW.TrodAll enc Tryd.prog W 0 (fun _ => true) true Tryd.f3.params.toList args'.toList ds p := hA0
 rw [Tryd.params3] at hA hval
 obtain ⟨v0, vs0, d0, ds0, p0, q0, hargs, rfl, rfl, h0, r0⟩ := trodAll_cons hA
 obtain ⟨rfl, rfl, rfl⟩ := trodAll_nil r0
 obtain rfl : args' = #[v0] := by cases args'; simp_all
 obtain ⟨rfl, rfl⟩ := trodVars_none hV
 obtain ⟨a0, w0, e0, x0⟩ := trod_arg hT hG (t := 24) (i := ti24) (by decide) rfl (hval 0 24 v0 rfl rfl) h0
 have l0 : ∀ x ∈ p0, x.block < W.heap.size := by obtain ⟨m, hm⟩ := h0; exact DataW.trod_lt m _ _ _ hm
 obtain ⟨n, hn⟩ := plain a0 w0 e0
 refine (law_calls ⟨rfl, tabs_of hL⟩ (args x0) hn).mono fun e W' ⟨he, bel⟩ => ?_
 subst he
 exact ⟨_, rfl, _, _, _, [], _, [], hW', trodAll_mk1 (shut_bool Tryd.underlying4 _),
  (trodAll_cons_mk (Below.trod laidOut (by kernel_rfl) (of_decide_eq_true (by kernel_rfl)) h0 bel l0) trodAll_mk0), rfl, bel.frame _, fun h => by cases h⟩
theorem over (plain : Plain) : Rows.validChecksRow.holds Tryd.pinned (OpenSpec.ofChange Rows.validChecksSpec) :=
 OpenClaim.holds_of_wide 3 Tryd.f3 rfl rfl rfl rfl rfl rfl rfl ⟨rfl, rfl, rfl, rfl, rfl⟩ rfl rfl rfl rfl rfl (by kernel_rfl) Tryd.func3 (by kernel_rfl)
  (of_decide_eq_true (by kernel_rfl)) (by unfold Func.isWrapper; first | (rw [if_pos (by decide +kernel)]; kernel_rfl) | (rw [if_neg (by decide +kernel)]; exact ⟨rfl, rfl⟩))
  (fun os started H enc _ => lifted plain os started H enc)
theorem proved (plain : Plain) : Rows.ValidChecksCardSaid :=
 Claim7.holds_tied_plain_at .later [] Rows.validChecksCard.laidKinds true Rows.validChecksCard.stood.harness Rows.validChecksCard.stood.looks
  (over plain) (fun _ h => by cases h) (by kernel_rfl) (fun _ h => by cases h) validChecks_row_tie rfl ⟨rfl, rfl⟩ (by kernel_rfl) rfl
  (fun f fn hf hfn => by
   obtain rfl : f = 3 := Option.some.inj ((show Tryd.prog.funcNamed Rows.validChecksRow.func = some 3 by kernel_rfl).symm.trans hf) |>.symm
   obtain rfl : fn = Tryd.f3 := (Option.some.inj (Tryd.func3.symm.trans hfn)).symm
   refine ⟨by kernel_rfl, fun j t ht => ?_⟩
   rw [Tryd.params3] at ht
   match j, ht with
   | 0, ht => cases ht; exact (show Tryd.prog.wantsStandIn 24 = false by kernel_rfl)
   | _ + 1, ht => simp at ht)
  (by kernel_rfl)
end validChecks
end Go.Proofs.YtghgbbiklkpbnaaDoor
end
