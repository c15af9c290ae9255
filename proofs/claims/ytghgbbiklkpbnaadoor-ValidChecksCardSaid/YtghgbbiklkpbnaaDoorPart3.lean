/- Texts of this claim, put together. -/
import Derived.Test.YtghgbbiklkpbnaaDoorPart2
set_option linter.unusedSimpArgs false
set_option linter.unusedVariables false
section
namespace Go.AE.YtghgbbiklkpbnaaDoor.Chk
open Go Go.AE Go.Proofs.YtghgbbiklkpbnaaDoor

structure Co where
 nm : ByteArray
 ar : Int
 vs : Int
 l : List In
inductive IsCo : AV → Co → Prop
 | mk (nm : ByteArray) (ar vs : Int) (c : AV) (l : List In) (hl : IsS 5 IsIn c l) : IsCo (.agg [.v (.string nm), .v (.int .i64 ar), .v (.int .i64 vs), c]) ⟨nm, ar, vs, l⟩
def chkT (c : Co) : Int × Int := checkT c.nm c.ar c.vs c.l
theorem lv2_two {h : List AO} {vars : List AV} {i j : Nat} {x y : Value} (hx : getO vars [] (.var i) = .v x) (hy : getO vars [] (.var j) = .v y) : lv [.var i, .var j] (some (.ret, vars, h)) = some (.tup [.v x, .v y], []) := by
 simp only [Q85]
 have h1 : resOf vars h (.var i) = some (.v x) := by rw [← hx]; rfl
 have h2 : resOf vars h (.var j) = some (.v y) := by rw [← hy]; rfl
 simp only [List.mapM_cons, List.mapM_nil, h1, h2]
 rfl
theorem check_ok {a : AV} {c : Co} (ha : IsCo a c) : callW F 7 [a] [] = some (.tup [.v (.int .i64 (chkT c).1), .v (.int .i64 (chkT c).2)], []) := by
 cases ha with
 | mk nm ar vs c3 l hl =>
 obtain ⟨es, hs, hes, hm⟩ := hl
 have hel := hes.length
 have cl := (show (AV.agg [.v (.string nm), .v (.int .i64 ar), .v (.int .i64 vs), c3]).cl = some [.v (.string nm), .v (.int .i64 ar), .v (.int .i64 vs), c3] by cases hs <;> rfl)
 have hch := char_ok nm
 have sx : ∀ h : List AO, (AV.v (.string nm)).snap1 h = some (.v (.string nm)) := fun _ => rfl
 have l0 : ∀ h, Q76 (.box 24 [.v (.string nm), .v (.int .i64 ar), .v (.int .i64 vs), c3] :: h) false 1 (.ptr 0 0) = some (.v (.string nm)) := fun _ => rfl
 have l1 : ∀ h, Q76 (.box 24 [.v (.string nm), .v (.int .i64 ar), .v (.int .i64 vs), c3] :: h) false 1 (.ptr 0 1) = some (.v (.int .i64 ar)) := fun _ => rfl
 have l2 : ∀ h, Q76 (.box 24 [.v (.string nm), .v (.int .i64 ar), .v (.int .i64 vs), c3] :: h) false 1 (.ptr 0 2) = some (.v (.int .i64 vs)) := fun _ => rfl
 have l3 : ∀ h, Q76 (.box 24 [.v (.string nm), .v (.int .i64 ar), .v (.int .i64 vs), c3] :: h) false 1 (.ptr 0 3) = some c3 := fun _ => rfl
 have la : ∀ h, Q76 (.box 24 [.v (.string nm), .v (.int .i64 ar), .v (.int .i64 vs), c3] :: h) true 4 (.ptr 0 0) = some (.agg [.v (.string nm), .v (.int .i64 ar), .v (.int .i64 vs), c3]) := fun _ => rfl
 have hres : c7.res = [.var 2, .var 3] := rfl
 have st9 : start c7 [.agg [.v (.string nm), .v (.int .i64 ar), .v (.int .i64 vs), c3]] = [.agg [.v (.string nm), .v (.int .i64 ar), .v (.int .i64 vs), c3], .v undef, .v undef, .v undef, .v undef, .v undef, .v undef, .v undef, .v undef, .v undef, .v undef, .v undef, .v undef, .v undef, .v undef, .v undef, .v undef, .v undef, .v undef, .v undef, .v undef] := rfl
 cases hok : okT nm ar vs with
 | false =>
  have e : chkT ⟨nm, ar, vs, l⟩ = (0, 150) := by simp only [chkT, checkT, hok]; rfl
  rw [e]
  refine callW_pure (c := c7) rfl rfl 0 ?_
  rw [st9]
  simp only [okT, Bool.not_eq_false'] at hok
  generalize charT nm = ch at hch hok
  cases b1 : decide (ar < 0) with
  | true => simp only [c7, c7_0, c7_1, c7_2, cl, l0, l1, l2, b1, Q122, Q0, Q1, Q2, Q3, Q4, Q5, Q6, Q7, Q8, Q9, Q10, Q11, Q12, Q13, Q14, Q15, Q16, Q17, Q18, Q19, Q20, Q21, Q22, Q23, Q24, Q25, Q26, Q27, Q28, Q29, Q30, Q31, Q32, Q33, Q35, Q36, Q37, Q38, Q39, Q40, Q41, Q42, Q43, Q44, Q45, Q46, Q47, Q48, Q49, Q50, Q51, Q52, Q53, Q54, Q55, Q56, Q57, Q58, Q59, Q60, Q61, Q62, Q63, Q64, Q65, Q66, Q67, Q68, Q69, Q70, Q71, Q72, Q73, Q99, Q100, Q101, Q102, Q103, Q74, Q75, Q77, Q78, Q79, Q80, Q81, Q82, Q83, Q84, clr, List.length_nil, List.length_cons, List.getElem?_cons_zero, List.getElem?_cons_succ, Nat.reduceAdd, Nat.zero_add, Nat.add_zero, Nat.reduceLeDiff, Nat.reduceSub, ↓reduceIte, List.drop_succ_cons, List.drop_zero, List.take_succ_cons, List.take_zero, Bool.false_eq_true, List.nil_append, List.cons_append, Bool.not_true, Bool.not_false, cond_true, cond_false, bne, Q85, Q86, Q87, Q88, Q89, Q90, Q91, Q92, Q93, Q94, Q95, Q96, Q97, Q98, Q110, Q111, Q116, Q117, Q118, Q119, Q120, Q121, Q122, Q123, Option.map_some, Option.map_none, Q34]; rfl
  | false =>
   cases b2 : decide (ar > 16) with
   | true => simp only [c7, c7_0, c7_1, c7_2, cl, l0, l1, l2, b1, b2, Q122, Q0, Q1, Q2, Q3, Q4, Q5, Q6, Q7, Q8, Q9, Q10, Q11, Q12, Q13, Q14, Q15, Q16, Q17, Q18, Q19, Q20, Q21, Q22, Q23, Q24, Q25, Q26, Q27, Q28, Q29, Q30, Q31, Q32, Q33, Q35, Q36, Q37, Q38, Q39, Q40, Q41, Q42, Q43, Q44, Q45, Q46, Q47, Q48, Q49, Q50, Q51, Q52, Q53, Q54, Q55, Q56, Q57, Q58, Q59, Q60, Q61, Q62, Q63, Q64, Q65, Q66, Q67, Q68, Q69, Q70, Q71, Q72, Q73, Q99, Q100, Q101, Q102, Q103, Q74, Q75, Q77, Q78, Q79, Q80, Q81, Q82, Q83, Q84, clr, List.length_nil, List.length_cons, List.getElem?_cons_zero, List.getElem?_cons_succ, Nat.reduceAdd, Nat.zero_add, Nat.add_zero, Nat.reduceLeDiff, Nat.reduceSub, ↓reduceIte, List.drop_succ_cons, List.drop_zero, List.take_succ_cons, List.take_zero, Bool.false_eq_true, List.nil_append, List.cons_append, Bool.not_true, Bool.not_false, cond_true, cond_false, bne, Q85, Q86, Q87, Q88, Q89, Q90, Q91, Q92, Q93, Q94, Q95, Q96, Q97, Q98, Q110, Q111, Q116, Q117, Q118, Q119, Q120, Q121, Q122, Q123, Option.map_some, Option.map_none, Q34]; rfl
   | false =>
    cases b3 : decide (vs < 0) with
    | true => simp only [c7, c7_0, c7_1, c7_2, cl, l0, l1, l2, b1, b2, b3, Q122, Q0, Q1, Q2, Q3, Q4, Q5, Q6, Q7, Q8, Q9, Q10, Q11, Q12, Q13, Q14, Q15, Q16, Q17, Q18, Q19, Q20, Q21, Q22, Q23, Q24, Q25, Q26, Q27, Q28, Q29, Q30, Q31, Q32, Q33, Q35, Q36, Q37, Q38, Q39, Q40, Q41, Q42, Q43, Q44, Q45, Q46, Q47, Q48, Q49, Q50, Q51, Q52, Q53, Q54, Q55, Q56, Q57, Q58, Q59, Q60, Q61, Q62, Q63, Q64, Q65, Q66, Q67, Q68, Q69, Q70, Q71, Q72, Q73, Q99, Q100, Q101, Q102, Q103, Q74, Q75, Q77, Q78, Q79, Q80, Q81, Q82, Q83, Q84, clr, List.length_nil, List.length_cons, List.getElem?_cons_zero, List.getElem?_cons_succ, Nat.reduceAdd, Nat.zero_add, Nat.add_zero, Nat.reduceLeDiff, Nat.reduceSub, ↓reduceIte, List.drop_succ_cons, List.drop_zero, List.take_succ_cons, List.take_zero, Bool.false_eq_true, List.nil_append, List.cons_append, Bool.not_true, Bool.not_false, cond_true, cond_false, bne, Q85, Q86, Q87, Q88, Q89, Q90, Q91, Q92, Q93, Q94, Q95, Q96, Q97, Q98, Q110, Q111, Q116, Q117, Q118, Q119, Q120, Q121, Q122, Q123, Option.map_some, Option.map_none, Q34]; rfl
    | false =>
     rw [b1, b2, b3] at hok
     simp only [Bool.false_or, Bool.not_eq_true'] at hok
     subst hok
     simp only [c7, c7_0, c7_1, c7_2, cl, l0, l1, l2, b1, b2, b3, hch, sx, Q122, Q0, Q1, Q2, Q3, Q4, Q5, Q6, Q7, Q8, Q9, Q10, Q11, Q12, Q13, Q14, Q15, Q16, Q17, Q18, Q19, Q20, Q21, Q22, Q23, Q24, Q25, Q26, Q27, Q28, Q29, Q30, Q31, Q32, Q33, Q35, Q36, Q37, Q38, Q39, Q40, Q41, Q42, Q43, Q44, Q45, Q46, Q47, Q48, Q49, Q50, Q51, Q52, Q53, Q54, Q55, Q56, Q57, Q58, Q59, Q60, Q61, Q62, Q63, Q64, Q65, Q66, Q67, Q68, Q69, Q70, Q71, Q72, Q73, Q99, Q100, Q101, Q102, Q103, Q74, Q75, Q77, Q78, Q79, Q80, Q81, Q82, Q83, Q84, clr, List.length_nil, List.length_cons, List.getElem?_cons_zero, List.getElem?_cons_succ, Nat.reduceAdd, Nat.zero_add, Nat.add_zero, Nat.reduceLeDiff, Nat.reduceSub, ↓reduceIte, List.drop_succ_cons, List.drop_zero, List.take_succ_cons, List.take_zero, Bool.false_eq_true, List.nil_append, List.cons_append, Bool.not_true, Bool.not_false, cond_true, cond_false, bne, Q85, Q86, Q87, Q88, Q89, Q90, Q91, Q92, Q93, Q94, Q95, Q96, Q97, Q98, Q110, Q111, Q116, Q117, Q118, Q119, Q120, Q121, Q122, Q123, Option.map_some, Option.map_none, Q34]; rfl
 | true =>
  have e : chkT ⟨nm, ar, vs, l⟩ = runT vs 0 (beginT ar) l := by simp only [chkT, checkT, hok]; rfl
  rw [e]
  simp only [okT, Bool.not_eq_true', Bool.or_eq_false_iff] at hok
  obtain ⟨b1, b2, b3, b4⟩ := hok
  have b4 : charT nm = true := by simpa using b4
  rw [b4] at hch
  obtain ⟨n, rfl⟩ := Int.eq_ofNat_of_zero_le (show 0 ≤ ar by simp at b1; omega)
  have hn : n ≤ 16 := by simp at b2; omega
  let K := l.length + 100
  have b0 : (AV.v (.string nm)).below1 0 = true := rfl
  have b3' : c3.below1 0 = true := by cases hs <;> rfl
  obtain ⟨x5, R, hR, g1⟩ := regs_loop (c0 := .v (.string nm)) (c1 := n) (c2 := vs) (c3 := c3) (K := K) hn (by omega) (p := 0) (o := 0) (u := 0) (hd := true) (ov := false) [.agg [.v (.string nm), .v (.int .i64 n), .v (.int .i64 vs), c3], .ptr 0 0, .v (.int .i64 0), .v (.int .i64 0), .ptr 3 0, .v undef, .v undef, .v undef, .v undef, .v undef, .v undef, .v (.bool false), .v (.int .i64 n), .v (.int .i64 0), .v undef, .v undef, .v undef, .v undef, .v undef, .v undef, .v undef] rfl
  obtain ⟨ex, v', h', g2, g3⟩ := check_loop (c0 := .v (.string nm)) (c1 := n) (c2 := vs) (c3 := c3) b0 b3' (K := K) hs hes (by omega) (by omega) (R := R) (N := m0) (s := beginT n) hR (Seen.nil _) [.junk, .ptr 0 0, .junk, .junk, .ptr 3 0, x5, .junk, .junk, .junk, .junk, .junk, .junk, .v (.int .i64 n), .v (.int .i64 n), .v (.bool false), c3, .v (.int .i64 l.length), .v (.int .i64 0), .junk, .junk, .junk] rfl
  have nl := fun h : List AO => hs.len h
  rw [hel] at nl
  have hv3 : ∀ R, Q76 (vH (.v (.string nm)) n vs c3 R m0 0 0 0 true false []) false 1 (.ptr 0 3) = some c3 := fun _ => rfl
  have hv1 : ∀ R, Q76 (vH (.v (.string nm)) n vs c3 R m0 0 0 0 true false []) false 1 (.ptr 0 1) = some (.v (.int .i64 n)) := fun _ => rfl
  have vh0 : [AO.box 24 [.v (.string nm), .v (.int .i64 n), .v (.int .i64 vs), c3], .map (.int .i64) 0 [], .map (.int .i64) 0 [], .box 46 [.v (.string nm), .v (.int .i64 n), .v (.int .i64 vs), c3, .mp 1, .mp 2, .v (.int .i64 0), .v (.int .i64 0), .v (.int .i64 0), .v (.bool true), .v (.bool false)]] = vH (.v (.string nm)) n vs c3 m0 m0 0 0 0 true false [] := rfl
  have pre : ∀ rest : CC, exec (callW F) K (.seq (.region [] [] c7_0) (.seq (.seq (.region [] [] c7_1) (.cond (.var 11) (.seq (.region [] [] c7_2) .ret) .skip)) (.seq (.region [] [] c7_3) (.seq (.seq (.region [] [] c7_4) (.block 0 (.loop K9a [] c7_9))) rest)))) [.agg [.v (.string nm), .v (.int .i64 n), .v (.int .i64 vs), c3], .v undef, .v undef, .v undef, .v undef, .v undef, .v undef, .v undef, .v undef, .v undef, .v undef, .v undef, .v undef, .v undef, .v undef, .v undef, .v undef, .v undef, .v undef, .v undef, .v undef] [] =
    exec (callW F) K rest [.junk, .ptr 0 0, .junk, .junk, .ptr 3 0, x5, .junk, .junk, .junk, .junk, .junk, .junk, .v (.int .i64 n), .v (.int .i64 n), .v (.bool false), .junk, .junk, .junk, .junk, .junk, .junk] (vH (.v (.string nm)) n vs c3 R m0 0 0 0 true false []) := by
   intro rest
   simp only [V9a] at g1
   generalize c7_9 = bb at g1 ⊢
   have clA : (AV.agg [.v (.string nm), .v (.int .i64 n), .v (.int .i64 vs), c3, .mp 1, .mp 2, .v (.int .i64 0), .v (.int .i64 0), .v (.int .i64 0), .v (.bool true), .v (.bool false)]).cl = some [.v (.string nm), .v (.int .i64 n), .v (.int .i64 vs), c3, .mp 1, .mp 2, .v (.int .i64 0), .v (.int .i64 0), .v (.int .i64 0), .v (.bool true), .v (.bool false)] := by cases hs <;> rfl
   have clm : ∀ i, (AV.mp i).cl = some [.mp i] := fun _ => rfl
   have clt : ∀ b, (AV.v (.bool b)).cl = some [.v (.bool b)] := fun _ => rfl
   simp only [c7_0, c7_1, c7_3, c7_4, cl, clA, clm, clt, l0, l1, l2, la, b1, b2, b3, hch, sx, vh0, hv1, g1, e_mkmap, Q106, Q107, Q108, Q109, bd1, toL, List.map_cons, List.map_nil, ofVal, Q112, List.set_cons_zero, List.set_cons_succ, and_self, Nat.le_refl, Q122, Q0, Q1, Q2, Q3, Q4, Q5, Q6, Q7, Q8, Q9, Q10, Q11, Q12, Q13, Q14, Q15, Q16, Q17, Q18, Q19, Q20, Q21, Q22, Q23, Q24, Q25, Q26, Q27, Q28, Q29, Q30, Q31, Q32, Q33, Q35, Q36, Q37, Q38, Q39, Q40, Q41, Q42, Q43, Q44, Q45, Q46, Q47, Q48, Q49, Q50, Q51, Q52, Q53, Q54, Q55, Q56, Q57, Q58, Q59, Q60, Q61, Q62, Q63, Q64, Q65, Q66, Q67, Q68, Q69, Q70, Q71, Q72, Q73, Q99, Q100, Q101, Q102, Q103, Q74, Q75, Q77, Q78, Q79, Q80, Q81, Q82, Q83, Q84, clr, List.length_nil, List.length_cons, List.getElem?_cons_zero, List.getElem?_cons_succ, Nat.reduceAdd, Nat.zero_add, Nat.add_zero, Nat.reduceLeDiff, Nat.reduceSub, ↓reduceIte, List.drop_succ_cons, List.drop_zero, List.take_succ_cons, List.take_zero, Bool.false_eq_true, List.nil_append, List.cons_append, Bool.not_true, Bool.not_false, cond_true, cond_false, bne, Q85, Q86, Q87, Q88, Q89, Q90, Q91, Q92, Q93, Q94, Q95, Q96, Q97, Q98, Q110, Q111, Q116, Q117, Q118, Q119, Q120, Q121, Q122, Q123, Option.map_some, Option.map_none, Q34]
  have g2' : loopN (exec (callW F) K c7_18) K9b K [.junk, .ptr 0 0, .junk, .junk, .ptr 3 0, x5, .junk, .junk, .junk, .junk, .junk, .junk, .v (.int .i64 n), .v (.int .i64 n), .v (.bool false), c3, .v (.int .i64 l.length), .v (.int .i64 0), .junk, .junk, .junk] (vH (.v (.string nm)) n vs c3 R m0 0 0 0 true false []) = some (ex, v', h') := g2
  refine callW_pure (c := c7) rfl rfl K ?_
  rw [st9, hres, show c7.body = (.seq (.region [] [] c7_0) (.seq (.seq (.region [] [] c7_1) (.cond (.var 11) (.seq (.region [] [] c7_2) .ret) .skip)) (.seq (.region [] [] c7_3) (.seq (.seq (.region [] [] c7_4) (.block 0 (.loop K9a [] c7_9))) (.seq (.seq (.region [] [] c7_10) (.block 2 (.loop K9b [] c7_18))) (.seq (.seq (.region [] [] c7_19) (.cond (.var 20) (.seq (.region [] [] c7_20) .ret) .skip)) (.seq (.region [] [] c7_21) .ret))))))) from rfl, pre]
  rcases g3 with ⟨rfl, e2, e3⟩ | ⟨rfl, ⟨x18, rfl⟩, R', N', s', T, rfl, hr⟩
  ·generalize c7_18 = bb at g2' ⊢
   simp only [c7_10, hv3, nl, g2', Q0, Q1, Q2, Q3, Q4, Q5, Q6, Q7, Q8, Q9, Q10, Q11, Q12, Q13, Q14, Q15, Q16, Q17, Q18, Q19, Q20, Q21, Q22, Q23, Q24, Q25, Q26, Q27, Q28, Q29, Q30, Q31, Q32, Q33, Q35, Q36, Q37, Q38, Q39, Q40, Q41, Q42, Q43, Q44, Q45, Q46, Q47, Q48, Q49, Q50, Q51, Q52, Q53, Q54, Q55, Q56, Q57, Q58, Q59, Q60, Q61, Q62, Q63, Q64, Q65, Q66, Q67, Q68, Q69, Q70, Q71, Q72, Q73, Q99, Q100, Q101, Q102, Q103, Q74, Q75, Q77, Q78, Q79, Q80, Q81, Q82, Q83, Q84, clr, List.length_nil, List.length_cons, List.getElem?_cons_zero, List.getElem?_cons_succ, Nat.reduceAdd, Nat.zero_add, Nat.add_zero, Nat.reduceLeDiff, Nat.reduceSub, ↓reduceIte, List.drop_succ_cons, List.drop_zero, List.take_succ_cons, List.take_zero, Bool.false_eq_true, List.nil_append, List.cons_append, Bool.not_true, Bool.not_false, cond_true, cond_false, bne, Q85, Q86, Q87, Q88, Q89, Q90, Q91, Q92, Q93, Q94, Q95, Q96, Q97, Q98, Q110, Q111, Q116, Q117, Q118, Q119, Q120, Q121, Q122, Q123, Option.map_some, Option.map_none]
   exact lv2_two e2 e3
  ·have hv3' : Q76 (vS (.v (.string nm)) n vs c3 R' N' s' T) false 1 (.ptr 0 3) = some c3 := rfl
   have hv10 : Q76 (vS (.v (.string nm)) n vs c3 R' N' s' T) false 1 (.ptr 3 10) = some (.v (.bool s'.over)) := rfl
   rw [hr]
   generalize c7_18 = bb at g2' ⊢
   cases hov : s'.over with
   | true =>
    rw [hov] at hv10
    simp only [c7_10, c7_19, c7_21, hv3, nl, g2', hv10, Q0, Q1, Q2, Q3, Q4, Q5, Q6, Q7, Q8, Q9, Q10, Q11, Q12, Q13, Q14, Q15, Q16, Q17, Q18, Q19, Q20, Q21, Q22, Q23, Q24, Q25, Q26, Q27, Q28, Q29, Q30, Q31, Q32, Q33, Q35, Q36, Q37, Q38, Q39, Q40, Q41, Q42, Q43, Q44, Q45, Q46, Q47, Q48, Q49, Q50, Q51, Q52, Q53, Q54, Q55, Q56, Q57, Q58, Q59, Q60, Q61, Q62, Q63, Q64, Q65, Q66, Q67, Q68, Q69, Q70, Q71, Q72, Q73, Q99, Q100, Q101, Q102, Q103, Q74, Q75, Q77, Q78, Q79, Q80, Q81, Q82, Q83, Q84, clr, List.length_nil, List.length_cons, List.getElem?_cons_zero, List.getElem?_cons_succ, Nat.reduceAdd, Nat.zero_add, Nat.add_zero, Nat.reduceLeDiff, Nat.reduceSub, ↓reduceIte, List.drop_succ_cons, List.drop_zero, List.take_succ_cons, List.take_zero, Bool.false_eq_true, List.nil_append, List.cons_append, Bool.not_true, Bool.not_false, cond_true, cond_false, bne, Q85, Q86, Q87, Q88, Q89, Q90, Q91, Q92, Q93, Q94, Q95, Q96, Q97, Q98, Q110, Q111, Q116, Q117, Q118, Q119, Q120, Q121, Q122, Q123, Option.map_some, Option.map_none]
    rfl
   | false =>
    rw [hov] at hv10
    simp only [c7_10, c7_19, c7_20, hv3, hv3', nl, g2', hv10, Q0, Q1, Q2, Q3, Q4, Q5, Q6, Q7, Q8, Q9, Q10, Q11, Q12, Q13, Q14, Q15, Q16, Q17, Q18, Q19, Q20, Q21, Q22, Q23, Q24, Q25, Q26, Q27, Q28, Q29, Q30, Q31, Q32, Q33, Q35, Q36, Q37, Q38, Q39, Q40, Q41, Q42, Q43, Q44, Q45, Q46, Q47, Q48, Q49, Q50, Q51, Q52, Q53, Q54, Q55, Q56, Q57, Q58, Q59, Q60, Q61, Q62, Q63, Q64, Q65, Q66, Q67, Q68, Q69, Q70, Q71, Q72, Q73, Q99, Q100, Q101, Q102, Q103, Q74, Q75, Q77, Q78, Q79, Q80, Q81, Q82, Q83, Q84, clr, List.length_nil, List.length_cons, List.getElem?_cons_zero, List.getElem?_cons_succ, Nat.reduceAdd, Nat.zero_add, Nat.add_zero, Nat.reduceLeDiff, Nat.reduceSub, ↓reduceIte, List.drop_succ_cons, List.drop_zero, List.take_succ_cons, List.take_zero, Bool.false_eq_true, List.nil_append, List.cons_append, Bool.not_true, Bool.not_false, cond_true, cond_false, bne, Q85, Q86, Q87, Q88, Q89, Q90, Q91, Q92, Q93, Q94, Q95, Q96, Q97, Q98, Q110, Q111, Q116, Q117, Q118, Q119, Q120, Q121, Q122, Q123, Option.map_some, Option.map_none]
    rfl
end Go.AE.YtghgbbiklkpbnaaDoor.Chk
end

section
namespace Go.AE.YtghgbbiklkpbnaaDoor
open Go Go.AE Go.Proofs.YtghgbbiklkpbnaaDoor

theorem has33_loop {K : Nat} {c : AV} {es : List AV} (hs : Sl 1 c es) (hm : es.length ≤ 1000000) (n : Int) :
  ∀ (l : List Int) (i : Nat) (h : List AO) (vars : List AV), i + l.length = es.length → es.drop i = l.map iv → clr K38 vars = L38 n c es.length i →
   (l.contains n = true ∧ ∃ vs, loopN (exec (callW F) K c33_7) K38 (l.length + 1) vars h = some (.ret, vs, h) ∧ getO vs [] (.var 2) = .v (.bool true)) ∨ (l.contains n = false ∧ ∃ vs, loopN (exec (callW F) K c33_7) K38 (l.length + 1) vars h = some (.exit 0, vs, h) ∧ vs.length = 9) := by
 intro l
 induction l with
 | nil =>
  intro i h vars hi _ hv
  have hil : i = es.length := by simpa using hi
  subst hil
  have hlt : decide ((es.length : Int) < (es.length : Int)) = false := by simp
  refine .inr ⟨rfl, [.junk, .v (.int .i64 n), .junk, .junk, c, .v (.int .i64 es.length), .v (.int .i64 es.length), .v (.bool false), .junk], loop_exit ?_, rfl⟩
  rw [hv]
  simp only [L38, c33_7, c33_2, hlt, Q104, Q105, bs1, bs2, Q106, Q107, Q108, Q109, bd1, Q110, Q111, toL, List.map_cons, List.map_nil, Q112, List.set_cons_zero, List.set_cons_succ, and_self, Nat.le_refl, Q114, Q115, Q116, Q0, Q1, Q2, Q3, Q4, Q5, Q6, Q7, Q8, Q9, Q10, Q11, Q12, Q13, Q14, Q15, Q16, Q17, Q18, Q19, Q20, Q21, Q22, Q23, Q24, Q25, Q26, Q27, Q28, Q29, Q30, Q31, Q32, Q33, Q34, Q35, Q36, Q37, Q38, Q39, Q40, Q41, Q42, Q43, Q44, Q45, Q46, Q47, Q48, Q49, Q50, Q51, Q52, Q53, Q54, Q55, Q56, Q57, Q58, Q59, Q60, Q61, Q62, Q63, Q64, Q65, Q66, Q67, Q68, Q69, Q70, Q71, Q72, Q73, AV.cl, Q74, Q75, Q76, Q77, Q78, Q79, Q80, Q81, Q82, Q83, Q84, clr, List.length_nil, List.length_cons, List.getElem?_cons_zero, List.getElem?_cons_succ, Nat.reduceAdd, Nat.zero_add, Nat.add_zero, Nat.reduceLeDiff, Nat.reduceSub, ↓reduceIte, List.drop_succ_cons, List.drop_zero, List.take_succ_cons, List.take_zero, Bool.false_eq_true, List.nil_append, List.cons_append, Bool.not_true, Bool.not_false, cond_true, cond_false, bne, Q85, Q86, Q87, Q88, Q89, Q90, Q91, Q92, Q93, Q94, Q95, Q96, Q97, Q98]
 | cons k l ih =>
  intro i h vars hi hes hv
  have hil : i < es.length := by simp at hi; omega
  have he : es[i]? = some (iv k) := by
   have : (es.drop i)[0]? = some (iv k) := by rw [hes]; rfl
   simpa using this
  have hd : es.drop (i + 1) = l.map iv := by
   have h2 := congrArg List.tail hes
   simpa using h2
  have hlt : (decide ((i : Int) < (es.length : Int))) = true := by simp; omega
  have q1 := hs.ia he
  by_cases hk : n = k
  ·left
   subst hk
   have he : ((n == n) : Bool) = true := by simp
   refine ⟨by simp, [.junk, .v (.int .i64 n), .v (.bool true), .v (.int .i64 n), c, .v (.int .i64 es.length), .v (.int .i64 i), .v (.bool true), .v (.bool true)], loop_ret ?_, rfl⟩
   rw [hv]
   simp only [L38, iv, AV.cells, c33_7, c33_2, c33_3, c33_4, c33_5, hlt, he, q1, Q104, Q105, bs1, bs2, Q106, Q107, Q108, Q109, bd1, Q110, Q111, toL, List.map_cons, List.map_nil, Q112, List.set_cons_zero, List.set_cons_succ, and_self, Nat.le_refl, Q114, Q115, Q116, Q0, Q1, Q2, Q3, Q4, Q5, Q6, Q7, Q8, Q9, Q10, Q11, Q12, Q13, Q14, Q15, Q16, Q17, Q18, Q19, Q20, Q21, Q22, Q23, Q24, Q25, Q26, Q27, Q28, Q29, Q30, Q31, Q32, Q33, Q34, Q35, Q36, Q37, Q38, Q39, Q40, Q41, Q42, Q43, Q44, Q45, Q46, Q47, Q48, Q49, Q50, Q51, Q52, Q53, Q54, Q55, Q56, Q57, Q58, Q59, Q60, Q61, Q62, Q63, Q64, Q65, Q66, Q67, Q68, Q69, Q70, Q71, Q72, Q73, AV.cl, Q74, Q75, Q76, Q77, Q78, Q79, Q80, Q81, Q82, Q83, Q84, clr, List.length_nil, List.length_cons, List.getElem?_cons_zero, List.getElem?_cons_succ, Nat.reduceAdd, Nat.zero_add, Nat.add_zero, Nat.reduceLeDiff, Nat.reduceSub, ↓reduceIte, List.drop_succ_cons, List.drop_zero, List.take_succ_cons, List.take_zero, Bool.false_eq_true, List.nil_append, List.cons_append, Bool.not_true, Bool.not_false, cond_true, cond_false, bne, Q85, Q86, Q87, Q88, Q89, Q90, Q91, Q92, Q93, Q94, Q95, Q96, Q97, Q98]
  ·have he : ((k == n) : Bool) = false := by simpa using fun e => hk e.symm
   have st : exec (callW F) K c33_7 (L38 n c es.length i) h = some (.normal, [.junk, .v (.int .i64 n), .junk, .v (.int .i64 k), c, .v (.int .i64 es.length), .v (.int .i64 ((i + 1 : Nat) : Int)), .v (.bool true), .v (.bool false)], h) := by
    have : maxLen = 9223372036854775807 := rfl
    simp only [L38, iv, AV.cells, c33_7, c33_2, c33_3, c33_4, c33_6, hlt, he, wrap_succ hil (by omega), q1, Q104, Q105, bs1, bs2, Q106, Q107, Q108, Q109, bd1, Q110, Q111, toL, List.map_cons, List.map_nil, Q112, List.set_cons_zero, List.set_cons_succ, and_self, Nat.le_refl, Q114, Q115, Q116, Q0, Q1, Q2, Q3, Q4, Q5, Q6, Q7, Q8, Q9, Q10, Q11, Q12, Q13, Q14, Q15, Q16, Q17, Q18, Q19, Q20, Q21, Q22, Q23, Q24, Q25, Q26, Q27, Q28, Q29, Q30, Q31, Q32, Q33, Q34, Q35, Q36, Q37, Q38, Q39, Q40, Q41, Q42, Q43, Q44, Q45, Q46, Q47, Q48, Q49, Q50, Q51, Q52, Q53, Q54, Q55, Q56, Q57, Q58, Q59, Q60, Q61, Q62, Q63, Q64, Q65, Q66, Q67, Q68, Q69, Q70, Q71, Q72, Q73, AV.cl, Q74, Q75, Q76, Q77, Q78, Q79, Q80, Q81, Q82, Q83, Q84, clr, List.length_nil, List.length_cons, List.getElem?_cons_zero, List.getElem?_cons_succ, Nat.reduceAdd, Nat.zero_add, Nat.add_zero, Nat.reduceLeDiff, Nat.reduceSub, ↓reduceIte, List.drop_succ_cons, List.drop_zero, List.take_succ_cons, List.take_zero, Bool.false_eq_true, List.nil_append, List.cons_append, Bool.not_true, Bool.not_false, cond_true, cond_false, bne, Q85, Q86, Q87, Q88, Q89, Q90, Q91, Q92, Q93, Q94, Q95, Q96, Q97, Q98]
   rw [show (k :: l).length + 1 = (l.length + 1) + 1 from rfl, loop_normal (by rw [hv]; exact st)]
   have hc : (k :: l).contains n = l.contains n := by
    have : (n == k) = false := by simpa using hk
    rw [List.contains_cons, this, Bool.false_or]
   rw [hc]
   exact ih (i + 1) h _ (by simp at hi; omega) hd rfl
theorem has33_ok {c : AV} {ns : List Int} (hs : Sl 1 c (ns.map iv)) (hm : ns.length ≤ 1000000) (n : Int) : callW F 33 [c, .v (.int .i64 n)] [] = some (.v (.bool (ns.contains n)), []) := by
 refine callW_pure (c := c33) rfl rfl (ns.length + 1) ?_
 have key := has33_loop (K := ns.length + 1) hs (by simpa using hm) n ns 0 [] (L38 n c (ns.map iv).length (0 : Nat)) (by simp) rfl rfl
 show lv [.var 2] (exec (callW F) (ns.length + 1) (.seq (.region [] [] c33_0) (.seq (.seq (.region [] [] c33_1) (.block 0 (.loop K38 [] c33_7))) (.seq (.region [] [] c33_8) .ret))) _ _) = _
 generalize hrest : (CC.seq (.region [] [] c33_8) .ret) = rest
 simp only [c33, start, List.replicate, c33_0, c33_1, hs.len, Q104, Q105, bs1, bs2, Q106, Q107, Q108, Q109, bd1, Q110, Q111, toL, List.map_cons, List.map_nil, Q112, List.set_cons_zero, List.set_cons_succ, and_self, Nat.le_refl, Q114, Q115, Q116, Q0, Q1, Q2, Q3, Q4, Q5, Q6, Q7, Q8, Q9, Q10, Q11, Q12, Q13, Q14, Q15, Q16, Q17, Q18, Q19, Q20, Q21, Q22, Q23, Q24, Q25, Q26, Q27, Q28, Q29, Q30, Q31, Q32, Q33, Q34, Q35, Q36, Q37, Q38, Q39, Q40, Q41, Q42, Q43, Q44, Q45, Q46, Q47, Q48, Q49, Q50, Q51, Q52, Q53, Q54, Q55, Q56, Q57, Q58, Q59, Q60, Q61, Q62, Q63, Q64, Q65, Q66, Q67, Q68, Q69, Q70, Q71, Q72, Q73, AV.cl, Q74, Q75, Q76, Q77, Q78, Q79, Q80, Q81, Q82, Q83, Q84, clr, List.length_nil, List.length_cons, List.getElem?_cons_zero, List.getElem?_cons_succ, Nat.reduceAdd, Nat.zero_add, Nat.add_zero, Nat.reduceLeDiff, Nat.reduceSub, ↓reduceIte, List.drop_succ_cons, List.drop_zero, List.take_succ_cons, List.take_zero, Bool.false_eq_true, List.nil_append, List.cons_append, Bool.not_true, Bool.not_false, cond_true, cond_false, bne, Q85, Q86, Q87, Q88, Q89, Q90, Q91, Q92, Q93, Q94, Q95, Q96, Q97, Q98]
 rw [loop_cong (v2 := L38 n c (ns.map iv).length ((0 : Nat) : Int)) (by rfl)]
 rcases key with ⟨h0, vs, h1, h2⟩ | ⟨h0, vs, h1, h2⟩
 ·rw [h1, h0]
  simp only [Q18, Q14, h2, Q0, Q1, Q2, Q3, Q4, Q5, Q6, Q7, Q8, Q9, Q10, Q11, Q12, Q13, Q14, Q15, Q16, Q17, Q18, Q19, Q20, Q21, Q22, Q23, Q24, Q25, Q26, Q27, Q28, Q29, Q30, Q31, Q32, Q33, Q34, Q35, Q36, Q37, Q38, Q39, Q40, Q41, Q42, Q43, Q44, Q45, Q46, Q47, Q48, Q49, Q50, Q51, Q52, Q53, Q54, Q55, Q56, Q57, Q58, Q59, Q60, Q61, Q62, Q63, Q64, Q65, Q66, Q67, Q68, Q69, Q70, Q71, Q72, Q73, AV.cl, Q74, Q75, Q76, Q77, Q78, Q79, Q80, Q81, Q82, Q83, Q84, clr, List.length_nil, List.length_cons, List.getElem?_cons_zero, List.getElem?_cons_succ, Nat.reduceAdd, Nat.zero_add, Nat.add_zero, Nat.reduceLeDiff, Nat.reduceSub, ↓reduceIte, List.drop_succ_cons, List.drop_zero, List.take_succ_cons, List.take_zero, Bool.false_eq_true, List.nil_append, List.cons_append, Bool.not_true, Bool.not_false, cond_true, cond_false, bne, Q85, Q86, Q87, Q88, Q89, Q90, Q91, Q92, Q93, Q94, Q95, Q96, Q97, Q98]
 ·rw [h1, h0, ← hrest]
  match vs, h2 with
  | [a0, a1, a2, a3, a4, a5, a6, a7, a8], _ => simp only [c33_8, Q0, Q1, Q2, Q3, Q4, Q5, Q6, Q7, Q8, Q9, Q10, Q11, Q12, Q13, Q14, Q15, Q16, Q17, Q18, Q19, Q20, Q21, Q22, Q23, Q24, Q25, Q26, Q27, Q28, Q29, Q30, Q31, Q32, Q33, Q34, Q35, Q36, Q37, Q38, Q39, Q40, Q41, Q42, Q43, Q44, Q45, Q46, Q47, Q48, Q49, Q50, Q51, Q52, Q53, Q54, Q55, Q56, Q57, Q58, Q59, Q60, Q61, Q62, Q63, Q64, Q65, Q66, Q67, Q68, Q69, Q70, Q71, Q72, Q73, AV.cl, Q74, Q75, Q76, Q77, Q78, Q79, Q80, Q81, Q82, Q83, Q84, clr, List.length_nil, List.length_cons, List.getElem?_cons_zero, List.getElem?_cons_succ, Nat.reduceAdd, Nat.zero_add, Nat.add_zero, Nat.reduceLeDiff, Nat.reduceSub, ↓reduceIte, List.drop_succ_cons, List.drop_zero, List.take_succ_cons, List.take_zero, Bool.false_eq_true, List.nil_append, List.cons_append, Bool.not_true, Bool.not_false, cond_true, cond_false, bne, Q85, Q86, Q87, Q88, Q89, Q90, Q91, Q92, Q93, Q94, Q95, Q96, Q97, Q98]

structure RS where
 regs : List Int
 known : List Int
 parts : Int
 ofGet : Bool
 inHead : Bool
 under : Int
inductive Rk (H : List AO) : AV → List Int → Prop
 | nil : Rk H (.v (.slice none 0 0)) []
 | own (id ver kk : Nat) (l : List Int) (hr : H[id]? = some (.row 3 1 ver (l.map iv) kk)) (hk : kk ≤ l.length) : Rk H (.own 1 id ver 0 l.length) l
def rid : AV → Option Nat
 | .own _ id _ _ _ => some id
 | _ => none
def rC (c0 : AV) (c1 c2 : Int) (c3 x y : AV) (s : RS) : List AV := [c0, .v (.int .i64 c1), .v (.int .i64 c2), c3, x, y, .v (.int .i64 s.parts), .v (.bool s.ofGet), .v (.bool s.inHead), .v (.int .i64 s.under)]
def Bx (h h' : List AO) : Prop := h.length ≤ h'.length ∧ ∀ j bt cs, j ≠ 1 → h[j]? = some (.box bt cs) → h'[j]? = some (.box bt cs)
theorem Bx.refl (h : List AO) : Bx h h := ⟨Nat.le_refl _, fun _ _ _ _ e => e⟩
theorem Bx.trans {h h' h'' : List AO} (a : Bx h h') (b : Bx h' h'') : Bx h h'' := ⟨Nat.le_trans a.1 b.1, fun j bt cs n e => b.2 j bt cs n (a.2 j bt cs n e)⟩
theorem Bx.app (h l : List AO) : Bx h (h ++ l) := ⟨by simp, fun j bt cs _ e => his_get e⟩
theorem Bx.set1 {h : List AO} {o : AO} : Bx h (h.set 1 o) := ⟨by simp, fun j bt cs n e => by rw [List.getElem?_set_ne (Ne.symm n)]; exact e⟩
theorem Bx.setR {h : List AO} {id ver k : Nat} {L : List AV} {o : AO} (hr : h[id]? = some (.row 3 1 ver L k)) : Bx h (h.set id o) := by
 refine ⟨by simp, fun j bt cs n e => ?_⟩
 rw [List.getElem?_set_ne]
 ·exact e
 ·rintro rfl; rw [hr] at e; cases e
theorem Rk.of {H H' : List AO} {x : AV} {l : List Int} (r : Rk H x l) (e : ∀ id, rid x = some id → H'[id]? = H[id]?) : Rk H' x l := by
 cases r with
 | nil => exact .nil
 | own id ver kk l hr hk => exact .own id ver kk l ((e id rfl).trans hr) hk
theorem Rk.lt {H : List AO} {x : AV} {l : List Int} (r : Rk H x l) {id : Nat} (h : rid x = some id) : id < H.length ∧ ∃ ver kk, H[id]? = some (.row 3 1 ver (l.map iv) kk) := by
 cases r with
 | nil => cases h
 | own id' ver kk l hr hk =>
  cases h
  exact ⟨(List.getElem?_eq_some_iff.1 hr).1, ver, kk, hr⟩
theorem Rk.cl {H : List AO} {x : AV} {l : List Int} (r : Rk H x l) : x.cl = some [x] := by cases r <;> rfl
theorem Rk.below {H : List AO} {x : AV} {l : List Int} (r : Rk H x l) {n : Nat} (hn : ∀ id, rid x = some id → id < n) : x.below1 n = true := by
 cases r with
 | nil => rfl
 | own id ver kk l hr hk => simp [AV.below1, AV.below0, hn id rfl]
section
variable {c0 c3 : AV} {c1 c2 : Int} {s : RS} {h : List AO}
structure Sp (c0 : AV) (c1 c2 : Int) (c3 : AV) (h : List AO) (s : RS) : Prop where
 ex : ∃ x y, h[1]? = some (.box 54 (rC c0 c1 c2 c3 x y s)) ∧ Rk h x s.regs ∧ Rk h y s.known ∧ ∀ i, rid x = some i → rid y ≠ some i
 bel : h.all (AO.below h.length) = true
 b0 : c0.below1 0 = true
 b3 : c3.below1 0 = true
theorem Sp.two (p : Sp c0 c1 c2 c3 h s) : 1 < h.length := by
 obtain ⟨x, y, h1, _⟩ := p.ex
 exact (List.getElem?_eq_some_iff.1 h1).1
theorem Sp.app (p : Sp c0 c1 c2 c3 h s) {l : List AO} (hl : l.all (AO.below (h ++ l).length) = true) : Sp c0 c1 c2 c3 (h ++ l) s := by
 obtain ⟨x, y, h1, h2, h3, h4⟩ := p.ex
 refine ⟨⟨x, y, his_get h1, h2.of fun id hi => ?_, h3.of fun id hi => ?_, h4⟩, ?_, p.b0, p.b3⟩
 ·exact List.getElem?_append_left (h2.lt hi).1
 ·exact List.getElem?_append_left (h3.lt hi).1
 ·rw [List.all_append, Bool.and_eq_true]
  exact ⟨all_below_mono (by simp) p.bel, hl⟩
theorem Sp.lds (p : Sp c0 c1 c2 c3 h s) (l : List AO) : Q76 (h ++ l) false 1 (.ptr 1 2) = some (.v (.int .i64 c2)) ∧ Q76 (h ++ l) false 1 (.ptr 1 6) = some (.v (.int .i64 s.parts)) ∧ Q76 (h ++ l) false 1 (.ptr 1 7) = some (.v (.bool s.ofGet)) ∧ Q76 (h ++ l) false 1 (.ptr 1 8) = some (.v (.bool s.inHead)) ∧ Q76 (h ++ l) false 1 (.ptr 1 9) = some (.v (.int .i64 s.under)) := by
 obtain ⟨x, y, h1, _⟩ := p.ex
 have e := his_get (l := l) h1
 rw [bx_ld e, bx_ld e, bx_ld e, bx_ld e, bx_ld e]
 exact ⟨rfl, rfl, rfl, rfl, rfl⟩
theorem rC_below {x y : AV} {n : Nat} {t : RS} (h0 : c0.below1 0 = true) (h3 : c3.below1 0 = true) (hx : x.below1 n = true) (hy : y.below1 n = true) : (AO.box 54 (rC c0 c1 c2 c3 x y t)).below n = true := by
 have m0 : ∀ z : AV, z.below1 0 = true → z.below1 n = true := fun z hz => by
  have := all_below_mono (n := 0) (m := n) (Nat.zero_le _) (H := [.box 24 [z]]) (by simpa [AO.below] using hz)
  simpa [AO.below] using this
 simp [AO.below, rC, m0 c0 h0, m0 c3 h3, hx, hy]
 simp [AV.below1, AV.below0]
theorem all_set {H : List AO} {i : Nat} {o : AO} (hb : H.all (AO.below H.length) = true) (ho : o.below H.length = true) : (H.set i o).all (AO.below (H.set i o).length) = true := by
 rw [List.all_eq_true] at hb ⊢
 intro z hz
 rw [List.length_set]
 rcases List.mem_or_eq_of_mem_set hz with h' | rfl
 ·exact hb z h'
 ·exact ho
theorem Sp.has1 (p : Sp c0 c1 c2 c3 h s) (hm : s.regs.length ≤ 1000000) (n : Int) :
  ∃ M h', (∀ l : List AO, Q76 (h ++ l) false 1 (.ptr 1 4) = some M) ∧ (∀ l : List AO, cf (callW F) 33 (h ++ l) [M, .v (.int .i64 n)] = some (.v (.bool (s.regs.contains n)), h' ++ l)) ∧ Sp c0 c1 c2 c3 h' s ∧ h'.length = h.length ∧ Bx h h' := by
 obtain ⟨x, y, h1, h2, h3, h4⟩ := p.ex
 have ld : ∀ l : List AO, Q76 (h ++ l) false 1 (.ptr 1 4) = some x := fun l => by rw [bx_ld (his_get h1)]; simp [rC, Q77]
 refine ⟨x, ?_⟩
 generalize hr : s.regs = r at *
 cases h2 with
 | nil =>
  refine ⟨h, ld, fun l => ?_, p, rfl, .refl h⟩
  exact cf_of (vs := [.v (.slice none 0 0), .v (.int .i64 n)]) rfl rfl (has33_ok (ns := []) .nil (by simp) n)
 | own id ver kk l hr' hk =>
  have hlt := (List.getElem?_eq_some_iff.1 hr').1
  have hid1 : id ≠ 1 := by rintro rfl; rw [h1] at hr'; cases hr'
  have hra : ∀ k, rowAt (h ++ k) 1 id ver (0 + r.length) = some (r.map iv, kk) := fun k => row_at (his_get hr') (by simp)
  have hrt : ∀ k, rowT (h ++ k) id = 3 := fun k => by simp only [rowT, his_get hr']
  have hmm : (h.set id (.row 3 1 ver (r.map iv) (max kk (0 + r.length))))[id]? = some (.row 3 1 ver (r.map iv) (max kk (0 + r.length))) := by simp [hlt]
  refine ⟨h.set id (.row 3 1 ver (r.map iv) (max kk (0 + r.length))), ld, fun k => ?_, ⟨⟨.own 1 id ver 0 r.length, y, ?_, by rw [hr]; exact .own id ver _ r hmm (by omega), h3.of fun j hj => ?_, h4⟩, all_set p.bel rfl, p.b0, p.b3⟩, by simp, .setR hr'⟩
  ·refine cf_of (vs := [.slc 1 false false (r.map iv), .v (.int .i64 n)]) ?_ ?_ (has33_ok (.slc false false _) hm n)
   ·simp only [List.foldl_cons, List.foldl_nil, raise1, raise0, raise, hra k, hrt k]
    rw [List.set_append_left _ _ hlt]
   ·have : AV.snap1 (h.set id (.row 3 1 ver (r.map iv) (max kk (0 + r.length))) ++ k) (.own 1 id ver 0 r.length) = some (.slc 1 false false (r.map iv)) := by
     simp only [AV.snap1, AV.snap0, row_at (his_get hmm) (show 0 + r.length ≤ (r.map iv).length by simp)]
     rw [if_pos (Nat.le_max_right _ _), List.drop_zero, List.take_of_length_le (by simp)]
    simp only [List.mapM_cons, List.mapM_nil, this, snap_int, Option.pure_def, Option.bind_eq_bind, Option.bind_some]
  ·rw [List.getElem?_set_ne hid1]; exact h1
  ·rw [List.getElem?_set_ne]
   rintro rfl
   exact h4 id rfl hj
theorem Sp.has2 (p : Sp c0 c1 c2 c3 h s) (hm : s.known.length ≤ 1000000) (n : Int) :
  ∃ M h', (∀ l : List AO, Q76 (h ++ l) false 1 (.ptr 1 5) = some M) ∧ (∀ l : List AO, cf (callW F) 33 (h ++ l) [M, .v (.int .i64 n)] = some (.v (.bool (s.known.contains n)), h' ++ l)) ∧ Sp c0 c1 c2 c3 h' s ∧ h'.length = h.length ∧ Bx h h' := by
 obtain ⟨x, y, h1, h2, h3, h4⟩ := p.ex
 have ld : ∀ l : List AO, Q76 (h ++ l) false 1 (.ptr 1 5) = some y := fun l => by rw [bx_ld (his_get h1)]; simp [rC, Q77]
 refine ⟨y, ?_⟩
 generalize hr : s.known = r at *
 cases h3 with
 | nil =>
  refine ⟨h, ld, fun l => ?_, p, rfl, .refl h⟩
  exact cf_of (vs := [.v (.slice none 0 0), .v (.int .i64 n)]) rfl rfl (has33_ok (ns := []) .nil (by simp) n)
 | own id ver kk l hr' hk =>
  have hlt := (List.getElem?_eq_some_iff.1 hr').1
  have hid1 : id ≠ 1 := by rintro rfl; rw [h1] at hr'; cases hr'
  have hra : ∀ k, rowAt (h ++ k) 1 id ver (0 + r.length) = some (r.map iv, kk) := fun k => row_at (his_get hr') (by simp)
  have hrt : ∀ k, rowT (h ++ k) id = 3 := fun k => by simp only [rowT, his_get hr']
  have hmm : (h.set id (.row 3 1 ver (r.map iv) (max kk (0 + r.length))))[id]? = some (.row 3 1 ver (r.map iv) (max kk (0 + r.length))) := by simp [hlt]
  refine ⟨h.set id (.row 3 1 ver (r.map iv) (max kk (0 + r.length))), ld, fun k => ?_, ⟨⟨x, .own 1 id ver 0 r.length, ?_, h2.of fun j hj => ?_, by rw [hr]; exact .own id ver _ r hmm (by omega), h4⟩, all_set p.bel rfl, p.b0, p.b3⟩, by simp, .setR hr'⟩
  ·refine cf_of (vs := [.slc 1 false false (r.map iv), .v (.int .i64 n)]) ?_ ?_ (has33_ok (.slc false false _) hm n)
   ·simp only [List.foldl_cons, List.foldl_nil, raise1, raise0, raise, hra k, hrt k]
    rw [List.set_append_left _ _ hlt]
   ·have : AV.snap1 (h.set id (.row 3 1 ver (r.map iv) (max kk (0 + r.length))) ++ k) (.own 1 id ver 0 r.length) = some (.slc 1 false false (r.map iv)) := by
     simp only [AV.snap1, AV.snap0, row_at (his_get hmm) (show 0 + r.length ≤ (r.map iv).length by simp)]
     rw [if_pos (Nat.le_max_right _ _), List.drop_zero, List.take_of_length_le (by simp)]
    simp only [List.mapM_cons, List.mapM_nil, this, snap_int, Option.pure_def, Option.bind_eq_bind, Option.bind_some]
  ·rw [List.getElem?_set_ne hid1]; exact h1
  ·rw [List.getElem?_set_ne]
   rintro rfl
   exact h4 id hj rfl
end
end Go.AE.YtghgbbiklkpbnaaDoor
end

section
namespace Go.AE.YtghgbbiklkpbnaaDoor
open Go Go.AE Go.Proofs.YtghgbbiklkpbnaaDoor

def placeR (s : RS) (i : Op5) : Bool :=
 if 1 ≤ i.op ∧ i.op ≤ 5 then s.inHead && ((s.parts == 0) && s.regs.contains i.a)
 else if 6 ≤ i.op ∧ i.op ≤ 10 then decide (s.parts > 0) && s.ofGet
 else if 11 ≤ i.op ∧ i.op ≤ 15 then (s.parts == 0) && (decide (i.a ≥ 0) && ((decide (i.a < 16) || (i.op == 15)) && !(!s.inHead && s.regs.contains i.a)))
 else if 16 ≤ i.op ∧ i.op ≤ 20 then decide (s.parts > 0) && !s.ofGet
 else if 21 ≤ i.op ∧ i.op ≤ 23 then s.parts == 0
 else false
section
variable {c0 c3 : AV} {c1 c2 : Int} {s : RS} {h : List AO}
theorem in_lds (h' : List AO) (i : Op5) : Q76 (h' ++ [.box 41 (o5 i).cells]) false 1 (.ptr h'.length 0) = some (.v (.int .i64 i.op)) ∧ Q76 (h' ++ [.box 41 (o5 i).cells]) false 1 (.ptr h'.length 1) = some (.v (.int .i64 i.a)) ∧ Q76 (h' ++ [.box 41 (o5 i).cells]) false 1 (.ptr h'.length 2) = some (.v (.int .i64 i.b)) ∧ Q76 (h' ++ [.box 41 (o5 i).cells]) false 1 (.ptr h'.length 4) = some (.v (.int .i64 i.n)) := by
 rw [bx_ld bxl, bx_ld bxl, bx_ld bxl, bx_ld bxl]
 exact ⟨rfl, rfl, rfl, rfl⟩
theorem rplace_ok (p : Sp c0 c1 c2 c3 h s) (hm : s.regs.length ≤ 1000000) (i : Op5) : ∃ h', callW F 18 [.ptr 1 0, o5 i] h = some (.v (.bool (placeR s i)), h') ∧ Sp c0 c1 c2 c3 h' s ∧ h'.length = h.length ∧ Bx h h' := by
 have key : ∀ (b : Bool) (vars : List AV) (h' : List AO), h'.length = h.length → Sp c0 c1 c2 c3 h' s → vars.getD 3 .junk = .v (.bool b) → leave h.length c18 (some (.ret, vars, h' ++ [.box 41 (o5 i).cells])) = some (.v (.bool b), h') := fun b vars h' e q hv => leave1 e (by rw [← e]; exact q.bel) (i := 3) rfl hv
 obtain ⟨_, l6, l7, l8, _⟩ := p.lds [.box 41 (o5 i).cells]
 obtain ⟨i0, i1, i2, i4⟩ := in_lds h i
 obtain ⟨M, h1, ldM, hh, p1, e1, b1⟩ := p.has1 hm i.a
 have ldM0 := ldM [.box 41 (o5 i).cells]
 have hh0 := hh [.box 41 (o5 i).cells]
 have cl : (o5 i).cl = some (o5 i).cells := rfl
 have bx5 : bx h 41 (some (o5 i).cells) = some (.ptr h.length 0, h ++ [.box 41 (o5 i).cells]) := rfl
 have i0' : Q76 (h1 ++ [.box 41 (o5 i).cells]) false 1 (.ptr h.length 0) = some (.v (.int .i64 i.op)) := by rw [← e1]; exact (in_lds h1 i).1
 have i1' : Q76 (h1 ++ [.box 41 (o5 i).cells]) false 1 (.ptr h.length 1) = some (.v (.int .i64 i.a)) := by rw [← e1]; exact (in_lds h1 i).2.1
 obtain ⟨_, l6', _, _, _⟩ := p1.lds [.box 41 (o5 i).cells]
 generalize hC : o5 i = C at *
 generalize hco : s.regs.contains i.a = co at *
 have fin : ∀ (b : Bool) (vars : List AV) (h' : List AO), h'.length = h.length → Sp c0 c1 c2 c3 h' s → Bx h h' → vars.getD 3 .junk = .v (.bool b) → placeR s i = b → leave h.length c18 (exec (callW F) 0 c18.body (start c18 [.ptr 1 0, C]) (h ++ [])) = leave h.length c18 (some (.ret, vars, h' ++ [.box 41 C.cells])) →
   ∃ h', callW F 18 [.ptr 1 0, C] h = some (.v (.bool (placeR s i)), h') ∧ Sp c0 c1 c2 c3 h' s ∧ h'.length = h.length ∧ Bx h h' := by
  intro b vars h' e q bb hv hb he
  refine ⟨h', callW_own (c := c18) rfl rfl 0 ?_, q, e, bb⟩
  rw [he, hb]
  exact key b vars h' e q hv
 rw [List.append_nil] at fin
 by_cases A : 1 ≤ i.op ∧ i.op ≤ 5
 ·have g1 : decide (i.op ≥ 1) = true := decide_eq_true A.1
  have g5 : decide (i.op ≤ 5) = true := decide_eq_true A.2
  have hp : placeR s i = (s.inHead && ((s.parts == 0) && co)) := by rw [placeR, if_pos A, hco]
  cases hi : s.inHead with
  | false =>
   rw [hi] at l8 hp
   refine fin false [.ptr 1 0, C, .ptr h.length 0, .v (.bool false), .v undef, .v (.bool true), .v undef, .v undef, .v undef, .v undef] h rfl p (.refl h) rfl hp ?_
   congr 1
   simp only [c18, start, List.replicate, c18_0, c18_1, c18_2, cl, bx5, i0, g1, g5, l8, Q122, Q0, Q1, Q2, Q3, Q4, Q5, Q6, Q7, Q8, Q9, Q10, Q11, Q12, Q13, Q14, Q15, Q16, Q17, Q18, Q19, Q20, Q21, Q22, Q23, Q24, Q25, Q26, Q27, Q28, Q29, Q30, Q31, Q32, Q33, Q35, Q36, Q37, Q38, Q39, Q40, Q41, Q42, Q43, Q44, Q45, Q46, Q47, Q48, Q49, Q50, Q51, Q52, Q53, Q54, Q55, Q56, Q57, Q58, Q59, Q60, Q61, Q62, Q63, Q64, Q65, Q66, Q67, Q68, Q69, Q70, Q71, Q72, Q73, Q99, Q100, Q101, Q102, Q103, Q74, Q75, Q77, Q78, Q79, Q80, Q81, Q82, Q83, Q84, clr, List.length_nil, List.length_cons, List.getElem?_cons_zero, List.getElem?_cons_succ, Nat.reduceAdd, Nat.zero_add, Nat.add_zero, Nat.reduceLeDiff, Nat.reduceSub, ↓reduceIte, List.drop_succ_cons, List.drop_zero, List.take_succ_cons, List.take_zero, Bool.false_eq_true, List.nil_append, List.cons_append, Bool.not_true, Bool.not_false, cond_true, cond_false, bne, Q85, Q86, Q87, Q88, Q89, Q90, Q91, Q92, Q93, Q94, Q95, Q96, Q97, Q98, Q110, Q111, Q116, Q117, Q118, Q119, Q120, Q121, Q122, Q123, Option.map_some, Option.map_none]
  | true =>
   rw [hi] at l8 hp
   cases hz : (s.parts == 0) with
   | false =>
    rw [hz] at hp
    refine fin false [.ptr 1 0, C, .ptr h.length 0, .v (.bool false), .v undef, .v (.bool true), .v undef, .v undef, .v undef, .v undef] h rfl p (.refl h) rfl hp ?_
    congr 1
    simp only [c18, start, List.replicate, c18_0, c18_1, c18_2, cl, bx5, i0, g1, g5, l8, l6, hz, Q122, Q0, Q1, Q2, Q3, Q4, Q5, Q6, Q7, Q8, Q9, Q10, Q11, Q12, Q13, Q14, Q15, Q16, Q17, Q18, Q19, Q20, Q21, Q22, Q23, Q24, Q25, Q26, Q27, Q28, Q29, Q30, Q31, Q32, Q33, Q35, Q36, Q37, Q38, Q39, Q40, Q41, Q42, Q43, Q44, Q45, Q46, Q47, Q48, Q49, Q50, Q51, Q52, Q53, Q54, Q55, Q56, Q57, Q58, Q59, Q60, Q61, Q62, Q63, Q64, Q65, Q66, Q67, Q68, Q69, Q70, Q71, Q72, Q73, Q99, Q100, Q101, Q102, Q103, Q74, Q75, Q77, Q78, Q79, Q80, Q81, Q82, Q83, Q84, clr, List.length_nil, List.length_cons, List.getElem?_cons_zero, List.getElem?_cons_succ, Nat.reduceAdd, Nat.zero_add, Nat.add_zero, Nat.reduceLeDiff, Nat.reduceSub, ↓reduceIte, List.drop_succ_cons, List.drop_zero, List.take_succ_cons, List.take_zero, Bool.false_eq_true, List.nil_append, List.cons_append, Bool.not_true, Bool.not_false, cond_true, cond_false, bne, Q85, Q86, Q87, Q88, Q89, Q90, Q91, Q92, Q93, Q94, Q95, Q96, Q97, Q98, Q110, Q111, Q116, Q117, Q118, Q119, Q120, Q121, Q122, Q123, Option.map_some, Option.map_none]
   | true =>
    rw [hz] at hp
    refine fin co [.ptr 1 0, C, .ptr h.length 0, .v (.bool co), .v undef, .v (.bool true), .v undef, .v undef, .v undef, .v undef] h1 e1 p1 b1 rfl (by rw [hp]; rfl) ?_
    congr 1
    simp only [c18, start, List.replicate, c18_0, c18_1, c18_2, cl, bx5, i0, i1, g1, g5, l8, l6, hz, ldM0, e_callf, hh0, List.map_cons, List.map_nil, Q122, Q0, Q1, Q2, Q3, Q4, Q5, Q6, Q7, Q8, Q9, Q10, Q11, Q12, Q13, Q14, Q15, Q16, Q17, Q18, Q19, Q20, Q21, Q22, Q23, Q24, Q25, Q26, Q27, Q28, Q29, Q30, Q31, Q32, Q33, Q35, Q36, Q37, Q38, Q39, Q40, Q41, Q42, Q43, Q44, Q45, Q46, Q47, Q48, Q49, Q50, Q51, Q52, Q53, Q54, Q55, Q56, Q57, Q58, Q59, Q60, Q61, Q62, Q63, Q64, Q65, Q66, Q67, Q68, Q69, Q70, Q71, Q72, Q73, Q99, Q100, Q101, Q102, Q103, Q74, Q75, Q77, Q78, Q79, Q80, Q81, Q82, Q83, Q84, clr, List.length_nil, List.length_cons, List.getElem?_cons_zero, List.getElem?_cons_succ, Nat.reduceAdd, Nat.zero_add, Nat.add_zero, Nat.reduceLeDiff, Nat.reduceSub, ↓reduceIte, List.drop_succ_cons, List.drop_zero, List.take_succ_cons, List.take_zero, Bool.false_eq_true, List.nil_append, List.cons_append, Bool.not_true, Bool.not_false, cond_true, cond_false, bne, Q85, Q86, Q87, Q88, Q89, Q90, Q91, Q92, Q93, Q94, Q95, Q96, Q97, Q98, Q110, Q111, Q116, Q117, Q118, Q119, Q120, Q121, Q122, Q123, Option.map_some, Option.map_none]
 by_cases B : 6 ≤ i.op ∧ i.op ≤ 10
 ·have g1 : decide (i.op ≥ 1) = true := decide_eq_true (by omega)
  have g5 : decide (i.op ≤ 5) = false := decide_eq_false (by omega)
  have g6 : decide (i.op ≥ 6) = true := decide_eq_true B.1
  have g10 : decide (i.op ≤ 10) = true := decide_eq_true B.2
  have hp : placeR s i = (decide (s.parts > 0) && s.ofGet) := by rw [placeR, if_neg A, if_pos B]
  cases hz : decide (s.parts > 0) with
  | false =>
   rw [hz] at hp
   refine fin false [.ptr 1 0, C, .ptr h.length 0, .v (.bool false), .v undef, .v (.bool false), .v (.bool true), .v undef, .v undef, .v undef] h rfl p (.refl h) rfl hp ?_
   congr 1
   simp only [c18, start, List.replicate, c18_0, c18_1, c18_3, c18_4, cl, bx5, i0, g1, g5, g6, g10, l6, hz, Q122, Q0, Q1, Q2, Q3, Q4, Q5, Q6, Q7, Q8, Q9, Q10, Q11, Q12, Q13, Q14, Q15, Q16, Q17, Q18, Q19, Q20, Q21, Q22, Q23, Q24, Q25, Q26, Q27, Q28, Q29, Q30, Q31, Q32, Q33, Q35, Q36, Q37, Q38, Q39, Q40, Q41, Q42, Q43, Q44, Q45, Q46, Q47, Q48, Q49, Q50, Q51, Q52, Q53, Q54, Q55, Q56, Q57, Q58, Q59, Q60, Q61, Q62, Q63, Q64, Q65, Q66, Q67, Q68, Q69, Q70, Q71, Q72, Q73, Q99, Q100, Q101, Q102, Q103, Q74, Q75, Q77, Q78, Q79, Q80, Q81, Q82, Q83, Q84, clr, List.length_nil, List.length_cons, List.getElem?_cons_zero, List.getElem?_cons_succ, Nat.reduceAdd, Nat.zero_add, Nat.add_zero, Nat.reduceLeDiff, Nat.reduceSub, ↓reduceIte, List.drop_succ_cons, List.drop_zero, List.take_succ_cons, List.take_zero, Bool.false_eq_true, List.nil_append, List.cons_append, Bool.not_true, Bool.not_false, cond_true, cond_false, bne, Q85, Q86, Q87, Q88, Q89, Q90, Q91, Q92, Q93, Q94, Q95, Q96, Q97, Q98, Q110, Q111, Q116, Q117, Q118, Q119, Q120, Q121, Q122, Q123, Option.map_some, Option.map_none]
  | true =>
   rw [hz] at hp
   refine fin s.ofGet [.ptr 1 0, C, .ptr h.length 0, .v (.bool s.ofGet), .v undef, .v (.bool false), .v (.bool true), .v undef, .v undef, .v undef] h rfl p (.refl h) rfl (by rw [hp]; rfl) ?_
   congr 1
   simp only [c18, start, List.replicate, c18_0, c18_1, c18_3, c18_4, cl, bx5, i0, g1, g5, g6, g10, l6, l7, hz, Q122, Q0, Q1, Q2, Q3, Q4, Q5, Q6, Q7, Q8, Q9, Q10, Q11, Q12, Q13, Q14, Q15, Q16, Q17, Q18, Q19, Q20, Q21, Q22, Q23, Q24, Q25, Q26, Q27, Q28, Q29, Q30, Q31, Q32, Q33, Q35, Q36, Q37, Q38, Q39, Q40, Q41, Q42, Q43, Q44, Q45, Q46, Q47, Q48, Q49, Q50, Q51, Q52, Q53, Q54, Q55, Q56, Q57, Q58, Q59, Q60, Q61, Q62, Q63, Q64, Q65, Q66, Q67, Q68, Q69, Q70, Q71, Q72, Q73, Q99, Q100, Q101, Q102, Q103, Q74, Q75, Q77, Q78, Q79, Q80, Q81, Q82, Q83, Q84, clr, List.length_nil, List.length_cons, List.getElem?_cons_zero, List.getElem?_cons_succ, Nat.reduceAdd, Nat.zero_add, Nat.add_zero, Nat.reduceLeDiff, Nat.reduceSub, ↓reduceIte, List.drop_succ_cons, List.drop_zero, List.take_succ_cons, List.take_zero, Bool.false_eq_true, List.nil_append, List.cons_append, Bool.not_true, Bool.not_false, cond_true, cond_false, bne, Q85, Q86, Q87, Q88, Q89, Q90, Q91, Q92, Q93, Q94, Q95, Q96, Q97, Q98, Q110, Q111, Q116, Q117, Q118, Q119, Q120, Q121, Q122, Q123, Option.map_some, Option.map_none]
 by_cases D : 16 ≤ i.op ∧ i.op ≤ 20
 ·have g1 : decide (i.op ≥ 1) = true := decide_eq_true (by omega)
  have g5 : decide (i.op ≤ 5) = false := decide_eq_false (by omega)
  have g6 : decide (i.op ≥ 6) = true := decide_eq_true (by omega)
  have g10 : decide (i.op ≤ 10) = false := decide_eq_false (by omega)
  have g11 : decide (i.op ≥ 11) = true := decide_eq_true (by omega)
  have g15 : decide (i.op ≤ 15) = false := decide_eq_false (by omega)
  have g16 : decide (i.op ≥ 16) = true := decide_eq_true D.1
  have g20 : decide (i.op ≤ 20) = true := decide_eq_true D.2
  have hp : placeR s i = (decide (s.parts > 0) && !s.ofGet) := by rw [placeR, if_neg A, if_neg B, if_neg (by omega), if_pos D]
  cases hz : decide (s.parts > 0) with
  | false =>
   rw [hz] at hp
   refine fin false [.ptr 1 0, C, .ptr h.length 0, .v (.bool false), .v undef, .v (.bool false), .v (.bool false), .v (.bool false), .v (.bool true), .v undef] h rfl p (.refl h) rfl hp ?_
   congr 1
   simp only [c18, start, List.replicate, c18_0, c18_1, c18_3, c18_5, c18_8, c18_9, cl, bx5, i0, g1, g5, g6, g10, g11, g15, g16, g20, l6, hz, Q122, Q0, Q1, Q2, Q3, Q4, Q5, Q6, Q7, Q8, Q9, Q10, Q11, Q12, Q13, Q14, Q15, Q16, Q17, Q18, Q19, Q20, Q21, Q22, Q23, Q24, Q25, Q26, Q27, Q28, Q29, Q30, Q31, Q32, Q33, Q35, Q36, Q37, Q38, Q39, Q40, Q41, Q42, Q43, Q44, Q45, Q46, Q47, Q48, Q49, Q50, Q51, Q52, Q53, Q54, Q55, Q56, Q57, Q58, Q59, Q60, Q61, Q62, Q63, Q64, Q65, Q66, Q67, Q68, Q69, Q70, Q71, Q72, Q73, Q99, Q100, Q101, Q102, Q103, Q74, Q75, Q77, Q78, Q79, Q80, Q81, Q82, Q83, Q84, clr, List.length_nil, List.length_cons, List.getElem?_cons_zero, List.getElem?_cons_succ, Nat.reduceAdd, Nat.zero_add, Nat.add_zero, Nat.reduceLeDiff, Nat.reduceSub, ↓reduceIte, List.drop_succ_cons, List.drop_zero, List.take_succ_cons, List.take_zero, Bool.false_eq_true, List.nil_append, List.cons_append, Bool.not_true, Bool.not_false, cond_true, cond_false, bne, Q85, Q86, Q87, Q88, Q89, Q90, Q91, Q92, Q93, Q94, Q95, Q96, Q97, Q98, Q110, Q111, Q116, Q117, Q118, Q119, Q120, Q121, Q122, Q123, Option.map_some, Option.map_none]
  | true =>
   rw [hz] at hp
   refine fin (!s.ofGet) [.ptr 1 0, C, .ptr h.length 0, .v (.bool !s.ofGet), .v undef, .v (.bool false), .v (.bool false), .v (.bool false), .v (.bool true), .v undef] h rfl p (.refl h) rfl (by rw [hp]; rfl) ?_
   congr 1
   simp only [c18, start, List.replicate, c18_0, c18_1, c18_3, c18_5, c18_8, c18_9, cl, bx5, i0, g1, g5, g6, g10, g11, g15, g16, g20, l6, l7, hz, Q122, Q0, Q1, Q2, Q3, Q4, Q5, Q6, Q7, Q8, Q9, Q10, Q11, Q12, Q13, Q14, Q15, Q16, Q17, Q18, Q19, Q20, Q21, Q22, Q23, Q24, Q25, Q26, Q27, Q28, Q29, Q30, Q31, Q32, Q33, Q35, Q36, Q37, Q38, Q39, Q40, Q41, Q42, Q43, Q44, Q45, Q46, Q47, Q48, Q49, Q50, Q51, Q52, Q53, Q54, Q55, Q56, Q57, Q58, Q59, Q60, Q61, Q62, Q63, Q64, Q65, Q66, Q67, Q68, Q69, Q70, Q71, Q72, Q73, Q99, Q100, Q101, Q102, Q103, Q74, Q75, Q77, Q78, Q79, Q80, Q81, Q82, Q83, Q84, clr, List.length_nil, List.length_cons, List.getElem?_cons_zero, List.getElem?_cons_succ, Nat.reduceAdd, Nat.zero_add, Nat.add_zero, Nat.reduceLeDiff, Nat.reduceSub, ↓reduceIte, List.drop_succ_cons, List.drop_zero, List.take_succ_cons, List.take_zero, Bool.false_eq_true, List.nil_append, List.cons_append, Bool.not_true, Bool.not_false, cond_true, cond_false, bne, Q85, Q86, Q87, Q88, Q89, Q90, Q91, Q92, Q93, Q94, Q95, Q96, Q97, Q98, Q110, Q111, Q116, Q117, Q118, Q119, Q120, Q121, Q122, Q123, Option.map_some, Option.map_none]
 by_cases E : 21 ≤ i.op ∧ i.op ≤ 23
 ·have g1 : decide (i.op ≥ 1) = true := decide_eq_true (by omega)
  have g5 : decide (i.op ≤ 5) = false := decide_eq_false (by omega)
  have g6 : decide (i.op ≥ 6) = true := decide_eq_true (by omega)
  have g10 : decide (i.op ≤ 10) = false := decide_eq_false (by omega)
  have g11 : decide (i.op ≥ 11) = true := decide_eq_true (by omega)
  have g15 : decide (i.op ≤ 15) = false := decide_eq_false (by omega)
  have g16 : decide (i.op ≥ 16) = true := decide_eq_true (by omega)
  have g20 : decide (i.op ≤ 20) = false := decide_eq_false (by omega)
  have g21 : decide (i.op ≥ 21) = true := decide_eq_true E.1
  have g23 : decide (i.op ≤ 23) = true := decide_eq_true E.2
  have hp : placeR s i = (s.parts == 0) := by rw [placeR, if_neg A, if_neg B, if_neg (by omega), if_neg D, if_pos E]
  refine fin (s.parts == 0) [.ptr 1 0, C, .ptr h.length 0, .v (.bool (s.parts == 0)), .v undef, .v (.bool false), .v (.bool false), .v (.bool false), .v (.bool false), .v (.bool true)] h rfl p (.refl h) rfl hp ?_
  congr 1
  simp only [c18, start, List.replicate, c18_0, c18_1, c18_3, c18_5, c18_8, c18_10, c18_11, cl, bx5, i0, g1, g5, g6, g10, g11, g15, g16, g20, g21, g23, l6, Q122, Q0, Q1, Q2, Q3, Q4, Q5, Q6, Q7, Q8, Q9, Q10, Q11, Q12, Q13, Q14, Q15, Q16, Q17, Q18, Q19, Q20, Q21, Q22, Q23, Q24, Q25, Q26, Q27, Q28, Q29, Q30, Q31, Q32, Q33, Q35, Q36, Q37, Q38, Q39, Q40, Q41, Q42, Q43, Q44, Q45, Q46, Q47, Q48, Q49, Q50, Q51, Q52, Q53, Q54, Q55, Q56, Q57, Q58, Q59, Q60, Q61, Q62, Q63, Q64, Q65, Q66, Q67, Q68, Q69, Q70, Q71, Q72, Q73, Q99, Q100, Q101, Q102, Q103, Q74, Q75, Q77, Q78, Q79, Q80, Q81, Q82, Q83, Q84, clr, List.length_nil, List.length_cons, List.getElem?_cons_zero, List.getElem?_cons_succ, Nat.reduceAdd, Nat.zero_add, Nat.add_zero, Nat.reduceLeDiff, Nat.reduceSub, ↓reduceIte, List.drop_succ_cons, List.drop_zero, List.take_succ_cons, List.take_zero, Bool.false_eq_true, List.nil_append, List.cons_append, Bool.not_true, Bool.not_false, cond_true, cond_false, bne, Q85, Q86, Q87, Q88, Q89, Q90, Q91, Q92, Q93, Q94, Q95, Q96, Q97, Q98, Q110, Q111, Q116, Q117, Q118, Q119, Q120, Q121, Q122, Q123, Option.map_some, Option.map_none]
 by_cases G : i.op < 1
 ·have g1 : decide (i.op ≥ 1) = false := decide_eq_false (by omega)
  have g6 : decide (i.op ≥ 6) = false := decide_eq_false (by omega)
  have g11 : decide (i.op ≥ 11) = false := decide_eq_false (by omega)
  have g16 : decide (i.op ≥ 16) = false := decide_eq_false (by omega)
  have g21 : decide (i.op ≥ 21) = false := decide_eq_false (by omega)
  have hp : placeR s i = false := by rw [placeR, if_neg A, if_neg B, if_neg (by omega), if_neg D, if_neg E]
  refine fin false [.ptr 1 0, C, .ptr h.length 0, .v (.bool false), .v undef, .v (.bool false), .v (.bool false), .v (.bool false), .v (.bool false), .v (.bool false)] h rfl p (.refl h) rfl hp ?_
  congr 1
  simp only [c18, start, List.replicate, c18_0, c18_1, c18_3, c18_5, c18_8, c18_10, c18_12, cl, bx5, i0, g1, g6, g11, g16, g21, Q122, Q0, Q1, Q2, Q3, Q4, Q5, Q6, Q7, Q8, Q9, Q10, Q11, Q12, Q13, Q14, Q15, Q16, Q17, Q18, Q19, Q20, Q21, Q22, Q23, Q24, Q25, Q26, Q27, Q28, Q29, Q30, Q31, Q32, Q33, Q35, Q36, Q37, Q38, Q39, Q40, Q41, Q42, Q43, Q44, Q45, Q46, Q47, Q48, Q49, Q50, Q51, Q52, Q53, Q54, Q55, Q56, Q57, Q58, Q59, Q60, Q61, Q62, Q63, Q64, Q65, Q66, Q67, Q68, Q69, Q70, Q71, Q72, Q73, Q99, Q100, Q101, Q102, Q103, Q74, Q75, Q77, Q78, Q79, Q80, Q81, Q82, Q83, Q84, clr, List.length_nil, List.length_cons, List.getElem?_cons_zero, List.getElem?_cons_succ, Nat.reduceAdd, Nat.zero_add, Nat.add_zero, Nat.reduceLeDiff, Nat.reduceSub, ↓reduceIte, List.drop_succ_cons, List.drop_zero, List.take_succ_cons, List.take_zero, Bool.false_eq_true, List.nil_append, List.cons_append, Bool.not_true, Bool.not_false, cond_true, cond_false, bne, Q85, Q86, Q87, Q88, Q89, Q90, Q91, Q92, Q93, Q94, Q95, Q96, Q97, Q98, Q110, Q111, Q116, Q117, Q118, Q119, Q120, Q121, Q122, Q123, Option.map_some, Option.map_none]
 by_cases J : i.op > 23
 ·have g1 : decide (i.op ≥ 1) = true := decide_eq_true (by omega)
  have g5 : decide (i.op ≤ 5) = false := decide_eq_false (by omega)
  have g6 : decide (i.op ≥ 6) = true := decide_eq_true (by omega)
  have g10 : decide (i.op ≤ 10) = false := decide_eq_false (by omega)
  have g11 : decide (i.op ≥ 11) = true := decide_eq_true (by omega)
  have g15 : decide (i.op ≤ 15) = false := decide_eq_false (by omega)
  have g16 : decide (i.op ≥ 16) = true := decide_eq_true (by omega)
  have g20 : decide (i.op ≤ 20) = false := decide_eq_false (by omega)
  have g21 : decide (i.op ≥ 21) = true := decide_eq_true (by omega)
  have g23 : decide (i.op ≤ 23) = false := decide_eq_false (by omega)
  have hp : placeR s i = false := by rw [placeR, if_neg A, if_neg B, if_neg (by omega), if_neg D, if_neg E]
  refine fin false [.ptr 1 0, C, .ptr h.length 0, .v (.bool false), .v undef, .v (.bool false), .v (.bool false), .v (.bool false), .v (.bool false), .v (.bool false)] h rfl p (.refl h) rfl hp ?_
  congr 1
  simp only [c18, start, List.replicate, c18_0, c18_1, c18_3, c18_5, c18_8, c18_10, c18_12, cl, bx5, i0, g1, g5, g6, g10, g11, g15, g16, g20, g21, g23, Q122, Q0, Q1, Q2, Q3, Q4, Q5, Q6, Q7, Q8, Q9, Q10, Q11, Q12, Q13, Q14, Q15, Q16, Q17, Q18, Q19, Q20, Q21, Q22, Q23, Q24, Q25, Q26, Q27, Q28, Q29, Q30, Q31, Q32, Q33, Q35, Q36, Q37, Q38, Q39, Q40, Q41, Q42, Q43, Q44, Q45, Q46, Q47, Q48, Q49, Q50, Q51, Q52, Q53, Q54, Q55, Q56, Q57, Q58, Q59, Q60, Q61, Q62, Q63, Q64, Q65, Q66, Q67, Q68, Q69, Q70, Q71, Q72, Q73, Q99, Q100, Q101, Q102, Q103, Q74, Q75, Q77, Q78, Q79, Q80, Q81, Q82, Q83, Q84, clr, List.length_nil, List.length_cons, List.getElem?_cons_zero, List.getElem?_cons_succ, Nat.reduceAdd, Nat.zero_add, Nat.add_zero, Nat.reduceLeDiff, Nat.reduceSub, ↓reduceIte, List.drop_succ_cons, List.drop_zero, List.take_succ_cons, List.take_zero, Bool.false_eq_true, List.nil_append, List.cons_append, Bool.not_true, Bool.not_false, cond_true, cond_false, bne, Q85, Q86, Q87, Q88, Q89, Q90, Q91, Q92, Q93, Q94, Q95, Q96, Q97, Q98, Q110, Q111, Q116, Q117, Q118, Q119, Q120, Q121, Q122, Q123, Option.map_some, Option.map_none]
 -- a put
 have hC3 : 11 ≤ i.op ∧ i.op ≤ 15 := by omega
 have g1 : decide (i.op ≥ 1) = true := decide_eq_true (by omega)
 have g5 : decide (i.op ≤ 5) = false := decide_eq_false (by omega)
 have g6 : decide (i.op ≥ 6) = true := decide_eq_true (by omega)
 have g10 : decide (i.op ≤ 10) = false := decide_eq_false (by omega)
 have g11 : decide (i.op ≥ 11) = true := decide_eq_true (by omega)
 have g15 : decide (i.op ≤ 15) = true := decide_eq_true (by omega)
 have hp : placeR s i = ((s.parts == 0) && (decide (i.a ≥ 0) && ((decide (i.a < 16) || (i.op == 15)) && !(!s.inHead && co)))) := by rw [placeR, if_neg A, if_neg B, if_pos hC3, hco]
 generalize hz : (s.parts == 0) = z at *
 generalize ha : decide (i.a ≥ 0) = za at *
 generalize hb : decide (i.a < 16) = zb at *
 generalize ho : (i.op == 15) = zo at *
 cases hi : s.inHead with
 | true =>
  rw [hi] at l8 hp
  refine fin (z && (za && ((zb || zo) && true))) [.ptr 1 0, C, .ptr h.length 0, .v (.bool (z && (za && ((zb || zo) && true)))), .v (.bool false), .v (.bool false), .v (.bool false), .v (.bool true), .v undef, .v undef] h rfl p (.refl h) rfl (by rw [hp]; simp) ?_
  congr 1
  cases z <;> cases za <;> cases zb <;> cases zo <;> simp only [c18, start, List.replicate, c18_0, c18_1, c18_3, c18_5, c18_6, c18_7, cl, bx5, i0, i1, g1, g5, g6, g10, g11, g15, l6, l8, hz, ha, hb, ho, Q122, Bool.not_true, Bool.not_false, Bool.true_and, Bool.false_and, Bool.true_or, Bool.false_or, Bool.and_true, Bool.and_false, Bool.or_true, Bool.or_false, Q0, Q1, Q2, Q3, Q4, Q5, Q6, Q7, Q8, Q9, Q10, Q11, Q12, Q13, Q14, Q15, Q16, Q17, Q18, Q19, Q20, Q21, Q22, Q23, Q24, Q25, Q26, Q27, Q28, Q29, Q30, Q31, Q32, Q33, Q35, Q36, Q37, Q38, Q39, Q40, Q41, Q42, Q43, Q44, Q45, Q46, Q47, Q48, Q49, Q50, Q51, Q52, Q53, Q54, Q55, Q56, Q57, Q58, Q59, Q60, Q61, Q62, Q63, Q64, Q65, Q66, Q67, Q68, Q69, Q70, Q71, Q72, Q73, Q99, Q100, Q101, Q102, Q103, Q74, Q75, Q77, Q78, Q79, Q80, Q81, Q82, Q83, Q84, clr, List.length_nil, List.length_cons, List.getElem?_cons_zero, List.getElem?_cons_succ, Nat.reduceAdd, Nat.zero_add, Nat.add_zero, Nat.reduceLeDiff, Nat.reduceSub, ↓reduceIte, List.drop_succ_cons, List.drop_zero, List.take_succ_cons, List.take_zero, Bool.false_eq_true, List.nil_append, List.cons_append, Bool.not_true, Bool.not_false, cond_true, cond_false, bne, Q85, Q86, Q87, Q88, Q89, Q90, Q91, Q92, Q93, Q94, Q95, Q96, Q97, Q98, Q110, Q111, Q116, Q117, Q118, Q119, Q120, Q121, Q122, Q123, Option.map_some, Option.map_none]
 | false =>
  rw [hi] at l8 hp
  refine fin (z && (za && ((zb || zo) && !co))) [.ptr 1 0, C, .ptr h.length 0, .v (.bool (z && (za && ((zb || zo) && !co)))), .v (.bool co), .v (.bool false), .v (.bool false), .v (.bool true), .v undef, .v undef] h1 e1 p1 b1 rfl (by rw [hp]; simp) ?_
  congr 1
  cases z <;> cases za <;> cases zb <;> cases zo <;> simp only [c18, start, List.replicate, c18_0, c18_1, c18_3, c18_5, c18_6, c18_7, cl, bx5, i0, i1, i0', i1', g1, g5, g6, g10, g11, g15, l6', l8, ldM0, e_callf, hh0, List.map_cons, List.map_nil, hz, ha, hb, ho, Q122, Bool.not_true, Bool.not_false, Bool.true_and, Bool.false_and, Bool.true_or, Bool.false_or, Bool.and_true, Bool.and_false, Bool.or_true, Bool.or_false, Q0, Q1, Q2, Q3, Q4, Q5, Q6, Q7, Q8, Q9, Q10, Q11, Q12, Q13, Q14, Q15, Q16, Q17, Q18, Q19, Q20, Q21, Q22, Q23, Q24, Q25, Q26, Q27, Q28, Q29, Q30, Q31, Q32, Q33, Q35, Q36, Q37, Q38, Q39, Q40, Q41, Q42, Q43, Q44, Q45, Q46, Q47, Q48, Q49, Q50, Q51, Q52, Q53, Q54, Q55, Q56, Q57, Q58, Q59, Q60, Q61, Q62, Q63, Q64, Q65, Q66, Q67, Q68, Q69, Q70, Q71, Q72, Q73, Q99, Q100, Q101, Q102, Q103, Q74, Q75, Q77, Q78, Q79, Q80, Q81, Q82, Q83, Q84, clr, List.length_nil, List.length_cons, List.getElem?_cons_zero, List.getElem?_cons_succ, Nat.reduceAdd, Nat.zero_add, Nat.add_zero, Nat.reduceLeDiff, Nat.reduceSub, ↓reduceIte, List.drop_succ_cons, List.drop_zero, List.take_succ_cons, List.take_zero, Bool.false_eq_true, List.nil_append, List.cons_append, Bool.not_true, Bool.not_false, cond_true, cond_false, bne, Q85, Q86, Q87, Q88, Q89, Q90, Q91, Q92, Q93, Q94, Q95, Q96, Q97, Q98, Q110, Q111, Q116, Q117, Q118, Q119, Q120, Q121, Q122, Q123, Option.map_some, Option.map_none]
end
end Go.AE.YtghgbbiklkpbnaaDoor
end

section
namespace Go.AE.YtghgbbiklkpbnaaDoor
open Go Go.AE Go.Proofs.YtghgbbiklkpbnaaDoor

section
variable {c0 c3 : AV} {c1 c2 : Int} {s : RS} {h : List AO}
def K34r : List Bool := [true, false, false, false, false, true, true, false, false]
def V34r (n j : Int) (x3 x7 x8 : AV) : List AV := [.ptr 1 0, .junk, .junk, x3, .junk, .v (.int .i64 n), .v (.int .i64 j), x7, x8]
def Same1 (c0 : AV) (c1 c2 : Int) (c3 : AV) (s : RS) (h h' : List AO) : Prop := Sp c0 c1 c2 c3 h' s ∧ h'.length = h.length ∧ Bx h h'
theorem calls34_loop {K : Nat} (hm : s.regs.length ≤ 1000000) {n : Nat} (hn : n ≤ 16) :
  ∀ (d j : Nat) (h : List AO) (l : List AO) (vars : List AV), j + d = n → Sp c0 c1 c2 c3 h s → clr K34r vars = V34r n j .junk .junk .junk → hasAllV s.regs j = true →
   ∃ h', Same1 c0 c1 c2 c3 s h h' ∧ ((hasAllV s.regs n = true ∧ loopN (exec (callW F) K c34_9) K34r (d + 1) vars (h ++ l) = some (.exit 0, V34r n n .junk (.v (.bool false)) .junk, h' ++ l)) ∨
    (hasAllV s.regs n = false ∧ ∃ vs', loopN (exec (callW F) K c34_9) K34r (d + 1) vars (h ++ l) = some (.ret, vs', h' ++ l) ∧ vs'.getD 2 .junk = .v (.bool false))) := by
 intro d
 induction d with
 | zero =>
  intro j h l vars hj p hv hall
  have hj : j = n := by omega
  subst hj
  have hlt := lt_f (n := j)
  refine ⟨h, ⟨p, rfl, .refl h⟩, .inl ⟨hall, ?_⟩⟩
  refine loop_exit ?_
  rw [hv]
  simp only [V34r, c34_9, c34_4, hlt, Q0, Q1, Q2, Q3, Q4, Q5, Q6, Q7, Q8, Q9, Q10, Q11, Q12, Q13, Q14, Q15, Q16, Q17, Q18, Q19, Q20, Q21, Q22, Q23, Q24, Q25, Q26, Q27, Q28, Q29, Q30, Q31, Q32, Q33, Q35, Q36, Q37, Q38, Q39, Q40, Q41, Q42, Q43, Q44, Q45, Q46, Q47, Q48, Q49, Q50, Q51, Q52, Q53, Q54, Q55, Q56, Q57, Q58, Q59, Q60, Q61, Q62, Q63, Q64, Q65, Q66, Q67, Q68, Q69, Q70, Q71, Q72, Q73, Q99, Q100, Q101, Q102, Q103, Q74, Q75, Q77, Q78, Q79, Q80, Q81, Q82, Q83, Q84, clr, List.length_nil, List.length_cons, List.getElem?_cons_zero, List.getElem?_cons_succ, Nat.reduceAdd, Nat.zero_add, Nat.add_zero, Nat.reduceLeDiff, Nat.reduceSub, ↓reduceIte, List.drop_succ_cons, List.drop_zero, List.take_succ_cons, List.take_zero, Bool.false_eq_true, List.nil_append, List.cons_append, Bool.not_true, Bool.not_false, cond_true, cond_false, bne, Q85, Q86, Q87, Q88, Q89, Q90, Q91, Q92, Q93, Q94, Q95, Q96, Q97, Q98, Q110, Q111, Q116, Q117, Q118, Q119, Q120, Q121, Q122, Q123, Option.map_some, Option.map_none]
 | succ d ih =>
  intro j h l vars hj p hv hall
  have hjn : j < n := by omega
  have hlt := lt_t hjn
  have hw := wrap_succ hjn (by have : maxLen = 9223372036854775807 := rfl; omega)
  obtain ⟨M, h1, ldM, hh, p1, e1, b1⟩ := p.has1 hm (j : Int)
  have ldM0 := ldM l
  have hh0 := hh l
  cases hs : s.regs.contains (j : Int) with
  | true =>
   rw [hs] at hh0
   have hall' : hasAllV s.regs (j + 1) = true := by
    have : hasAllV s.regs (j + 1) = (hasAllV s.regs j && s.regs.contains (j : Int)) := by simp [hasAllV, List.range_succ]
    rw [this, hall, hs]; rfl
   have st : exec (callW F) K c34_9 (V34r n j .junk .junk .junk) (h ++ l) = some (.normal, V34r n ((j + 1 : Nat) : Int) (.v (.int .i64 j)) (.v (.bool true)) (.v (.bool false)), h1 ++ l) := by
    simp only [V34r, c34_9, c34_4, c34_5, c34_6, c34_8, hlt, hw, ldM0, hh0, e_callf, List.map_cons, List.map_nil, Bool.not_true, Q0, Q1, Q2, Q3, Q4, Q5, Q6, Q7, Q8, Q9, Q10, Q11, Q12, Q13, Q14, Q15, Q16, Q17, Q18, Q19, Q20, Q21, Q22, Q23, Q24, Q25, Q26, Q27, Q28, Q29, Q30, Q31, Q32, Q33, Q35, Q36, Q37, Q38, Q39, Q40, Q41, Q42, Q43, Q44, Q45, Q46, Q47, Q48, Q49, Q50, Q51, Q52, Q53, Q54, Q55, Q56, Q57, Q58, Q59, Q60, Q61, Q62, Q63, Q64, Q65, Q66, Q67, Q68, Q69, Q70, Q71, Q72, Q73, Q99, Q100, Q101, Q102, Q103, Q74, Q75, Q77, Q78, Q79, Q80, Q81, Q82, Q83, Q84, clr, List.length_nil, List.length_cons, List.getElem?_cons_zero, List.getElem?_cons_succ, Nat.reduceAdd, Nat.zero_add, Nat.add_zero, Nat.reduceLeDiff, Nat.reduceSub, ↓reduceIte, List.drop_succ_cons, List.drop_zero, List.take_succ_cons, List.take_zero, Bool.false_eq_true, List.nil_append, List.cons_append, Bool.not_true, Bool.not_false, cond_true, cond_false, bne, Q85, Q86, Q87, Q88, Q89, Q90, Q91, Q92, Q93, Q94, Q95, Q96, Q97, Q98, Q110, Q111, Q116, Q117, Q118, Q119, Q120, Q121, Q122, Q123, Option.map_some, Option.map_none]
   rw [loop_normal (by rw [hv]; exact st)]
   obtain ⟨h', ⟨q1, q2, q3⟩, q4⟩ := ih (j + 1) h1 l (V34r n ((j + 1 : Nat) : Int) (.v (.int .i64 j)) (.v (.bool true)) (.v (.bool false))) (by omega) p1 rfl hall'
   exact ⟨h', ⟨q1, q2.trans e1, b1.trans q3⟩, q4⟩
  | false =>
   rw [hs] at hh0
   refine ⟨h1, ⟨p1, e1, b1⟩, .inr ⟨?_, [.ptr 1 0, .junk, .v (.bool false), .v (.int .i64 j), .junk, .v (.int .i64 n), .v (.int .i64 j), .v (.bool true), .v (.bool true)], ?_, rfl⟩⟩
   ·simp only [hasAllV, List.all_eq_false]
    exact ⟨j, by simpa using hjn, by simpa using hs⟩
   ·have st : exec (callW F) K c34_9 (V34r n j .junk .junk .junk) (h ++ l) = some (.ret, [.ptr 1 0, .junk, .v (.bool false), .v (.int .i64 j), .junk, .v (.int .i64 n), .v (.int .i64 j), .v (.bool true), .v (.bool true)], h1 ++ l) := by
     simp only [V34r, c34_9, c34_4, c34_5, c34_6, c34_7, hlt, ldM0, hh0, e_callf, List.map_cons, List.map_nil, Bool.not_false, Q0, Q1, Q2, Q3, Q4, Q5, Q6, Q7, Q8, Q9, Q10, Q11, Q12, Q13, Q14, Q15, Q16, Q17, Q18, Q19, Q20, Q21, Q22, Q23, Q24, Q25, Q26, Q27, Q28, Q29, Q30, Q31, Q32, Q33, Q35, Q36, Q37, Q38, Q39, Q40, Q41, Q42, Q43, Q44, Q45, Q46, Q47, Q48, Q49, Q50, Q51, Q52, Q53, Q54, Q55, Q56, Q57, Q58, Q59, Q60, Q61, Q62, Q63, Q64, Q65, Q66, Q67, Q68, Q69, Q70, Q71, Q72, Q73, Q99, Q100, Q101, Q102, Q103, Q74, Q75, Q77, Q78, Q79, Q80, Q81, Q82, Q83, Q84, clr, List.length_nil, List.length_cons, List.getElem?_cons_zero, List.getElem?_cons_succ, Nat.reduceAdd, Nat.zero_add, Nat.add_zero, Nat.reduceLeDiff, Nat.reduceSub, ↓reduceIte, List.drop_succ_cons, List.drop_zero, List.take_succ_cons, List.take_zero, Bool.false_eq_true, List.nil_append, List.cons_append, Bool.not_true, Bool.not_false, cond_true, cond_false, bne, Q85, Q86, Q87, Q88, Q89, Q90, Q91, Q92, Q93, Q94, Q95, Q96, Q97, Q98, Q110, Q111, Q116, Q117, Q118, Q119, Q120, Q121, Q122, Q123, Option.map_some, Option.map_none]
    simp only [loopN, hv, st]
theorem calls34_ok (p : Sp c0 c1 c2 c3 h s) (hm : s.regs.length ≤ 1000000) (n : Int) (l : List AO) (hl : l.all (AO.below (h ++ l).length) = true) :
  ∃ h', callW F 34 [.ptr 1 0, .v (.int .i64 n)] (h ++ l) = some (.v (.bool (callsV s.regs s.inHead n)), h' ++ l) ∧ Same1 c0 c1 c2 c3 s h h' := by
 have ld8 := fun l => (p.lds l).2.2.2.1
 have key : ∀ (b : Bool) (vars : List AV) (h' : List AO), Same1 c0 c1 c2 c3 s h h' → vars.getD 2 .junk = .v (.bool b) → leave (h ++ l).length c34 (some (.ret, vars, (h' ++ l) ++ [])) = some (.v (.bool b), h' ++ l) := by
  intro b vars h' q hv
  refine leave1 (by simp [q.2.1]) ?_ (i := 2) rfl hv
  rw [List.all_append, Bool.and_eq_true]
  refine ⟨all_below_mono ?_ q.1.bel, hl⟩
  rw [List.length_append]
  have := q.2.1
  omega
 simp only [List.append_nil] at key
 have fin : ∀ (b : Bool) (K : Nat) (vars : List AV) (h' : List AO), Same1 c0 c1 c2 c3 s h h' → vars.getD 2 .junk = .v (.bool b) → callsV s.regs s.inHead n = b → exec (callW F) K c34.body (start c34 [.ptr 1 0, .v (.int .i64 n)]) (h ++ l) = some (.ret, vars, h' ++ l) →
   ∃ h', callW F 34 [.ptr 1 0, .v (.int .i64 n)] (h ++ l) = some (.v (.bool (callsV s.regs s.inHead n)), h' ++ l) ∧ Same1 c0 c1 c2 c3 s h h' := by
  intro b K vars h' q hv hb he
  refine ⟨h', callW_code (c := c34) rfl rfl K ?_, q⟩
  rw [he, hb]
  exact key b vars h' q hv
 have same0 : Same1 c0 c1 c2 c3 s h h := ⟨p, rfl, .refl h⟩
 cases h1 : decide (n < 0) with
 | true =>
  refine fin false 0 [.ptr 1 0, .v (.int .i64 n), .v (.bool false), .v undef, .v (.bool true), .v undef, .v undef, .v undef, .v undef] h same0 rfl (by simp [callsV, h1]) ?_
  simp only [c34, start, List.replicate, c34_0, c34_1, c34_2, h1, Q122, Q0, Q1, Q2, Q3, Q4, Q5, Q6, Q7, Q8, Q9, Q10, Q11, Q12, Q13, Q14, Q15, Q16, Q17, Q18, Q19, Q20, Q21, Q22, Q23, Q24, Q25, Q26, Q27, Q28, Q29, Q30, Q31, Q32, Q33, Q35, Q36, Q37, Q38, Q39, Q40, Q41, Q42, Q43, Q44, Q45, Q46, Q47, Q48, Q49, Q50, Q51, Q52, Q53, Q54, Q55, Q56, Q57, Q58, Q59, Q60, Q61, Q62, Q63, Q64, Q65, Q66, Q67, Q68, Q69, Q70, Q71, Q72, Q73, Q99, Q100, Q101, Q102, Q103, Q74, Q75, Q77, Q78, Q79, Q80, Q81, Q82, Q83, Q84, clr, List.length_nil, List.length_cons, List.getElem?_cons_zero, List.getElem?_cons_succ, Nat.reduceAdd, Nat.zero_add, Nat.add_zero, Nat.reduceLeDiff, Nat.reduceSub, ↓reduceIte, List.drop_succ_cons, List.drop_zero, List.take_succ_cons, List.take_zero, Bool.false_eq_true, List.nil_append, List.cons_append, Bool.not_true, Bool.not_false, cond_true, cond_false, bne, Q85, Q86, Q87, Q88, Q89, Q90, Q91, Q92, Q93, Q94, Q95, Q96, Q97, Q98, Q110, Q111, Q116, Q117, Q118, Q119, Q120, Q121, Q122, Q123, Option.map_some, Option.map_none]
 | false =>
 cases h2 : decide (n > 16) with
 | true =>
  refine fin false 0 [.ptr 1 0, .v (.int .i64 n), .v (.bool false), .v undef, .v (.bool true), .v undef, .v undef, .v undef, .v undef] h same0 rfl (by simp [callsV, h2]) ?_
  simp only [c34, start, List.replicate, c34_0, c34_1, c34_2, h1, h2, Q122, Q0, Q1, Q2, Q3, Q4, Q5, Q6, Q7, Q8, Q9, Q10, Q11, Q12, Q13, Q14, Q15, Q16, Q17, Q18, Q19, Q20, Q21, Q22, Q23, Q24, Q25, Q26, Q27, Q28, Q29, Q30, Q31, Q32, Q33, Q35, Q36, Q37, Q38, Q39, Q40, Q41, Q42, Q43, Q44, Q45, Q46, Q47, Q48, Q49, Q50, Q51, Q52, Q53, Q54, Q55, Q56, Q57, Q58, Q59, Q60, Q61, Q62, Q63, Q64, Q65, Q66, Q67, Q68, Q69, Q70, Q71, Q72, Q73, Q99, Q100, Q101, Q102, Q103, Q74, Q75, Q77, Q78, Q79, Q80, Q81, Q82, Q83, Q84, clr, List.length_nil, List.length_cons, List.getElem?_cons_zero, List.getElem?_cons_succ, Nat.reduceAdd, Nat.zero_add, Nat.add_zero, Nat.reduceLeDiff, Nat.reduceSub, ↓reduceIte, List.drop_succ_cons, List.drop_zero, List.take_succ_cons, List.take_zero, Bool.false_eq_true, List.nil_append, List.cons_append, Bool.not_true, Bool.not_false, cond_true, cond_false, bne, Q85, Q86, Q87, Q88, Q89, Q90, Q91, Q92, Q93, Q94, Q95, Q96, Q97, Q98, Q110, Q111, Q116, Q117, Q118, Q119, Q120, Q121, Q122, Q123, Option.map_some, Option.map_none]
 | false =>
 have l8 := ld8 l
 cases h3 : (s.inHead && decide (n > 0)) with
 | true =>
  have e2 : callsV s.regs s.inHead n = false := by simp only [callsV, h3, Bool.or_true, Bool.not_true, Bool.false_and]
  simp only [Bool.and_eq_true] at h3
  obtain ⟨h3a, h4⟩ := h3
  rw [h3a] at l8
  refine fin false 0 [.ptr 1 0, .v (.int .i64 n), .v (.bool false), .v undef, .v (.bool true), .v undef, .v undef, .v undef, .v undef] h same0 rfl e2 ?_
  simp only [c34, start, List.replicate, c34_0, c34_1, c34_2, h1, h2, l8, h4, Q122, Q0, Q1, Q2, Q3, Q4, Q5, Q6, Q7, Q8, Q9, Q10, Q11, Q12, Q13, Q14, Q15, Q16, Q17, Q18, Q19, Q20, Q21, Q22, Q23, Q24, Q25, Q26, Q27, Q28, Q29, Q30, Q31, Q32, Q33, Q35, Q36, Q37, Q38, Q39, Q40, Q41, Q42, Q43, Q44, Q45, Q46, Q47, Q48, Q49, Q50, Q51, Q52, Q53, Q54, Q55, Q56, Q57, Q58, Q59, Q60, Q61, Q62, Q63, Q64, Q65, Q66, Q67, Q68, Q69, Q70, Q71, Q72, Q73, Q99, Q100, Q101, Q102, Q103, Q74, Q75, Q77, Q78, Q79, Q80, Q81, Q82, Q83, Q84, clr, List.length_nil, List.length_cons, List.getElem?_cons_zero, List.getElem?_cons_succ, Nat.reduceAdd, Nat.zero_add, Nat.add_zero, Nat.reduceLeDiff, Nat.reduceSub, ↓reduceIte, List.drop_succ_cons, List.drop_zero, List.take_succ_cons, List.take_zero, Bool.false_eq_true, List.nil_append, List.cons_append, Bool.not_true, Bool.not_false, cond_true, cond_false, bne, Q85, Q86, Q87, Q88, Q89, Q90, Q91, Q92, Q93, Q94, Q95, Q96, Q97, Q98, Q110, Q111, Q116, Q117, Q118, Q119, Q120, Q121, Q122, Q123, Option.map_some, Option.map_none]
 | false =>
 have e2 : callsV s.regs s.inHead n = hasAllV s.regs n.toNat := by simp only [callsV, h1, h2, h3, Bool.or_false, Bool.not_false, Bool.true_and]
 have hn0 : ¬ n < 0 := of_decide_eq_false h1
 have hn1 : ¬ n > 16 := of_decide_eq_false h2
 obtain ⟨m, rfl⟩ := Int.eq_ofNat_of_zero_le (show 0 ≤ n by omega)
 rw [Int.toNat_natCast] at e2
 obtain ⟨h', q, lp⟩ := calls34_loop (K := m + 1) (s := s) hm (n := m) (by omega) m 0 h l [.ptr 1 0, .v (.int .i64 m), .v (.bool false), .v undef, .v (.bool false), .v (.int .i64 m), .v (.int .i64 0), .v undef, .v undef] (by omega) p rfl rfl
 have hbody : c34.body = (.seq (.region [] [] c34_0) (.seq (.seq (.region [] [] c34_1) (.cond (.var 4) (.seq (.region [] [] c34_2) .ret) .skip)) (.seq (.seq (.region [] [] c34_3) (.block 0 (.loop K34r [] c34_9))) (.seq (.region [] [] c34_10) .ret)))) := rfl
 rcases lp with ⟨g1, k1⟩ | ⟨g1, vs', k1, k2⟩
 ·rw [g1] at e2
  refine fin true (m + 1) [.ptr 1 0, .junk, .v (.bool true), .junk, .junk, .v (.int .i64 m), .v (.int .i64 m), .v (.bool false), .junk] h' q rfl e2 ?_
  rw [hbody]
  simp only [V34r] at k1
  generalize c34_9 = bb at k1 ⊢
  cases hih : s.inHead with
  | true =>
   rw [hih] at l8 h3
   simp only [Bool.true_and] at h3
   simp only [start, c34, List.replicate, c34_0, c34_1, c34_3, c34_10, h1, h2, h3, l8, k1, Q122, Q0, Q1, Q2, Q3, Q4, Q5, Q6, Q7, Q8, Q9, Q10, Q11, Q12, Q13, Q14, Q15, Q16, Q17, Q18, Q19, Q20, Q21, Q22, Q23, Q24, Q25, Q26, Q27, Q28, Q29, Q30, Q31, Q32, Q33, Q35, Q36, Q37, Q38, Q39, Q40, Q41, Q42, Q43, Q44, Q45, Q46, Q47, Q48, Q49, Q50, Q51, Q52, Q53, Q54, Q55, Q56, Q57, Q58, Q59, Q60, Q61, Q62, Q63, Q64, Q65, Q66, Q67, Q68, Q69, Q70, Q71, Q72, Q73, Q99, Q100, Q101, Q102, Q103, Q74, Q75, Q77, Q78, Q79, Q80, Q81, Q82, Q83, Q84, clr, List.length_nil, List.length_cons, List.getElem?_cons_zero, List.getElem?_cons_succ, Nat.reduceAdd, Nat.zero_add, Nat.add_zero, Nat.reduceLeDiff, Nat.reduceSub, ↓reduceIte, List.drop_succ_cons, List.drop_zero, List.take_succ_cons, List.take_zero, Bool.false_eq_true, List.nil_append, List.cons_append, Bool.not_true, Bool.not_false, cond_true, cond_false, bne, Q85, Q86, Q87, Q88, Q89, Q90, Q91, Q92, Q93, Q94, Q95, Q96, Q97, Q98, Q110, Q111, Q116, Q117, Q118, Q119, Q120, Q121, Q122, Q123, Option.map_some, Option.map_none]
  | false =>
   rw [hih] at l8
   simp only [start, c34, List.replicate, c34_0, c34_1, c34_3, c34_10, h1, h2, l8, k1, Q122, Q0, Q1, Q2, Q3, Q4, Q5, Q6, Q7, Q8, Q9, Q10, Q11, Q12, Q13, Q14, Q15, Q16, Q17, Q18, Q19, Q20, Q21, Q22, Q23, Q24, Q25, Q26, Q27, Q28, Q29, Q30, Q31, Q32, Q33, Q35, Q36, Q37, Q38, Q39, Q40, Q41, Q42, Q43, Q44, Q45, Q46, Q47, Q48, Q49, Q50, Q51, Q52, Q53, Q54, Q55, Q56, Q57, Q58, Q59, Q60, Q61, Q62, Q63, Q64, Q65, Q66, Q67, Q68, Q69, Q70, Q71, Q72, Q73, Q99, Q100, Q101, Q102, Q103, Q74, Q75, Q77, Q78, Q79, Q80, Q81, Q82, Q83, Q84, clr, List.length_nil, List.length_cons, List.getElem?_cons_zero, List.getElem?_cons_succ, Nat.reduceAdd, Nat.zero_add, Nat.add_zero, Nat.reduceLeDiff, Nat.reduceSub, ↓reduceIte, List.drop_succ_cons, List.drop_zero, List.take_succ_cons, List.take_zero, Bool.false_eq_true, List.nil_append, List.cons_append, Bool.not_true, Bool.not_false, cond_true, cond_false, bne, Q85, Q86, Q87, Q88, Q89, Q90, Q91, Q92, Q93, Q94, Q95, Q96, Q97, Q98, Q110, Q111, Q116, Q117, Q118, Q119, Q120, Q121, Q122, Q123, Option.map_some, Option.map_none]
 ·rw [g1] at e2
  refine fin false (m + 1) vs' h' q k2 e2 ?_
  rw [hbody]
  generalize c34_9 = bb at k1 ⊢
  cases hih : s.inHead with
  | true =>
   rw [hih] at l8 h3
   simp only [Bool.true_and] at h3
   simp only [start, c34, List.replicate, c34_0, c34_1, c34_3, h1, h2, h3, l8, k1, Q122, Q0, Q1, Q2, Q3, Q4, Q5, Q6, Q7, Q8, Q9, Q10, Q11, Q12, Q13, Q14, Q15, Q16, Q17, Q18, Q19, Q20, Q21, Q22, Q23, Q24, Q25, Q26, Q27, Q28, Q29, Q30, Q31, Q32, Q33, Q35, Q36, Q37, Q38, Q39, Q40, Q41, Q42, Q43, Q44, Q45, Q46, Q47, Q48, Q49, Q50, Q51, Q52, Q53, Q54, Q55, Q56, Q57, Q58, Q59, Q60, Q61, Q62, Q63, Q64, Q65, Q66, Q67, Q68, Q69, Q70, Q71, Q72, Q73, Q99, Q100, Q101, Q102, Q103, Q74, Q75, Q77, Q78, Q79, Q80, Q81, Q82, Q83, Q84, clr, List.length_nil, List.length_cons, List.getElem?_cons_zero, List.getElem?_cons_succ, Nat.reduceAdd, Nat.zero_add, Nat.add_zero, Nat.reduceLeDiff, Nat.reduceSub, ↓reduceIte, List.drop_succ_cons, List.drop_zero, List.take_succ_cons, List.take_zero, Bool.false_eq_true, List.nil_append, List.cons_append, Bool.not_true, Bool.not_false, cond_true, cond_false, bne, Q85, Q86, Q87, Q88, Q89, Q90, Q91, Q92, Q93, Q94, Q95, Q96, Q97, Q98, Q110, Q111, Q116, Q117, Q118, Q119, Q120, Q121, Q122, Q123, Option.map_some, Option.map_none]
  | false =>
   rw [hih] at l8
   simp only [start, c34, List.replicate, c34_0, c34_1, c34_3, h1, h2, l8, k1, Q122, Q0, Q1, Q2, Q3, Q4, Q5, Q6, Q7, Q8, Q9, Q10, Q11, Q12, Q13, Q14, Q15, Q16, Q17, Q18, Q19, Q20, Q21, Q22, Q23, Q24, Q25, Q26, Q27, Q28, Q29, Q30, Q31, Q32, Q33, Q35, Q36, Q37, Q38, Q39, Q40, Q41, Q42, Q43, Q44, Q45, Q46, Q47, Q48, Q49, Q50, Q51, Q52, Q53, Q54, Q55, Q56, Q57, Q58, Q59, Q60, Q61, Q62, Q63, Q64, Q65, Q66, Q67, Q68, Q69, Q70, Q71, Q72, Q73, Q99, Q100, Q101, Q102, Q103, Q74, Q75, Q77, Q78, Q79, Q80, Q81, Q82, Q83, Q84, clr, List.length_nil, List.length_cons, List.getElem?_cons_zero, List.getElem?_cons_succ, Nat.reduceAdd, Nat.zero_add, Nat.add_zero, Nat.reduceLeDiff, Nat.reduceSub, ↓reduceIte, List.drop_succ_cons, List.drop_zero, List.take_succ_cons, List.take_zero, Bool.false_eq_true, List.nil_append, List.cons_append, Bool.not_true, Bool.not_false, cond_true, cond_false, bne, Q85, Q86, Q87, Q88, Q89, Q90, Q91, Q92, Q93, Q94, Q95, Q96, Q97, Q98, Q110, Q111, Q116, Q117, Q118, Q119, Q120, Q121, Q122, Q123, Option.map_some, Option.map_none]
end
end Go.AE.YtghgbbiklkpbnaaDoor
end

section
namespace Go.AE.YtghgbbiklkpbnaaDoor
open Go Go.AE Go.Proofs.YtghgbbiklkpbnaaDoor

def isVarR (o : Int) : Bool := (o == 1) || ((o == 6) || ((o == 11) || (o == 16)))
def isValR (o : Int) : Bool := (o == 2) || ((o == 7) || ((o == 12) || (o == 17)))
def partedR (s : RS) (vs : Int) (i : Op5) : Bool :=
 if isVarR i.op then decide (i.b ≥ 0) && (decide (i.b < vs) && !s.known.contains i.b)
 else if isValR i.op then s.known.contains i.b
 else if i.op == 10 then decide (i.b ≥ 16) && !s.regs.contains i.b
 else if i.op == 20 then decide (i.b ≥ 16) && s.regs.contains i.b
 else if (i.op == 5) || (i.op == 15) then decide (i.n ≥ 1) && decide (i.n ≤ 16)
 else if i.op == 21 then callsV s.regs s.inHead i.n
 else true
section
variable {c0 c3 : AV} {c1 c2 : Int} {s : RS} {h : List AO}
theorem parted_ok (p : Sp c0 c1 c2 c3 h s) (hm : s.regs.length ≤ 1000000) (hk : s.known.length ≤ 1000000) (i : Op5) : ∃ h', callW F 19 [.ptr 1 0, o5 i] h = some (.v (.bool (partedR s c2 i)), h') ∧ Same1 c0 c1 c2 c3 s h h' := by
 have key : ∀ (b : Bool) (vars : List AV) (h' : List AO), Same1 c0 c1 c2 c3 s h h' → vars.getD 3 .junk = .v (.bool b) → leave h.length c19 (some (.ret, vars, h' ++ [.box 41 (o5 i).cells])) = some (.v (.bool b), h') := fun b vars h' q hv => leave1 q.2.1 (by rw [← q.2.1]; exact q.1.bel) (i := 3) rfl hv
 obtain ⟨l2, _, _, _, _⟩ := p.lds [.box 41 (o5 i).cells]
 obtain ⟨i0, i1, i2, i4⟩ := in_lds h i
 have same0 : Same1 c0 c1 c2 c3 s h h := ⟨p, rfl, .refl h⟩
 obtain ⟨M1, h1, ldM1, hh1, p1, e1, b1⟩ := p.has1 hm i.b
 obtain ⟨M2, h2, ldM2, hh2, p2, e2, b2⟩ := p.has2 hk i.b
 obtain ⟨h4, k4, q4⟩ := calls34_ok p hm i.n [.box 41 (o5 i).cells] (all_below_mono (Nat.zero_le _) rfl)
 have ld1 := ldM1 [.box 41 (o5 i).cells]
 have hs1 := hh1 [.box 41 (o5 i).cells]
 have ld2 := ldM2 [.box 41 (o5 i).cells]
 have hs2 := hh2 [.box 41 (o5 i).cells]
 have q1 : Same1 c0 c1 c2 c3 s h h1 := ⟨p1, e1, b1⟩
 have q2 : Same1 c0 c1 c2 c3 s h h2 := ⟨p2, e2, b2⟩
 have cl : (o5 i).cl = some (o5 i).cells := rfl
 have bx5 : bx h 41 (some (o5 i).cells) = some (.ptr h.length 0, h ++ [.box 41 (o5 i).cells]) := rfl
 generalize hC : o5 i = C at *
 generalize hco : s.regs.contains i.b = co at *
 generalize hkn : s.known.contains i.b = kn at *
 generalize hca : callsV s.regs s.inHead i.n = ca at *
 have fin : ∀ (b : Bool) (vars : List AV) (h' : List AO), Same1 c0 c1 c2 c3 s h h' → vars.getD 3 .junk = .v (.bool b) → partedR s c2 i = b → exec (callW F) 0 c19.body (start c19 [.ptr 1 0, C]) h = some (.ret, vars, h' ++ [.box 41 C.cells]) →
   ∃ h', callW F 19 [.ptr 1 0, C] h = some (.v (.bool (partedR s c2 i)), h') ∧ Same1 c0 c1 c2 c3 s h h' := by
  intro b vars h' q hv hb he
  refine ⟨h', callW_code (c := c19) rfl rfl 0 ?_, q⟩
  rw [he, hb]
  exact key b vars h' q hv
 generalize hz0 : decide (i.b ≥ 0) = z0 at *
 generalize hz1 : decide (i.b < c2) = z1 at *
 generalize hz16 : decide (i.b ≥ 16) = z16 at *
 generalize hn1 : decide (i.n ≥ 1) = m1 at *
 generalize hn16 : decide (i.n ≤ 16) = m16 at *
 by_cases o1 : i.op = 1
 ·have hop := o1
  have n1 : (i.op == 1) = true := by rw [hop]; rfl
  have hp : partedR s c2 i = (z0 && (z1 && !kn)) := by simp only [partedR, hop, hz0, hz1, hz16, hkn, hco, hca, hn1, hn16]; rfl
  cases z0 with
  | false =>
   refine fin false [.ptr 1 0, C, .ptr h.length 0, .v (.bool false), .v (.int .i64 i.op), .v (.bool true), .v undef, .v undef, .v undef, .v undef, .v undef] h same0 rfl (by rw [hp]; rfl) ?_
   simp only [start, c19, List.replicate, c19_0, c19_1, c19_2, c19_6, cl, bx5, i0, i1, i2, i4, l2, Q122, Bool.not_true, Bool.not_false, Bool.true_and, Bool.false_and, Bool.and_true, Bool.and_false, n1, hz0, Q0, Q1, Q2, Q3, Q4, Q5, Q6, Q7, Q8, Q9, Q10, Q11, Q12, Q13, Q14, Q15, Q16, Q17, Q18, Q19, Q20, Q21, Q22, Q23, Q24, Q25, Q26, Q27, Q28, Q29, Q30, Q31, Q32, Q33, Q35, Q36, Q37, Q38, Q39, Q40, Q41, Q42, Q43, Q44, Q45, Q46, Q47, Q48, Q49, Q50, Q51, Q52, Q53, Q54, Q55, Q56, Q57, Q58, Q59, Q60, Q61, Q62, Q63, Q64, Q65, Q66, Q67, Q68, Q69, Q70, Q71, Q72, Q73, Q99, Q100, Q101, Q102, Q103, Q74, Q75, Q77, Q78, Q79, Q80, Q81, Q82, Q83, Q84, clr, List.length_nil, List.length_cons, List.getElem?_cons_zero, List.getElem?_cons_succ, Nat.reduceAdd, Nat.zero_add, Nat.add_zero, Nat.reduceLeDiff, Nat.reduceSub, ↓reduceIte, List.drop_succ_cons, List.drop_zero, List.take_succ_cons, List.take_zero, Bool.false_eq_true, List.nil_append, List.cons_append, Bool.not_true, Bool.not_false, cond_true, cond_false, bne, Q85, Q86, Q87, Q88, Q89, Q90, Q91, Q92, Q93, Q94, Q95, Q96, Q97, Q98, Q110, Q111, Q116, Q117, Q118, Q119, Q120, Q121, Q122, Q123, Option.map_some, Option.map_none]
  | true =>
   cases z1 with
   | false =>
    refine fin false [.ptr 1 0, C, .ptr h.length 0, .v (.bool false), .v (.int .i64 i.op), .v (.bool true), .v undef, .v undef, .v undef, .v undef, .v undef] h same0 rfl (by rw [hp]; rfl) ?_
    simp only [start, c19, List.replicate, c19_0, c19_1, c19_2, c19_6, cl, bx5, i0, i1, i2, i4, l2, Q122, Bool.not_true, Bool.not_false, Bool.true_and, Bool.false_and, Bool.and_true, Bool.and_false, n1, hz0, hz1, Q0, Q1, Q2, Q3, Q4, Q5, Q6, Q7, Q8, Q9, Q10, Q11, Q12, Q13, Q14, Q15, Q16, Q17, Q18, Q19, Q20, Q21, Q22, Q23, Q24, Q25, Q26, Q27, Q28, Q29, Q30, Q31, Q32, Q33, Q35, Q36, Q37, Q38, Q39, Q40, Q41, Q42, Q43, Q44, Q45, Q46, Q47, Q48, Q49, Q50, Q51, Q52, Q53, Q54, Q55, Q56, Q57, Q58, Q59, Q60, Q61, Q62, Q63, Q64, Q65, Q66, Q67, Q68, Q69, Q70, Q71, Q72, Q73, Q99, Q100, Q101, Q102, Q103, Q74, Q75, Q77, Q78, Q79, Q80, Q81, Q82, Q83, Q84, clr, List.length_nil, List.length_cons, List.getElem?_cons_zero, List.getElem?_cons_succ, Nat.reduceAdd, Nat.zero_add, Nat.add_zero, Nat.reduceLeDiff, Nat.reduceSub, ↓reduceIte, List.drop_succ_cons, List.drop_zero, List.take_succ_cons, List.take_zero, Bool.false_eq_true, List.nil_append, List.cons_append, Bool.not_true, Bool.not_false, cond_true, cond_false, bne, Q85, Q86, Q87, Q88, Q89, Q90, Q91, Q92, Q93, Q94, Q95, Q96, Q97, Q98, Q110, Q111, Q116, Q117, Q118, Q119, Q120, Q121, Q122, Q123, Option.map_some, Option.map_none]
   | true =>
    refine fin (!kn) [.ptr 1 0, C, .ptr h.length 0, .v (.bool !kn), .v (.int .i64 i.op), .v (.bool true), .v undef, .v undef, .v undef, .v undef, .v undef] h2 q2 rfl (by rw [hp]; rfl) ?_
    simp only [start, c19, List.replicate, c19_0, c19_1, c19_2, c19_6, cl, bx5, i0, i1, i2, i4, l2, Q122, Bool.not_true, Bool.not_false, Bool.true_and, Bool.false_and, Bool.and_true, Bool.and_false, n1, hz0, hz1, ld2, hs2, e_callf, List.map_cons, List.map_nil, Q0, Q1, Q2, Q3, Q4, Q5, Q6, Q7, Q8, Q9, Q10, Q11, Q12, Q13, Q14, Q15, Q16, Q17, Q18, Q19, Q20, Q21, Q22, Q23, Q24, Q25, Q26, Q27, Q28, Q29, Q30, Q31, Q32, Q33, Q35, Q36, Q37, Q38, Q39, Q40, Q41, Q42, Q43, Q44, Q45, Q46, Q47, Q48, Q49, Q50, Q51, Q52, Q53, Q54, Q55, Q56, Q57, Q58, Q59, Q60, Q61, Q62, Q63, Q64, Q65, Q66, Q67, Q68, Q69, Q70, Q71, Q72, Q73, Q99, Q100, Q101, Q102, Q103, Q74, Q75, Q77, Q78, Q79, Q80, Q81, Q82, Q83, Q84, clr, List.length_nil, List.length_cons, List.getElem?_cons_zero, List.getElem?_cons_succ, Nat.reduceAdd, Nat.zero_add, Nat.add_zero, Nat.reduceLeDiff, Nat.reduceSub, ↓reduceIte, List.drop_succ_cons, List.drop_zero, List.take_succ_cons, List.take_zero, Bool.false_eq_true, List.nil_append, List.cons_append, Bool.not_true, Bool.not_false, cond_true, cond_false, bne, Q85, Q86, Q87, Q88, Q89, Q90, Q91, Q92, Q93, Q94, Q95, Q96, Q97, Q98, Q110, Q111, Q116, Q117, Q118, Q119, Q120, Q121, Q122, Q123, Option.map_some, Option.map_none]
 by_cases o6 : i.op = 6
 ·have hop := o6
  have n1 : (i.op == 1) = false := by rw [hop]; rfl
  have n6 : (i.op == 6) = true := by rw [hop]; rfl
  have hp : partedR s c2 i = (z0 && (z1 && !kn)) := by simp only [partedR, hop, hz0, hz1, hz16, hkn, hco, hca, hn1, hn16]; rfl
  cases z0 with
  | false =>
   refine fin false [.ptr 1 0, C, .ptr h.length 0, .v (.bool false), .v (.int .i64 i.op), .v (.bool true), .v undef, .v undef, .v undef, .v undef, .v undef] h same0 rfl (by rw [hp]; rfl) ?_
   simp only [start, c19, List.replicate, c19_0, c19_1, c19_2, c19_3, c19_6, cl, bx5, i0, i1, i2, i4, l2, Q122, Bool.not_true, Bool.not_false, Bool.true_and, Bool.false_and, Bool.and_true, Bool.and_false, n1, n6, hz0, Q0, Q1, Q2, Q3, Q4, Q5, Q6, Q7, Q8, Q9, Q10, Q11, Q12, Q13, Q14, Q15, Q16, Q17, Q18, Q19, Q20, Q21, Q22, Q23, Q24, Q25, Q26, Q27, Q28, Q29, Q30, Q31, Q32, Q33, Q35, Q36, Q37, Q38, Q39, Q40, Q41, Q42, Q43, Q44, Q45, Q46, Q47, Q48, Q49, Q50, Q51, Q52, Q53, Q54, Q55, Q56, Q57, Q58, Q59, Q60, Q61, Q62, Q63, Q64, Q65, Q66, Q67, Q68, Q69, Q70, Q71, Q72, Q73, Q99, Q100, Q101, Q102, Q103, Q74, Q75, Q77, Q78, Q79, Q80, Q81, Q82, Q83, Q84, clr, List.length_nil, List.length_cons, List.getElem?_cons_zero, List.getElem?_cons_succ, Nat.reduceAdd, Nat.zero_add, Nat.add_zero, Nat.reduceLeDiff, Nat.reduceSub, ↓reduceIte, List.drop_succ_cons, List.drop_zero, List.take_succ_cons, List.take_zero, Bool.false_eq_true, List.nil_append, List.cons_append, Bool.not_true, Bool.not_false, cond_true, cond_false, bne, Q85, Q86, Q87, Q88, Q89, Q90, Q91, Q92, Q93, Q94, Q95, Q96, Q97, Q98, Q110, Q111, Q116, Q117, Q118, Q119, Q120, Q121, Q122, Q123, Option.map_some, Option.map_none]
  | true =>
   cases z1 with
   | false =>
    refine fin false [.ptr 1 0, C, .ptr h.length 0, .v (.bool false), .v (.int .i64 i.op), .v (.bool true), .v undef, .v undef, .v undef, .v undef, .v undef] h same0 rfl (by rw [hp]; rfl) ?_
    simp only [start, c19, List.replicate, c19_0, c19_1, c19_2, c19_3, c19_6, cl, bx5, i0, i1, i2, i4, l2, Q122, Bool.not_true, Bool.not_false, Bool.true_and, Bool.false_and, Bool.and_true, Bool.and_false, n1, n6, hz0, hz1, Q0, Q1, Q2, Q3, Q4, Q5, Q6, Q7, Q8, Q9, Q10, Q11, Q12, Q13, Q14, Q15, Q16, Q17, Q18, Q19, Q20, Q21, Q22, Q23, Q24, Q25, Q26, Q27, Q28, Q29, Q30, Q31, Q32, Q33, Q35, Q36, Q37, Q38, Q39, Q40, Q41, Q42, Q43, Q44, Q45, Q46, Q47, Q48, Q49, Q50, Q51, Q52, Q53, Q54, Q55, Q56, Q57, Q58, Q59, Q60, Q61, Q62, Q63, Q64, Q65, Q66, Q67, Q68, Q69, Q70, Q71, Q72, Q73, Q99, Q100, Q101, Q102, Q103, Q74, Q75, Q77, Q78, Q79, Q80, Q81, Q82, Q83, Q84, clr, List.length_nil, List.length_cons, List.getElem?_cons_zero, List.getElem?_cons_succ, Nat.reduceAdd, Nat.zero_add, Nat.add_zero, Nat.reduceLeDiff, Nat.reduceSub, ↓reduceIte, List.drop_succ_cons, List.drop_zero, List.take_succ_cons, List.take_zero, Bool.false_eq_true, List.nil_append, List.cons_append, Bool.not_true, Bool.not_false, cond_true, cond_false, bne, Q85, Q86, Q87, Q88, Q89, Q90, Q91, Q92, Q93, Q94, Q95, Q96, Q97, Q98, Q110, Q111, Q116, Q117, Q118, Q119, Q120, Q121, Q122, Q123, Option.map_some, Option.map_none]
   | true =>
    refine fin (!kn) [.ptr 1 0, C, .ptr h.length 0, .v (.bool !kn), .v (.int .i64 i.op), .v (.bool true), .v undef, .v undef, .v undef, .v undef, .v undef] h2 q2 rfl (by rw [hp]; rfl) ?_
    simp only [start, c19, List.replicate, c19_0, c19_1, c19_2, c19_3, c19_6, cl, bx5, i0, i1, i2, i4, l2, Q122, Bool.not_true, Bool.not_false, Bool.true_and, Bool.false_and, Bool.and_true, Bool.and_false, n1, n6, hz0, hz1, ld2, hs2, e_callf, List.map_cons, List.map_nil, Q0, Q1, Q2, Q3, Q4, Q5, Q6, Q7, Q8, Q9, Q10, Q11, Q12, Q13, Q14, Q15, Q16, Q17, Q18, Q19, Q20, Q21, Q22, Q23, Q24, Q25, Q26, Q27, Q28, Q29, Q30, Q31, Q32, Q33, Q35, Q36, Q37, Q38, Q39, Q40, Q41, Q42, Q43, Q44, Q45, Q46, Q47, Q48, Q49, Q50, Q51, Q52, Q53, Q54, Q55, Q56, Q57, Q58, Q59, Q60, Q61, Q62, Q63, Q64, Q65, Q66, Q67, Q68, Q69, Q70, Q71, Q72, Q73, Q99, Q100, Q101, Q102, Q103, Q74, Q75, Q77, Q78, Q79, Q80, Q81, Q82, Q83, Q84, clr, List.length_nil, List.length_cons, List.getElem?_cons_zero, List.getElem?_cons_succ, Nat.reduceAdd, Nat.zero_add, Nat.add_zero, Nat.reduceLeDiff, Nat.reduceSub, ↓reduceIte, List.drop_succ_cons, List.drop_zero, List.take_succ_cons, List.take_zero, Bool.false_eq_true, List.nil_append, List.cons_append, Bool.not_true, Bool.not_false, cond_true, cond_false, bne, Q85, Q86, Q87, Q88, Q89, Q90, Q91, Q92, Q93, Q94, Q95, Q96, Q97, Q98, Q110, Q111, Q116, Q117, Q118, Q119, Q120, Q121, Q122, Q123, Option.map_some, Option.map_none]
 by_cases o11 : i.op = 11
 ·have hop := o11
  have n1 : (i.op == 1) = false := by rw [hop]; rfl
  have n6 : (i.op == 6) = false := by rw [hop]; rfl
  have n11 : (i.op == 11) = true := by rw [hop]; rfl
  have hp : partedR s c2 i = (z0 && (z1 && !kn)) := by simp only [partedR, hop, hz0, hz1, hz16, hkn, hco, hca, hn1, hn16]; rfl
  cases z0 with
  | false =>
   refine fin false [.ptr 1 0, C, .ptr h.length 0, .v (.bool false), .v (.int .i64 i.op), .v (.bool true), .v undef, .v undef, .v undef, .v undef, .v undef] h same0 rfl (by rw [hp]; rfl) ?_
   simp only [start, c19, List.replicate, c19_0, c19_1, c19_2, c19_3, c19_4, c19_6, cl, bx5, i0, i1, i2, i4, l2, Q122, Bool.not_true, Bool.not_false, Bool.true_and, Bool.false_and, Bool.and_true, Bool.and_false, n1, n6, n11, hz0, Q0, Q1, Q2, Q3, Q4, Q5, Q6, Q7, Q8, Q9, Q10, Q11, Q12, Q13, Q14, Q15, Q16, Q17, Q18, Q19, Q20, Q21, Q22, Q23, Q24, Q25, Q26, Q27, Q28, Q29, Q30, Q31, Q32, Q33, Q35, Q36, Q37, Q38, Q39, Q40, Q41, Q42, Q43, Q44, Q45, Q46, Q47, Q48, Q49, Q50, Q51, Q52, Q53, Q54, Q55, Q56, Q57, Q58, Q59, Q60, Q61, Q62, Q63, Q64, Q65, Q66, Q67, Q68, Q69, Q70, Q71, Q72, Q73, Q99, Q100, Q101, Q102, Q103, Q74, Q75, Q77, Q78, Q79, Q80, Q81, Q82, Q83, Q84, clr, List.length_nil, List.length_cons, List.getElem?_cons_zero, List.getElem?_cons_succ, Nat.reduceAdd, Nat.zero_add, Nat.add_zero, Nat.reduceLeDiff, Nat.reduceSub, ↓reduceIte, List.drop_succ_cons, List.drop_zero, List.take_succ_cons, List.take_zero, Bool.false_eq_true, List.nil_append, List.cons_append, Bool.not_true, Bool.not_false, cond_true, cond_false, bne, Q85, Q86, Q87, Q88, Q89, Q90, Q91, Q92, Q93, Q94, Q95, Q96, Q97, Q98, Q110, Q111, Q116, Q117, Q118, Q119, Q120, Q121, Q122, Q123, Option.map_some, Option.map_none]
  | true =>
   cases z1 with
   | false =>
    refine fin false [.ptr 1 0, C, .ptr h.length 0, .v (.bool false), .v (.int .i64 i.op), .v (.bool true), .v undef, .v undef, .v undef, .v undef, .v undef] h same0 rfl (by rw [hp]; rfl) ?_
    simp only [start, c19, List.replicate, c19_0, c19_1, c19_2, c19_3, c19_4, c19_6, cl, bx5, i0, i1, i2, i4, l2, Q122, Bool.not_true, Bool.not_false, Bool.true_and, Bool.false_and, Bool.and_true, Bool.and_false, n1, n6, n11, hz0, hz1, Q0, Q1, Q2, Q3, Q4, Q5, Q6, Q7, Q8, Q9, Q10, Q11, Q12, Q13, Q14, Q15, Q16, Q17, Q18, Q19, Q20, Q21, Q22, Q23, Q24, Q25, Q26, Q27, Q28, Q29, Q30, Q31, Q32, Q33, Q35, Q36, Q37, Q38, Q39, Q40, Q41, Q42, Q43, Q44, Q45, Q46, Q47, Q48, Q49, Q50, Q51, Q52, Q53, Q54, Q55, Q56, Q57, Q58, Q59, Q60, Q61, Q62, Q63, Q64, Q65, Q66, Q67, Q68, Q69, Q70, Q71, Q72, Q73, Q99, Q100, Q101, Q102, Q103, Q74, Q75, Q77, Q78, Q79, Q80, Q81, Q82, Q83, Q84, clr, List.length_nil, List.length_cons, List.getElem?_cons_zero, List.getElem?_cons_succ, Nat.reduceAdd, Nat.zero_add, Nat.add_zero, Nat.reduceLeDiff, Nat.reduceSub, ↓reduceIte, List.drop_succ_cons, List.drop_zero, List.take_succ_cons, List.take_zero, Bool.false_eq_true, List.nil_append, List.cons_append, Bool.not_true, Bool.not_false, cond_true, cond_false, bne, Q85, Q86, Q87, Q88, Q89, Q90, Q91, Q92, Q93, Q94, Q95, Q96, Q97, Q98, Q110, Q111, Q116, Q117, Q118, Q119, Q120, Q121, Q122, Q123, Option.map_some, Option.map_none]
   | true =>
    refine fin (!kn) [.ptr 1 0, C, .ptr h.length 0, .v (.bool !kn), .v (.int .i64 i.op), .v (.bool true), .v undef, .v undef, .v undef, .v undef, .v undef] h2 q2 rfl (by rw [hp]; rfl) ?_
    simp only [start, c19, List.replicate, c19_0, c19_1, c19_2, c19_3, c19_4, c19_6, cl, bx5, i0, i1, i2, i4, l2, Q122, Bool.not_true, Bool.not_false, Bool.true_and, Bool.false_and, Bool.and_true, Bool.and_false, n1, n6, n11, hz0, hz1, ld2, hs2, e_callf, List.map_cons, List.map_nil, Q0, Q1, Q2, Q3, Q4, Q5, Q6, Q7, Q8, Q9, Q10, Q11, Q12, Q13, Q14, Q15, Q16, Q17, Q18, Q19, Q20, Q21, Q22, Q23, Q24, Q25, Q26, Q27, Q28, Q29, Q30, Q31, Q32, Q33, Q35, Q36, Q37, Q38, Q39, Q40, Q41, Q42, Q43, Q44, Q45, Q46, Q47, Q48, Q49, Q50, Q51, Q52, Q53, Q54, Q55, Q56, Q57, Q58, Q59, Q60, Q61, Q62, Q63, Q64, Q65, Q66, Q67, Q68, Q69, Q70, Q71, Q72, Q73, Q99, Q100, Q101, Q102, Q103, Q74, Q75, Q77, Q78, Q79, Q80, Q81, Q82, Q83, Q84, clr, List.length_nil, List.length_cons, List.getElem?_cons_zero, List.getElem?_cons_succ, Nat.reduceAdd, Nat.zero_add, Nat.add_zero, Nat.reduceLeDiff, Nat.reduceSub, ↓reduceIte, List.drop_succ_cons, List.drop_zero, List.take_succ_cons, List.take_zero, Bool.false_eq_true, List.nil_append, List.cons_append, Bool.not_true, Bool.not_false, cond_true, cond_false, bne, Q85, Q86, Q87, Q88, Q89, Q90, Q91, Q92, Q93, Q94, Q95, Q96, Q97, Q98, Q110, Q111, Q116, Q117, Q118, Q119, Q120, Q121, Q122, Q123, Option.map_some, Option.map_none]
 by_cases o16 : i.op = 16
 ·have hop := o16
  have n1 : (i.op == 1) = false := by rw [hop]; rfl
  have n6 : (i.op == 6) = false := by rw [hop]; rfl
  have n11 : (i.op == 11) = false := by rw [hop]; rfl
  have n16 : (i.op == 16) = true := by rw [hop]; rfl
  have hp : partedR s c2 i = (z0 && (z1 && !kn)) := by simp only [partedR, hop, hz0, hz1, hz16, hkn, hco, hca, hn1, hn16]; rfl
  cases z0 with
  | false =>
   refine fin false [.ptr 1 0, C, .ptr h.length 0, .v (.bool false), .v (.int .i64 i.op), .v (.bool true), .v undef, .v undef, .v undef, .v undef, .v undef] h same0 rfl (by rw [hp]; rfl) ?_
   simp only [start, c19, List.replicate, c19_0, c19_1, c19_2, c19_3, c19_4, c19_5, c19_6, cl, bx5, i0, i1, i2, i4, l2, Q122, Bool.not_true, Bool.not_false, Bool.true_and, Bool.false_and, Bool.and_true, Bool.and_false, n1, n6, n11, n16, hz0, Q0, Q1, Q2, Q3, Q4, Q5, Q6, Q7, Q8, Q9, Q10, Q11, Q12, Q13, Q14, Q15, Q16, Q17, Q18, Q19, Q20, Q21, Q22, Q23, Q24, Q25, Q26, Q27, Q28, Q29, Q30, Q31, Q32, Q33, Q35, Q36, Q37, Q38, Q39, Q40, Q41, Q42, Q43, Q44, Q45, Q46, Q47, Q48, Q49, Q50, Q51, Q52, Q53, Q54, Q55, Q56, Q57, Q58, Q59, Q60, Q61, Q62, Q63, Q64, Q65, Q66, Q67, Q68, Q69, Q70, Q71, Q72, Q73, Q99, Q100, Q101, Q102, Q103, Q74, Q75, Q77, Q78, Q79, Q80, Q81, Q82, Q83, Q84, clr, List.length_nil, List.length_cons, List.getElem?_cons_zero, List.getElem?_cons_succ, Nat.reduceAdd, Nat.zero_add, Nat.add_zero, Nat.reduceLeDiff, Nat.reduceSub, ↓reduceIte, List.drop_succ_cons, List.drop_zero, List.take_succ_cons, List.take_zero, Bool.false_eq_true, List.nil_append, List.cons_append, Bool.not_true, Bool.not_false, cond_true, cond_false, bne, Q85, Q86, Q87, Q88, Q89, Q90, Q91, Q92, Q93, Q94, Q95, Q96, Q97, Q98, Q110, Q111, Q116, Q117, Q118, Q119, Q120, Q121, Q122, Q123, Option.map_some, Option.map_none]
  | true =>
   cases z1 with
   | false =>
    refine fin false [.ptr 1 0, C, .ptr h.length 0, .v (.bool false), .v (.int .i64 i.op), .v (.bool true), .v undef, .v undef, .v undef, .v undef, .v undef] h same0 rfl (by rw [hp]; rfl) ?_
    simp only [start, c19, List.replicate, c19_0, c19_1, c19_2, c19_3, c19_4, c19_5, c19_6, cl, bx5, i0, i1, i2, i4, l2, Q122, Bool.not_true, Bool.not_false, Bool.true_and, Bool.false_and, Bool.and_true, Bool.and_false, n1, n6, n11, n16, hz0, hz1, Q0, Q1, Q2, Q3, Q4, Q5, Q6, Q7, Q8, Q9, Q10, Q11, Q12, Q13, Q14, Q15, Q16, Q17, Q18, Q19, Q20, Q21, Q22, Q23, Q24, Q25, Q26, Q27, Q28, Q29, Q30, Q31, Q32, Q33, Q35, Q36, Q37, Q38, Q39, Q40, Q41, Q42, Q43, Q44, Q45, Q46, Q47, Q48, Q49, Q50, Q51, Q52, Q53, Q54, Q55, Q56, Q57, Q58, Q59, Q60, Q61, Q62, Q63, Q64, Q65, Q66, Q67, Q68, Q69, Q70, Q71, Q72, Q73, Q99, Q100, Q101, Q102, Q103, Q74, Q75, Q77, Q78, Q79, Q80, Q81, Q82, Q83, Q84, clr, List.length_nil, List.length_cons, List.getElem?_cons_zero, List.getElem?_cons_succ, Nat.reduceAdd, Nat.zero_add, Nat.add_zero, Nat.reduceLeDiff, Nat.reduceSub, ↓reduceIte, List.drop_succ_cons, List.drop_zero, List.take_succ_cons, List.take_zero, Bool.false_eq_true, List.nil_append, List.cons_append, Bool.not_true, Bool.not_false, cond_true, cond_false, bne, Q85, Q86, Q87, Q88, Q89, Q90, Q91, Q92, Q93, Q94, Q95, Q96, Q97, Q98, Q110, Q111, Q116, Q117, Q118, Q119, Q120, Q121, Q122, Q123, Option.map_some, Option.map_none]
   | true =>
    refine fin (!kn) [.ptr 1 0, C, .ptr h.length 0, .v (.bool !kn), .v (.int .i64 i.op), .v (.bool true), .v undef, .v undef, .v undef, .v undef, .v undef] h2 q2 rfl (by rw [hp]; rfl) ?_
    simp only [start, c19, List.replicate, c19_0, c19_1, c19_2, c19_3, c19_4, c19_5, c19_6, cl, bx5, i0, i1, i2, i4, l2, Q122, Bool.not_true, Bool.not_false, Bool.true_and, Bool.false_and, Bool.and_true, Bool.and_false, n1, n6, n11, n16, hz0, hz1, ld2, hs2, e_callf, List.map_cons, List.map_nil, Q0, Q1, Q2, Q3, Q4, Q5, Q6, Q7, Q8, Q9, Q10, Q11, Q12, Q13, Q14, Q15, Q16, Q17, Q18, Q19, Q20, Q21, Q22, Q23, Q24, Q25, Q26, Q27, Q28, Q29, Q30, Q31, Q32, Q33, Q35, Q36, Q37, Q38, Q39, Q40, Q41, Q42, Q43, Q44, Q45, Q46, Q47, Q48, Q49, Q50, Q51, Q52, Q53, Q54, Q55, Q56, Q57, Q58, Q59, Q60, Q61, Q62, Q63, Q64, Q65, Q66, Q67, Q68, Q69, Q70, Q71, Q72, Q73, Q99, Q100, Q101, Q102, Q103, Q74, Q75, Q77, Q78, Q79, Q80, Q81, Q82, Q83, Q84, clr, List.length_nil, List.length_cons, List.getElem?_cons_zero, List.getElem?_cons_succ, Nat.reduceAdd, Nat.zero_add, Nat.add_zero, Nat.reduceLeDiff, Nat.reduceSub, ↓reduceIte, List.drop_succ_cons, List.drop_zero, List.take_succ_cons, List.take_zero, Bool.false_eq_true, List.nil_append, List.cons_append, Bool.not_true, Bool.not_false, cond_true, cond_false, bne, Q85, Q86, Q87, Q88, Q89, Q90, Q91, Q92, Q93, Q94, Q95, Q96, Q97, Q98, Q110, Q111, Q116, Q117, Q118, Q119, Q120, Q121, Q122, Q123, Option.map_some, Option.map_none]
 by_cases o2 : i.op = 2
 ·have hop := o2
  have n1 : (i.op == 1) = false := by rw [hop]; rfl
  have n6 : (i.op == 6) = false := by rw [hop]; rfl
  have n11 : (i.op == 11) = false := by rw [hop]; rfl
  have n16 : (i.op == 16) = false := by rw [hop]; rfl
  have n2 : (i.op == 2) = true := by rw [hop]; rfl
  have hp : partedR s c2 i = kn := by simp only [partedR, hop, hz0, hz1, hz16, hkn, hco, hca, hn1, hn16]; rfl
  refine fin kn [.ptr 1 0, C, .ptr h.length 0, .v (.bool kn), .v (.int .i64 i.op), .v (.bool false), .v (.bool true), .v undef, .v undef, .v undef, .v undef] h2 q2 rfl hp ?_
  simp only [start, c19, List.replicate, c19_0, c19_1, c19_2, c19_3, c19_4, c19_5, c19_7, c19_11, cl, bx5, i0, i1, i2, i4, l2, Q122, Bool.not_true, Bool.not_false, Bool.true_and, Bool.false_and, Bool.and_true, Bool.and_false, n1, n6, n11, n16, n2, ld2, hs2, e_callf, List.map_cons, List.map_nil, Q0, Q1, Q2, Q3, Q4, Q5, Q6, Q7, Q8, Q9, Q10, Q11, Q12, Q13, Q14, Q15, Q16, Q17, Q18, Q19, Q20, Q21, Q22, Q23, Q24, Q25, Q26, Q27, Q28, Q29, Q30, Q31, Q32, Q33, Q35, Q36, Q37, Q38, Q39, Q40, Q41, Q42, Q43, Q44, Q45, Q46, Q47, Q48, Q49, Q50, Q51, Q52, Q53, Q54, Q55, Q56, Q57, Q58, Q59, Q60, Q61, Q62, Q63, Q64, Q65, Q66, Q67, Q68, Q69, Q70, Q71, Q72, Q73, Q99, Q100, Q101, Q102, Q103, Q74, Q75, Q77, Q78, Q79, Q80, Q81, Q82, Q83, Q84, clr, List.length_nil, List.length_cons, List.getElem?_cons_zero, List.getElem?_cons_succ, Nat.reduceAdd, Nat.zero_add, Nat.add_zero, Nat.reduceLeDiff, Nat.reduceSub, ↓reduceIte, List.drop_succ_cons, List.drop_zero, List.take_succ_cons, List.take_zero, Bool.false_eq_true, List.nil_append, List.cons_append, Bool.not_true, Bool.not_false, cond_true, cond_false, bne, Q85, Q86, Q87, Q88, Q89, Q90, Q91, Q92, Q93, Q94, Q95, Q96, Q97, Q98, Q110, Q111, Q116, Q117, Q118, Q119, Q120, Q121, Q122, Q123, Option.map_some, Option.map_none]
 by_cases o7 : i.op = 7
 ·have hop := o7
  have n1 : (i.op == 1) = false := by rw [hop]; rfl
  have n6 : (i.op == 6) = false := by rw [hop]; rfl
  have n11 : (i.op == 11) = false := by rw [hop]; rfl
  have n16 : (i.op == 16) = false := by rw [hop]; rfl
  have n2 : (i.op == 2) = false := by rw [hop]; rfl
  have n7 : (i.op == 7) = true := by rw [hop]; rfl
  have hp : partedR s c2 i = kn := by simp only [partedR, hop, hz0, hz1, hz16, hkn, hco, hca, hn1, hn16]; rfl
  refine fin kn [.ptr 1 0, C, .ptr h.length 0, .v (.bool kn), .v (.int .i64 i.op), .v (.bool false), .v (.bool true), .v undef, .v undef, .v undef, .v undef] h2 q2 rfl hp ?_
  simp only [start, c19, List.replicate, c19_0, c19_1, c19_2, c19_3, c19_4, c19_5, c19_7, c19_8, c19_11, cl, bx5, i0, i1, i2, i4, l2, Q122, Bool.not_true, Bool.not_false, Bool.true_and, Bool.false_and, Bool.and_true, Bool.and_false, n1, n6, n11, n16, n2, n7, ld2, hs2, e_callf, List.map_cons, List.map_nil, Q0, Q1, Q2, Q3, Q4, Q5, Q6, Q7, Q8, Q9, Q10, Q11, Q12, Q13, Q14, Q15, Q16, Q17, Q18, Q19, Q20, Q21, Q22, Q23, Q24, Q25, Q26, Q27, Q28, Q29, Q30, Q31, Q32, Q33, Q35, Q36, Q37, Q38, Q39, Q40, Q41, Q42, Q43, Q44, Q45, Q46, Q47, Q48, Q49, Q50, Q51, Q52, Q53, Q54, Q55, Q56, Q57, Q58, Q59, Q60, Q61, Q62, Q63, Q64, Q65, Q66, Q67, Q68, Q69, Q70, Q71, Q72, Q73, Q99, Q100, Q101, Q102, Q103, Q74, Q75, Q77, Q78, Q79, Q80, Q81, Q82, Q83, Q84, clr, List.length_nil, List.length_cons, List.getElem?_cons_zero, List.getElem?_cons_succ, Nat.reduceAdd, Nat.zero_add, Nat.add_zero, Nat.reduceLeDiff, Nat.reduceSub, ↓reduceIte, List.drop_succ_cons, List.drop_zero, List.take_succ_cons, List.take_zero, Bool.false_eq_true, List.nil_append, List.cons_append, Bool.not_true, Bool.not_false, cond_true, cond_false, bne, Q85, Q86, Q87, Q88, Q89, Q90, Q91, Q92, Q93, Q94, Q95, Q96, Q97, Q98, Q110, Q111, Q116, Q117, Q118, Q119, Q120, Q121, Q122, Q123, Option.map_some, Option.map_none]
 by_cases o12 : i.op = 12
 ·have hop := o12
  have n1 : (i.op == 1) = false := by rw [hop]; rfl
  have n6 : (i.op == 6) = false := by rw [hop]; rfl
  have n11 : (i.op == 11) = false := by rw [hop]; rfl
  have n16 : (i.op == 16) = false := by rw [hop]; rfl
  have n2 : (i.op == 2) = false := by rw [hop]; rfl
  have n7 : (i.op == 7) = false := by rw [hop]; rfl
  have n12 : (i.op == 12) = true := by rw [hop]; rfl
  have hp : partedR s c2 i = kn := by simp only [partedR, hop, hz0, hz1, hz16, hkn, hco, hca, hn1, hn16]; rfl
  refine fin kn [.ptr 1 0, C, .ptr h.length 0, .v (.bool kn), .v (.int .i64 i.op), .v (.bool false), .v (.bool true), .v undef, .v undef, .v undef, .v undef] h2 q2 rfl hp ?_
  simp only [start, c19, List.replicate, c19_0, c19_1, c19_2, c19_3, c19_4, c19_5, c19_7, c19_8, c19_9, c19_11, cl, bx5, i0, i1, i2, i4, l2, Q122, Bool.not_true, Bool.not_false, Bool.true_and, Bool.false_and, Bool.and_true, Bool.and_false, n1, n6, n11, n16, n2, n7, n12, ld2, hs2, e_callf, List.map_cons, List.map_nil, Q0, Q1, Q2, Q3, Q4, Q5, Q6, Q7, Q8, Q9, Q10, Q11, Q12, Q13, Q14, Q15, Q16, Q17, Q18, Q19, Q20, Q21, Q22, Q23, Q24, Q25, Q26, Q27, Q28, Q29, Q30, Q31, Q32, Q33, Q35, Q36, Q37, Q38, Q39, Q40, Q41, Q42, Q43, Q44, Q45, Q46, Q47, Q48, Q49, Q50, Q51, Q52, Q53, Q54, Q55, Q56, Q57, Q58, Q59, Q60, Q61, Q62, Q63, Q64, Q65, Q66, Q67, Q68, Q69, Q70, Q71, Q72, Q73, Q99, Q100, Q101, Q102, Q103, Q74, Q75, Q77, Q78, Q79, Q80, Q81, Q82, Q83, Q84, clr, List.length_nil, List.length_cons, List.getElem?_cons_zero, List.getElem?_cons_succ, Nat.reduceAdd, Nat.zero_add, Nat.add_zero, Nat.reduceLeDiff, Nat.reduceSub, ↓reduceIte, List.drop_succ_cons, List.drop_zero, List.take_succ_cons, List.take_zero, Bool.false_eq_true, List.nil_append, List.cons_append, Bool.not_true, Bool.not_false, cond_true, cond_false, bne, Q85, Q86, Q87, Q88, Q89, Q90, Q91, Q92, Q93, Q94, Q95, Q96, Q97, Q98, Q110, Q111, Q116, Q117, Q118, Q119, Q120, Q121, Q122, Q123, Option.map_some, Option.map_none]
 by_cases o17 : i.op = 17
 ·have hop := o17
  have n1 : (i.op == 1) = false := by rw [hop]; rfl
  have n6 : (i.op == 6) = false := by rw [hop]; rfl
  have n11 : (i.op == 11) = false := by rw [hop]; rfl
  have n16 : (i.op == 16) = false := by rw [hop]; rfl
  have n2 : (i.op == 2) = false := by rw [hop]; rfl
  have n7 : (i.op == 7) = false := by rw [hop]; rfl
  have n12 : (i.op == 12) = false := by rw [hop]; rfl
  have n17 : (i.op == 17) = true := by rw [hop]; rfl
  have hp : partedR s c2 i = kn := by simp only [partedR, hop, hz0, hz1, hz16, hkn, hco, hca, hn1, hn16]; rfl
  refine fin kn [.ptr 1 0, C, .ptr h.length 0, .v (.bool kn), .v (.int .i64 i.op), .v (.bool false), .v (.bool true), .v undef, .v undef, .v undef, .v undef] h2 q2 rfl hp ?_
  simp only [start, c19, List.replicate, c19_0, c19_1, c19_2, c19_3, c19_4, c19_5, c19_7, c19_8, c19_9, c19_10, c19_11, cl, bx5, i0, i1, i2, i4, l2, Q122, Bool.not_true, Bool.not_false, Bool.true_and, Bool.false_and, Bool.and_true, Bool.and_false, n1, n6, n11, n16, n2, n7, n12, n17, ld2, hs2, e_callf, List.map_cons, List.map_nil, Q0, Q1, Q2, Q3, Q4, Q5, Q6, Q7, Q8, Q9, Q10, Q11, Q12, Q13, Q14, Q15, Q16, Q17, Q18, Q19, Q20, Q21, Q22, Q23, Q24, Q25, Q26, Q27, Q28, Q29, Q30, Q31, Q32, Q33, Q35, Q36, Q37, Q38, Q39, Q40, Q41, Q42, Q43, Q44, Q45, Q46, Q47, Q48, Q49, Q50, Q51, Q52, Q53, Q54, Q55, Q56, Q57, Q58, Q59, Q60, Q61, Q62, Q63, Q64, Q65, Q66, Q67, Q68, Q69, Q70, Q71, Q72, Q73, Q99, Q100, Q101, Q102, Q103, Q74, Q75, Q77, Q78, Q79, Q80, Q81, Q82, Q83, Q84, clr, List.length_nil, List.length_cons, List.getElem?_cons_zero, List.getElem?_cons_succ, Nat.reduceAdd, Nat.zero_add, Nat.add_zero, Nat.reduceLeDiff, Nat.reduceSub, ↓reduceIte, List.drop_succ_cons, List.drop_zero, List.take_succ_cons, List.take_zero, Bool.false_eq_true, List.nil_append, List.cons_append, Bool.not_true, Bool.not_false, cond_true, cond_false, bne, Q85, Q86, Q87, Q88, Q89, Q90, Q91, Q92, Q93, Q94, Q95, Q96, Q97, Q98, Q110, Q111, Q116, Q117, Q118, Q119, Q120, Q121, Q122, Q123, Option.map_some, Option.map_none]
 by_cases o10 : i.op = 10
 ·have hop := o10
  have n1 : (i.op == 1) = false := by rw [hop]; rfl
  have n6 : (i.op == 6) = false := by rw [hop]; rfl
  have n11 : (i.op == 11) = false := by rw [hop]; rfl
  have n16 : (i.op == 16) = false := by rw [hop]; rfl
  have n2 : (i.op == 2) = false := by rw [hop]; rfl
  have n7 : (i.op == 7) = false := by rw [hop]; rfl
  have n12 : (i.op == 12) = false := by rw [hop]; rfl
  have n17 : (i.op == 17) = false := by rw [hop]; rfl
  have n10 : (i.op == 10) = true := by rw [hop]; rfl
  have hp : partedR s c2 i = (z16 && !co) := by simp only [partedR, hop, hz0, hz1, hz16, hkn, hco, hca, hn1, hn16]; rfl
  cases z16 with
  | false =>
   refine fin false [.ptr 1 0, C, .ptr h.length 0, .v (.bool false), .v (.int .i64 i.op), .v (.bool false), .v (.bool false), .v (.bool true), .v undef, .v undef, .v undef] h same0 rfl (by rw [hp]; rfl) ?_
   simp only [start, c19, List.replicate, c19_0, c19_1, c19_2, c19_3, c19_4, c19_5, c19_7, c19_8, c19_9, c19_10, c19_12, c19_13, cl, bx5, i0, i1, i2, i4, l2, Q122, Bool.not_true, Bool.not_false, Bool.true_and, Bool.false_and, Bool.and_true, Bool.and_false, n1, n6, n11, n16, n2, n7, n12, n17, n10, hz16, Q0, Q1, Q2, Q3, Q4, Q5, Q6, Q7, Q8, Q9, Q10, Q11, Q12, Q13, Q14, Q15, Q16, Q17, Q18, Q19, Q20, Q21, Q22, Q23, Q24, Q25, Q26, Q27, Q28, Q29, Q30, Q31, Q32, Q33, Q35, Q36, Q37, Q38, Q39, Q40, Q41, Q42, Q43, Q44, Q45, Q46, Q47, Q48, Q49, Q50, Q51, Q52, Q53, Q54, Q55, Q56, Q57, Q58, Q59, Q60, Q61, Q62, Q63, Q64, Q65, Q66, Q67, Q68, Q69, Q70, Q71, Q72, Q73, Q99, Q100, Q101, Q102, Q103, Q74, Q75, Q77, Q78, Q79, Q80, Q81, Q82, Q83, Q84, clr, List.length_nil, List.length_cons, List.getElem?_cons_zero, List.getElem?_cons_succ, Nat.reduceAdd, Nat.zero_add, Nat.add_zero, Nat.reduceLeDiff, Nat.reduceSub, ↓reduceIte, List.drop_succ_cons, List.drop_zero, List.take_succ_cons, List.take_zero, Bool.false_eq_true, List.nil_append, List.cons_append, Bool.not_true, Bool.not_false, cond_true, cond_false, bne, Q85, Q86, Q87, Q88, Q89, Q90, Q91, Q92, Q93, Q94, Q95, Q96, Q97, Q98, Q110, Q111, Q116, Q117, Q118, Q119, Q120, Q121, Q122, Q123, Option.map_some, Option.map_none]
  | true =>
   refine fin (!co) [.ptr 1 0, C, .ptr h.length 0, .v (.bool (!co)), .v (.int .i64 i.op), .v (.bool false), .v (.bool false), .v (.bool true), .v undef, .v undef, .v undef] h1 q1 rfl (by rw [hp]; rfl) ?_
   simp only [start, c19, List.replicate, c19_0, c19_1, c19_2, c19_3, c19_4, c19_5, c19_7, c19_8, c19_9, c19_10, c19_12, c19_13, cl, bx5, i0, i1, i2, i4, l2, Q122, Bool.not_true, Bool.not_false, Bool.true_and, Bool.false_and, Bool.and_true, Bool.and_false, n1, n6, n11, n16, n2, n7, n12, n17, n10, hz16, ld1, hs1, e_callf, List.map_cons, List.map_nil, Q0, Q1, Q2, Q3, Q4, Q5, Q6, Q7, Q8, Q9, Q10, Q11, Q12, Q13, Q14, Q15, Q16, Q17, Q18, Q19, Q20, Q21, Q22, Q23, Q24, Q25, Q26, Q27, Q28, Q29, Q30, Q31, Q32, Q33, Q35, Q36, Q37, Q38, Q39, Q40, Q41, Q42, Q43, Q44, Q45, Q46, Q47, Q48, Q49, Q50, Q51, Q52, Q53, Q54, Q55, Q56, Q57, Q58, Q59, Q60, Q61, Q62, Q63, Q64, Q65, Q66, Q67, Q68, Q69, Q70, Q71, Q72, Q73, Q99, Q100, Q101, Q102, Q103, Q74, Q75, Q77, Q78, Q79, Q80, Q81, Q82, Q83, Q84, clr, List.length_nil, List.length_cons, List.getElem?_cons_zero, List.getElem?_cons_succ, Nat.reduceAdd, Nat.zero_add, Nat.add_zero, Nat.reduceLeDiff, Nat.reduceSub, ↓reduceIte, List.drop_succ_cons, List.drop_zero, List.take_succ_cons, List.take_zero, Bool.false_eq_true, List.nil_append, List.cons_append, Bool.not_true, Bool.not_false, cond_true, cond_false, bne, Q85, Q86, Q87, Q88, Q89, Q90, Q91, Q92, Q93, Q94, Q95, Q96, Q97, Q98, Q110, Q111, Q116, Q117, Q118, Q119, Q120, Q121, Q122, Q123, Option.map_some, Option.map_none]
 by_cases o20 : i.op = 20
 ·have hop := o20
  have n1 : (i.op == 1) = false := by rw [hop]; rfl
  have n6 : (i.op == 6) = false := by rw [hop]; rfl
  have n11 : (i.op == 11) = false := by rw [hop]; rfl
  have n16 : (i.op == 16) = false := by rw [hop]; rfl
  have n2 : (i.op == 2) = false := by rw [hop]; rfl
  have n7 : (i.op == 7) = false := by rw [hop]; rfl
  have n12 : (i.op == 12) = false := by rw [hop]; rfl
  have n17 : (i.op == 17) = false := by rw [hop]; rfl
  have n10 : (i.op == 10) = false := by rw [hop]; rfl
  have n20 : (i.op == 20) = true := by rw [hop]; rfl
  have hp : partedR s c2 i = (z16 && co) := by simp only [partedR, hop, hz0, hz1, hz16, hkn, hco, hca, hn1, hn16]; rfl
  cases z16 with
  | false =>
   refine fin false [.ptr 1 0, C, .ptr h.length 0, .v (.bool false), .v (.int .i64 i.op), .v (.bool false), .v (.bool false), .v (.bool false), .v (.bool true), .v undef, .v undef] h same0 rfl (by rw [hp]; rfl) ?_
   simp only [start, c19, List.replicate, c19_0, c19_1, c19_2, c19_3, c19_4, c19_5, c19_7, c19_8, c19_9, c19_10, c19_12, c19_14, c19_15, cl, bx5, i0, i1, i2, i4, l2, Q122, Bool.not_true, Bool.not_false, Bool.true_and, Bool.false_and, Bool.and_true, Bool.and_false, n1, n6, n11, n16, n2, n7, n12, n17, n10, n20, hz16, Q0, Q1, Q2, Q3, Q4, Q5, Q6, Q7, Q8, Q9, Q10, Q11, Q12, Q13, Q14, Q15, Q16, Q17, Q18, Q19, Q20, Q21, Q22, Q23, Q24, Q25, Q26, Q27, Q28, Q29, Q30, Q31, Q32, Q33, Q35, Q36, Q37, Q38, Q39, Q40, Q41, Q42, Q43, Q44, Q45, Q46, Q47, Q48, Q49, Q50, Q51, Q52, Q53, Q54, Q55, Q56, Q57, Q58, Q59, Q60, Q61, Q62, Q63, Q64, Q65, Q66, Q67, Q68, Q69, Q70, Q71, Q72, Q73, Q99, Q100, Q101, Q102, Q103, Q74, Q75, Q77, Q78, Q79, Q80, Q81, Q82, Q83, Q84, clr, List.length_nil, List.length_cons, List.getElem?_cons_zero, List.getElem?_cons_succ, Nat.reduceAdd, Nat.zero_add, Nat.add_zero, Nat.reduceLeDiff, Nat.reduceSub, ↓reduceIte, List.drop_succ_cons, List.drop_zero, List.take_succ_cons, List.take_zero, Bool.false_eq_true, List.nil_append, List.cons_append, Bool.not_true, Bool.not_false, cond_true, cond_false, bne, Q85, Q86, Q87, Q88, Q89, Q90, Q91, Q92, Q93, Q94, Q95, Q96, Q97, Q98, Q110, Q111, Q116, Q117, Q118, Q119, Q120, Q121, Q122, Q123, Option.map_some, Option.map_none]
  | true =>
   refine fin (co) [.ptr 1 0, C, .ptr h.length 0, .v (.bool co), .v (.int .i64 i.op), .v (.bool false), .v (.bool false), .v (.bool false), .v (.bool true), .v undef, .v undef] h1 q1 rfl (by rw [hp]; rfl) ?_
   simp only [start, c19, List.replicate, c19_0, c19_1, c19_2, c19_3, c19_4, c19_5, c19_7, c19_8, c19_9, c19_10, c19_12, c19_14, c19_15, cl, bx5, i0, i1, i2, i4, l2, Q122, Bool.not_true, Bool.not_false, Bool.true_and, Bool.false_and, Bool.and_true, Bool.and_false, n1, n6, n11, n16, n2, n7, n12, n17, n10, n20, hz16, ld1, hs1, e_callf, List.map_cons, List.map_nil, Q0, Q1, Q2, Q3, Q4, Q5, Q6, Q7, Q8, Q9, Q10, Q11, Q12, Q13, Q14, Q15, Q16, Q17, Q18, Q19, Q20, Q21, Q22, Q23, Q24, Q25, Q26, Q27, Q28, Q29, Q30, Q31, Q32, Q33, Q35, Q36, Q37, Q38, Q39, Q40, Q41, Q42, Q43, Q44, Q45, Q46, Q47, Q48, Q49, Q50, Q51, Q52, Q53, Q54, Q55, Q56, Q57, Q58, Q59, Q60, Q61, Q62, Q63, Q64, Q65, Q66, Q67, Q68, Q69, Q70, Q71, Q72, Q73, Q99, Q100, Q101, Q102, Q103, Q74, Q75, Q77, Q78, Q79, Q80, Q81, Q82, Q83, Q84, clr, List.length_nil, List.length_cons, List.getElem?_cons_zero, List.getElem?_cons_succ, Nat.reduceAdd, Nat.zero_add, Nat.add_zero, Nat.reduceLeDiff, Nat.reduceSub, ↓reduceIte, List.drop_succ_cons, List.drop_zero, List.take_succ_cons, List.take_zero, Bool.false_eq_true, List.nil_append, List.cons_append, Bool.not_true, Bool.not_false, cond_true, cond_false, bne, Q85, Q86, Q87, Q88, Q89, Q90, Q91, Q92, Q93, Q94, Q95, Q96, Q97, Q98, Q110, Q111, Q116, Q117, Q118, Q119, Q120, Q121, Q122, Q123, Option.map_some, Option.map_none]
 by_cases o5 : i.op = 5
 ·have hop := o5
  have n1 : (i.op == 1) = false := by rw [hop]; rfl
  have n6 : (i.op == 6) = false := by rw [hop]; rfl
  have n11 : (i.op == 11) = false := by rw [hop]; rfl
  have n16 : (i.op == 16) = false := by rw [hop]; rfl
  have n2 : (i.op == 2) = false := by rw [hop]; rfl
  have n7 : (i.op == 7) = false := by rw [hop]; rfl
  have n12 : (i.op == 12) = false := by rw [hop]; rfl
  have n17 : (i.op == 17) = false := by rw [hop]; rfl
  have n10 : (i.op == 10) = false := by rw [hop]; rfl
  have n20 : (i.op == 20) = false := by rw [hop]; rfl
  have n5 : (i.op == 5) = true := by rw [hop]; rfl
  have hp : partedR s c2 i = (m1 && m16) := by simp only [partedR, hop, hz0, hz1, hz16, hkn, hco, hca, hn1, hn16]; rfl
  cases m1 with
  | false =>
   refine fin false [.ptr 1 0, C, .ptr h.length 0, .v (.bool false), .v (.int .i64 i.op), .v (.bool false), .v (.bool false), .v (.bool false), .v (.bool false), .v (.bool true), .v undef] h same0 rfl (by rw [hp]; rfl) ?_
   simp only [start, c19, List.replicate, c19_0, c19_1, c19_2, c19_3, c19_4, c19_5, c19_7, c19_8, c19_9, c19_10, c19_12, c19_14, c19_16, c19_18, cl, bx5, i0, i1, i2, i4, l2, Q122, Bool.not_true, Bool.not_false, Bool.true_and, Bool.false_and, Bool.and_true, Bool.and_false, n1, n6, n11, n16, n2, n7, n12, n17, n10, n20, n5, hn1, Q0, Q1, Q2, Q3, Q4, Q5, Q6, Q7, Q8, Q9, Q10, Q11, Q12, Q13, Q14, Q15, Q16, Q17, Q18, Q19, Q20, Q21, Q22, Q23, Q24, Q25, Q26, Q27, Q28, Q29, Q30, Q31, Q32, Q33, Q35, Q36, Q37, Q38, Q39, Q40, Q41, Q42, Q43, Q44, Q45, Q46, Q47, Q48, Q49, Q50, Q51, Q52, Q53, Q54, Q55, Q56, Q57, Q58, Q59, Q60, Q61, Q62, Q63, Q64, Q65, Q66, Q67, Q68, Q69, Q70, Q71, Q72, Q73, Q99, Q100, Q101, Q102, Q103, Q74, Q75, Q77, Q78, Q79, Q80, Q81, Q82, Q83, Q84, clr, List.length_nil, List.length_cons, List.getElem?_cons_zero, List.getElem?_cons_succ, Nat.reduceAdd, Nat.zero_add, Nat.add_zero, Nat.reduceLeDiff, Nat.reduceSub, ↓reduceIte, List.drop_succ_cons, List.drop_zero, List.take_succ_cons, List.take_zero, Bool.false_eq_true, List.nil_append, List.cons_append, Bool.not_true, Bool.not_false, cond_true, cond_false, bne, Q85, Q86, Q87, Q88, Q89, Q90, Q91, Q92, Q93, Q94, Q95, Q96, Q97, Q98, Q110, Q111, Q116, Q117, Q118, Q119, Q120, Q121, Q122, Q123, Option.map_some, Option.map_none]
  | true =>
   refine fin m16 [.ptr 1 0, C, .ptr h.length 0, .v (.bool m16), .v (.int .i64 i.op), .v (.bool false), .v (.bool false), .v (.bool false), .v (.bool false), .v (.bool true), .v undef] h same0 rfl (by rw [hp]; rfl) ?_
   simp only [start, c19, List.replicate, c19_0, c19_1, c19_2, c19_3, c19_4, c19_5, c19_7, c19_8, c19_9, c19_10, c19_12, c19_14, c19_16, c19_18, cl, bx5, i0, i1, i2, i4, l2, Q122, Bool.not_true, Bool.not_false, Bool.true_and, Bool.false_and, Bool.and_true, Bool.and_false, n1, n6, n11, n16, n2, n7, n12, n17, n10, n20, n5, hn1, hn16, Q0, Q1, Q2, Q3, Q4, Q5, Q6, Q7, Q8, Q9, Q10, Q11, Q12, Q13, Q14, Q15, Q16, Q17, Q18, Q19, Q20, Q21, Q22, Q23, Q24, Q25, Q26, Q27, Q28, Q29, Q30, Q31, Q32, Q33, Q35, Q36, Q37, Q38, Q39, Q40, Q41, Q42, Q43, Q44, Q45, Q46, Q47, Q48, Q49, Q50, Q51, Q52, Q53, Q54, Q55, Q56, Q57, Q58, Q59, Q60, Q61, Q62, Q63, Q64, Q65, Q66, Q67, Q68, Q69, Q70, Q71, Q72, Q73, Q99, Q100, Q101, Q102, Q103, Q74, Q75, Q77, Q78, Q79, Q80, Q81, Q82, Q83, Q84, clr, List.length_nil, List.length_cons, List.getElem?_cons_zero, List.getElem?_cons_succ, Nat.reduceAdd, Nat.zero_add, Nat.add_zero, Nat.reduceLeDiff, Nat.reduceSub, ↓reduceIte, List.drop_succ_cons, List.drop_zero, List.take_succ_cons, List.take_zero, Bool.false_eq_true, List.nil_append, List.cons_append, Bool.not_true, Bool.not_false, cond_true, cond_false, bne, Q85, Q86, Q87, Q88, Q89, Q90, Q91, Q92, Q93, Q94, Q95, Q96, Q97, Q98, Q110, Q111, Q116, Q117, Q118, Q119, Q120, Q121, Q122, Q123, Option.map_some, Option.map_none]
 by_cases o15 : i.op = 15
 ·have hop := o15
  have n1 : (i.op == 1) = false := by rw [hop]; rfl
  have n6 : (i.op == 6) = false := by rw [hop]; rfl
  have n11 : (i.op == 11) = false := by rw [hop]; rfl
  have n16 : (i.op == 16) = false := by rw [hop]; rfl
  have n2 : (i.op == 2) = false := by rw [hop]; rfl
  have n7 : (i.op == 7) = false := by rw [hop]; rfl
  have n12 : (i.op == 12) = false := by rw [hop]; rfl
  have n17 : (i.op == 17) = false := by rw [hop]; rfl
  have n10 : (i.op == 10) = false := by rw [hop]; rfl
  have n20 : (i.op == 20) = false := by rw [hop]; rfl
  have n5 : (i.op == 5) = false := by rw [hop]; rfl
  have n15 : (i.op == 15) = true := by rw [hop]; rfl
  have hp : partedR s c2 i = (m1 && m16) := by simp only [partedR, hop, hz0, hz1, hz16, hkn, hco, hca, hn1, hn16]; rfl
  cases m1 with
  | false =>
   refine fin false [.ptr 1 0, C, .ptr h.length 0, .v (.bool false), .v (.int .i64 i.op), .v (.bool false), .v (.bool false), .v (.bool false), .v (.bool false), .v (.bool true), .v undef] h same0 rfl (by rw [hp]; rfl) ?_
   simp only [start, c19, List.replicate, c19_0, c19_1, c19_2, c19_3, c19_4, c19_5, c19_7, c19_8, c19_9, c19_10, c19_12, c19_14, c19_16, c19_17, c19_18, cl, bx5, i0, i1, i2, i4, l2, Q122, Bool.not_true, Bool.not_false, Bool.true_and, Bool.false_and, Bool.and_true, Bool.and_false, n1, n6, n11, n16, n2, n7, n12, n17, n10, n20, n5, n15, hn1, Q0, Q1, Q2, Q3, Q4, Q5, Q6, Q7, Q8, Q9, Q10, Q11, Q12, Q13, Q14, Q15, Q16, Q17, Q18, Q19, Q20, Q21, Q22, Q23, Q24, Q25, Q26, Q27, Q28, Q29, Q30, Q31, Q32, Q33, Q35, Q36, Q37, Q38, Q39, Q40, Q41, Q42, Q43, Q44, Q45, Q46, Q47, Q48, Q49, Q50, Q51, Q52, Q53, Q54, Q55, Q56, Q57, Q58, Q59, Q60, Q61, Q62, Q63, Q64, Q65, Q66, Q67, Q68, Q69, Q70, Q71, Q72, Q73, Q99, Q100, Q101, Q102, Q103, Q74, Q75, Q77, Q78, Q79, Q80, Q81, Q82, Q83, Q84, clr, List.length_nil, List.length_cons, List.getElem?_cons_zero, List.getElem?_cons_succ, Nat.reduceAdd, Nat.zero_add, Nat.add_zero, Nat.reduceLeDiff, Nat.reduceSub, ↓reduceIte, List.drop_succ_cons, List.drop_zero, List.take_succ_cons, List.take_zero, Bool.false_eq_true, List.nil_append, List.cons_append, Bool.not_true, Bool.not_false, cond_true, cond_false, bne, Q85, Q86, Q87, Q88, Q89, Q90, Q91, Q92, Q93, Q94, Q95, Q96, Q97, Q98, Q110, Q111, Q116, Q117, Q118, Q119, Q120, Q121, Q122, Q123, Option.map_some, Option.map_none]
  | true =>
   refine fin m16 [.ptr 1 0, C, .ptr h.length 0, .v (.bool m16), .v (.int .i64 i.op), .v (.bool false), .v (.bool false), .v (.bool false), .v (.bool false), .v (.bool true), .v undef] h same0 rfl (by rw [hp]; rfl) ?_
   simp only [start, c19, List.replicate, c19_0, c19_1, c19_2, c19_3, c19_4, c19_5, c19_7, c19_8, c19_9, c19_10, c19_12, c19_14, c19_16, c19_17, c19_18, cl, bx5, i0, i1, i2, i4, l2, Q122, Bool.not_true, Bool.not_false, Bool.true_and, Bool.false_and, Bool.and_true, Bool.and_false, n1, n6, n11, n16, n2, n7, n12, n17, n10, n20, n5, n15, hn1, hn16, Q0, Q1, Q2, Q3, Q4, Q5, Q6, Q7, Q8, Q9, Q10, Q11, Q12, Q13, Q14, Q15, Q16, Q17, Q18, Q19, Q20, Q21, Q22, Q23, Q24, Q25, Q26, Q27, Q28, Q29, Q30, Q31, Q32, Q33, Q35, Q36, Q37, Q38, Q39, Q40, Q41, Q42, Q43, Q44, Q45, Q46, Q47, Q48, Q49, Q50, Q51, Q52, Q53, Q54, Q55, Q56, Q57, Q58, Q59, Q60, Q61, Q62, Q63, Q64, Q65, Q66, Q67, Q68, Q69, Q70, Q71, Q72, Q73, Q99, Q100, Q101, Q102, Q103, Q74, Q75, Q77, Q78, Q79, Q80, Q81, Q82, Q83, Q84, clr, List.length_nil, List.length_cons, List.getElem?_cons_zero, List.getElem?_cons_succ, Nat.reduceAdd, Nat.zero_add, Nat.add_zero, Nat.reduceLeDiff, Nat.reduceSub, ↓reduceIte, List.drop_succ_cons, List.drop_zero, List.take_succ_cons, List.take_zero, Bool.false_eq_true, List.nil_append, List.cons_append, Bool.not_true, Bool.not_false, cond_true, cond_false, bne, Q85, Q86, Q87, Q88, Q89, Q90, Q91, Q92, Q93, Q94, Q95, Q96, Q97, Q98, Q110, Q111, Q116, Q117, Q118, Q119, Q120, Q121, Q122, Q123, Option.map_some, Option.map_none]
 by_cases o21 : i.op = 21
 ·have hop := o21
  have n1 : (i.op == 1) = false := by rw [hop]; rfl
  have n6 : (i.op == 6) = false := by rw [hop]; rfl
  have n11 : (i.op == 11) = false := by rw [hop]; rfl
  have n16 : (i.op == 16) = false := by rw [hop]; rfl
  have n2 : (i.op == 2) = false := by rw [hop]; rfl
  have n7 : (i.op == 7) = false := by rw [hop]; rfl
  have n12 : (i.op == 12) = false := by rw [hop]; rfl
  have n17 : (i.op == 17) = false := by rw [hop]; rfl
  have n10 : (i.op == 10) = false := by rw [hop]; rfl
  have n20 : (i.op == 20) = false := by rw [hop]; rfl
  have n5 : (i.op == 5) = false := by rw [hop]; rfl
  have n15 : (i.op == 15) = false := by rw [hop]; rfl
  have n21 : (i.op == 21) = true := by rw [hop]; rfl
  have hp : partedR s c2 i = ca := by simp only [partedR, hop, hz0, hz1, hz16, hkn, hco, hca, hn1, hn16]; rfl
  refine fin ca [.ptr 1 0, C, .ptr h.length 0, .v (.bool ca), .v (.int .i64 i.op), .v (.bool false), .v (.bool false), .v (.bool false), .v (.bool false), .v (.bool false), .v (.bool true)] h4 q4 rfl hp ?_
  simp only [start, c19, List.replicate, c19_0, c19_1, c19_2, c19_3, c19_4, c19_5, c19_7, c19_8, c19_9, c19_10, c19_12, c19_14, c19_16, c19_17, c19_19, c19_20, cl, bx5, i0, i1, i2, i4, l2, Q122, Bool.not_true, Bool.not_false, Bool.true_and, Bool.false_and, Bool.and_true, Bool.and_false, n1, n6, n11, n16, n2, n7, n12, n17, n10, n20, n5, n15, n21, k4, e_callh, List.map_cons, List.map_nil, Q0, Q1, Q2, Q3, Q4, Q5, Q6, Q7, Q8, Q9, Q10, Q11, Q12, Q13, Q14, Q15, Q16, Q17, Q18, Q19, Q20, Q21, Q22, Q23, Q24, Q25, Q26, Q27, Q28, Q29, Q30, Q31, Q32, Q33, Q35, Q36, Q37, Q38, Q39, Q40, Q41, Q42, Q43, Q44, Q45, Q46, Q47, Q48, Q49, Q50, Q51, Q52, Q53, Q54, Q55, Q56, Q57, Q58, Q59, Q60, Q61, Q62, Q63, Q64, Q65, Q66, Q67, Q68, Q69, Q70, Q71, Q72, Q73, Q99, Q100, Q101, Q102, Q103, Q74, Q75, Q77, Q78, Q79, Q80, Q81, Q82, Q83, Q84, clr, List.length_nil, List.length_cons, List.getElem?_cons_zero, List.getElem?_cons_succ, Nat.reduceAdd, Nat.zero_add, Nat.add_zero, Nat.reduceLeDiff, Nat.reduceSub, ↓reduceIte, List.drop_succ_cons, List.drop_zero, List.take_succ_cons, List.take_zero, Bool.false_eq_true, List.nil_append, List.cons_append, Bool.not_true, Bool.not_false, cond_true, cond_false, bne, Q85, Q86, Q87, Q88, Q89, Q90, Q91, Q92, Q93, Q94, Q95, Q96, Q97, Q98, Q110, Q111, Q116, Q117, Q118, Q119, Q120, Q121, Q122, Q123, Option.map_some, Option.map_none]
 have n1 : (i.op == 1) = false := beq_eq_false_iff_ne.2 o1
 have n6 : (i.op == 6) = false := beq_eq_false_iff_ne.2 o6
 have n11 : (i.op == 11) = false := beq_eq_false_iff_ne.2 o11
 have n16 : (i.op == 16) = false := beq_eq_false_iff_ne.2 o16
 have n2 : (i.op == 2) = false := beq_eq_false_iff_ne.2 o2
 have n7 : (i.op == 7) = false := beq_eq_false_iff_ne.2 o7
 have n12 : (i.op == 12) = false := beq_eq_false_iff_ne.2 o12
 have n17 : (i.op == 17) = false := beq_eq_false_iff_ne.2 o17
 have n10 : (i.op == 10) = false := beq_eq_false_iff_ne.2 o10
 have n20 : (i.op == 20) = false := beq_eq_false_iff_ne.2 o20
 have n5 : (i.op == 5) = false := beq_eq_false_iff_ne.2 o5
 have n15 : (i.op == 15) = false := beq_eq_false_iff_ne.2 o15
 have n21 : (i.op == 21) = false := beq_eq_false_iff_ne.2 o21
 have hp : partedR s c2 i = true := by simp [partedR, isVarR, isValR, n1, n6, n11, n16, n2, n7, n12, n17, n10, n20, n5, n15, n21]
 refine fin true [.ptr 1 0, C, .ptr h.length 0, .v (.bool true), .v (.int .i64 i.op), .v (.bool false), .v (.bool false), .v (.bool false), .v (.bool false), .v (.bool false), .v (.bool false)] h same0 rfl hp ?_
 simp only [start, c19, List.replicate, c19_0, c19_1, c19_2, c19_3, c19_4, c19_5, c19_7, c19_8, c19_9, c19_10, c19_12, c19_14, c19_16, c19_17, c19_19, c19_21, cl, bx5, i0, Q122, n1, n6, n11, n16, n2, n7, n12, n17, n10, n20, n5, n15, n21, Q0, Q1, Q2, Q3, Q4, Q5, Q6, Q7, Q8, Q9, Q10, Q11, Q12, Q13, Q14, Q15, Q16, Q17, Q18, Q19, Q20, Q21, Q22, Q23, Q24, Q25, Q26, Q27, Q28, Q29, Q30, Q31, Q32, Q33, Q35, Q36, Q37, Q38, Q39, Q40, Q41, Q42, Q43, Q44, Q45, Q46, Q47, Q48, Q49, Q50, Q51, Q52, Q53, Q54, Q55, Q56, Q57, Q58, Q59, Q60, Q61, Q62, Q63, Q64, Q65, Q66, Q67, Q68, Q69, Q70, Q71, Q72, Q73, Q99, Q100, Q101, Q102, Q103, Q74, Q75, Q77, Q78, Q79, Q80, Q81, Q82, Q83, Q84, clr, List.length_nil, List.length_cons, List.getElem?_cons_zero, List.getElem?_cons_succ, Nat.reduceAdd, Nat.zero_add, Nat.add_zero, Nat.reduceLeDiff, Nat.reduceSub, ↓reduceIte, List.drop_succ_cons, List.drop_zero, List.take_succ_cons, List.take_zero, Bool.false_eq_true, List.nil_append, List.cons_append, Bool.not_true, Bool.not_false, cond_true, cond_false, bne, Q85, Q86, Q87, Q88, Q89, Q90, Q91, Q92, Q93, Q94, Q95, Q96, Q97, Q98, Q110, Q111, Q116, Q117, Q118, Q119, Q120, Q121, Q122, Q123, Option.map_some, Option.map_none]
end
end Go.AE.YtghgbbiklkpbnaaDoor
end

section
namespace Go.AE.YtghgbbiklkpbnaaDoor
open Go Go.AE Go.Proofs.YtghgbbiklkpbnaaDoor

theorem Rk.ne1 {h : List AO} {x : AV} {l : List Int} {bt : TypeId} {cs : List AV} (r : Rk h x l) (e : h[1]? = some (.box bt cs)) {id : Nat} (hi : rid x = some id) : id ≠ 1 := by
 obtain ⟨_, v, k, e2⟩ := r.lt hi
 rintro rfl
 rw [e] at e2; cases e2
theorem Rk.set1 {h : List AO} {x : AV} {l : List Int} {bt : TypeId} {cs : List AV} (r : Rk h x l) (e : h[1]? = some (.box bt cs)) (o : AO) : Rk (h.set 1 o) x l :=
 r.of fun id hi => List.getElem?_set_ne (Ne.symm (r.ne1 e hi))
section
variable {c0 c3 : AV} {c1 c2 : Int} {s : RS} {h : List AO}
theorem Sp.put {x y x' y' v : AV} {t : RS} {k : Nat} (e1 : h[1]? = some (.box 54 (rC c0 c1 c2 c3 x y s))) (hv : v.cl = some [v]) (hk : k + 1 ≤ 10) (hp : Q112 (rC c0 c1 c2 c3 x y s) k [v] = rC c0 c1 c2 c3 x' y' t)
  (e2 : Rk h x' t.regs) (e3 : Rk h y' t.known) (e4 : ∀ i, rid x' = some i → rid y' ≠ some i) (hb : h.all (AO.below h.length) = true) (b0 : c0.below1 0 = true) (b3 : c3.below1 0 = true) :
  ∃ h', Q113 h 1 (.ptr 1 k) v = some h' ∧ Sp c0 c1 c2 c3 h' t ∧ h'.length = h.length ∧ Bx h h' := by
 have h1 := (List.getElem?_eq_some_iff.1 e1).1
 refine ⟨h.set 1 (.box 54 (rC c0 c1 c2 c3 x' y' t)), ?_, ⟨⟨x', y', by simp [h1], e2.set1 e1 _, e3.set1 e1 _, e4⟩, ?_, b0, b3⟩, by simp, .set1⟩
 ·rw [bx_st e1 (n := 1) (xs := [v]) hv rfl (by simpa [rC] using hk), hp]
 ·exact all_set hb (rC_below b0 b3 (e2.below fun id hi => (e2.lt hi).1) (e3.below fun id hi => (e3.lt hi).1))
theorem Sp.st6 (p : Sp c0 c1 c2 c3 h s) (q : Int) : ∃ h', Q113 h 1 (.ptr 1 6) (.v (.int .i64 q)) = some h' ∧ Sp c0 c1 c2 c3 h' { s with parts := q } ∧ h'.length = h.length ∧ Bx h h' := by
 obtain ⟨x, y, e1, e2, e3, e4⟩ := p.ex
 exact Sp.put e1 rfl (by omega) rfl e2 e3 e4 p.bel p.b0 p.b3
theorem Sp.st7 (p : Sp c0 c1 c2 c3 h s) (q : Bool) : ∃ h', Q113 h 1 (.ptr 1 7) (.v (.bool q)) = some h' ∧ Sp c0 c1 c2 c3 h' { s with ofGet := q } ∧ h'.length = h.length ∧ Bx h h' := by
 obtain ⟨x, y, e1, e2, e3, e4⟩ := p.ex
 exact Sp.put e1 rfl (by omega) rfl e2 e3 e4 p.bel p.b0 p.b3
theorem Sp.st8 (p : Sp c0 c1 c2 c3 h s) (q : Bool) : ∃ h', Q113 h 1 (.ptr 1 8) (.v (.bool q)) = some h' ∧ Sp c0 c1 c2 c3 h' { s with inHead := q } ∧ h'.length = h.length ∧ Bx h h' := by
 obtain ⟨x, y, e1, e2, e3, e4⟩ := p.ex
 exact Sp.put e1 rfl (by omega) rfl e2 e3 e4 p.bel p.b0 p.b3
theorem Sp.st9 (p : Sp c0 c1 c2 c3 h s) (q : Int) : ∃ h', Q113 h 1 (.ptr 1 9) (.v (.int .i64 q)) = some h' ∧ Sp c0 c1 c2 c3 h' { s with under := q } ∧ h'.length = h.length ∧ Bx h h' := by
 obtain ⟨x, y, e1, e2, e3, e4⟩ := p.ex
 exact Sp.put e1 rfl (by omega) rfl e2 e3 e4 p.bel p.b0 p.b3
theorem Sp.clr (p : Sp c0 c1 c2 c3 h s) : ∃ h', Q113 h 1 (.ptr 1 4) (.v (.slice none 0 0)) = some h' ∧ Sp c0 c1 c2 c3 h' { s with regs := [] } ∧ h'.length = h.length ∧ Bx h h' := by
 obtain ⟨x, y, e1, e2, e3, e4⟩ := p.ex
 exact Sp.put (t := { s with regs := [] }) (x' := .v (.slice none 0 0)) e1 rfl (by omega) rfl .nil e3 (fun _ hi => by cases hi) p.bel p.b0 p.b3
theorem Rk.add {x : AV} {l : List Int} (r : Rk h x l) (hl : l.length ≤ 900000) (hb : h.all (AO.below h.length) = true) (n : Int) :
  ∃ c' h1, evAppend h 3 1 8 x (.slc 1 true true [iv n]) = some (c', h1) ∧ Rk h1 c' (l ++ [n]) ∧ h.length ≤ h1.length ∧ Bx h h1 ∧ h1.all (AO.below h1.length) = true ∧ (∀ i, i < h.length → rid x ≠ some i → h1[i]? = h[i]?) ∧ (∀ i, rid c' = some i → rid x = some i ∨ h.length ≤ i) ∧ c'.cl = some [c'] := by
 cases r with
 | nil =>
  refine ⟨.own 1 h.length 0 0 1, h ++ [.row 3 1 0 [iv n] 0], ap_new (by simp) (fits_small (by simp) (by omega)), .own _ _ 0 [n] (by simp) (by simp), by simp, .app _ _, ?_, fun i hi _ => List.getElem?_append_left hi, fun i hi => ?_, rfl⟩
  ·rw [List.all_append, Bool.and_eq_true]
   exact ⟨all_below_mono (by simp) hb, rfl⟩
  ·cases hi; exact .inr (Nat.le_refl _)
 | own id ver kk l hr hk =>
  have hlt := (List.getElem?_eq_some_iff.1 hr).1
  have hra : rowAt h 1 id ver (0 + l.length) = some (l.map iv, kk) := row_at hr (by simp)
  have hrt : rowT h id = 3 := by simp only [rowT, hr]
  have fit : fits (l.length + 1) 8 = true := fits_small (by omega) (by omega)
  refine ⟨.own 1 id (ver + 1) 0 (l.length + 1), h.set id (.row 3 1 (ver + 1) ((l ++ [n]).map iv) kk), ?_, ?_, by simp, .setR hr, all_set hb rfl, fun i hi hne => ?_, fun i hi => .inl hi, rfl⟩
  ·have e : ((l.map iv).drop 0).take l.length = l.map iv := by rw [List.drop_zero, List.take_of_length_le (by simp)]
   rw [evAppend, elems_one]
   simp only [evAppendL, if_true, hra, hrt, show kk ≤ 0 + l.length by omega, and_self]
   rw [if_neg (by simp), if_pos (by simpa using fit), e, List.map_append]
   rfl
  ·have : (l ++ [n]).length = l.length + 1 := by simp
   rw [← this]
   exact .own id (ver + 1) kk (l ++ [n]) (by simp [hlt]) (by simp; omega)
  ·exact List.getElem?_set_ne (fun e => hne (by simp [rid, e]))
theorem Sp.add4 (p : Sp c0 c1 c2 c3 h s) (hm : s.regs.length ≤ 900000) (n : Int) : ∃ M c' h1 h', Q76 h false 1 (.ptr 1 4) = some M ∧ evAppend h 3 1 8 M (.slc 1 true true [iv n]) = some (c', h1) ∧ Q113 h1 1 (.ptr 1 4) c' = some h' ∧ Sp c0 c1 c2 c3 h' { s with regs := s.regs ++ [n] } ∧ h.length ≤ h'.length ∧ Bx h h' := by
 obtain ⟨x, y, e1, e2, e3, e4⟩ := p.ex
 obtain ⟨c', h1, a1, a2, a3, a4, a5, a6, a7, a8⟩ := e2.add hm p.bel n
 have hlt := p.two
 have f1 : h1[1]? = some (.box 54 (rC c0 c1 c2 c3 x y s)) := by
  rw [a6 1 hlt (fun e => e2.ne1 e1 e rfl)]; exact e1
 have f3 : Rk h1 y s.known := e3.of fun id hi => a6 id (e3.lt hi).1 (fun e => e4 id e hi)
 have ld : Q76 h false 1 (.ptr 1 4) = some x := by rw [bx_ld e1]; simp [rC, Q77]
 obtain ⟨h', s1, s2, s3, s4⟩ := Sp.put (t := { s with regs := s.regs ++ [n] }) (x' := c') (y' := y) f1 a8 (k := 4) (by omega) rfl a2 f3 (fun i hi hj => (a7 i hi).elim (fun e => e4 i e hj) (fun e => absurd (e3.lt hj).1 (by omega))) a5 p.b0 p.b3
 exact ⟨x, c', h1, h', ld, a1, s1, s2, by omega, a4.trans s4⟩
theorem Sp.add5 (p : Sp c0 c1 c2 c3 h s) (hm : s.known.length ≤ 900000) (n : Int) : ∃ M c' h1 h', Q76 h false 1 (.ptr 1 5) = some M ∧ evAppend h 3 1 8 M (.slc 1 true true [iv n]) = some (c', h1) ∧ Q113 h1 1 (.ptr 1 5) c' = some h' ∧ Sp c0 c1 c2 c3 h' { s with known := s.known ++ [n] } ∧ h.length ≤ h'.length ∧ Bx h h' := by
 obtain ⟨x, y, e1, e2, e3, e4⟩ := p.ex
 obtain ⟨c', h1, a1, a2, a3, a4, a5, a6, a7, a8⟩ := e3.add hm p.bel n
 have hlt := p.two
 have f1 : h1[1]? = some (.box 54 (rC c0 c1 c2 c3 x y s)) := by
  rw [a6 1 hlt (fun e => e3.ne1 e1 e rfl)]; exact e1
 have f3 : Rk h1 x s.regs := e2.of fun id hi => a6 id (e2.lt hi).1 (fun e => e4 id hi e)
 have ld : Q76 h false 1 (.ptr 1 5) = some y := by rw [bx_ld e1]; simp [rC, Q77]
 obtain ⟨h', s1, s2, s3, s4⟩ := Sp.put (t := { s with known := s.known ++ [n] }) (x' := x) (y' := c') f1 a8 (k := 5) (by omega) rfl f3 a2 (fun i hi hj => (a7 i hj).elim (fun e => e4 i hi e) (fun e => absurd (e2.lt hi).1 (by omega))) a5 p.b0 p.b3
 exact ⟨y, c', h1, h', ld, a1, s1, s2, by omega, a4.trans s4⟩
theorem body35_ok (p : Sp c0 c1 c2 c3 h s) : ∃ h', callW F 35 [.ptr 1 0] h = some (.tup [], h') ∧ Same1 c0 c1 c2 c3 (if s.inHead then { s with inHead := false, regs := [] } else s) h h' := by
 have l8 := (p.lds []).2.2.2.1
 rw [List.append_nil] at l8
 have lv0 : ∀ (x : AXit) (vars : List AV) (h' : List AO) (t : RS), x = .ret ∨ x = .normal → Same1 c0 c1 c2 c3 t h h' → leave h.length c35 (some (x, vars, h' ++ [])) = some (.tup [], h') := by
  intro x vars h' t hx q
  have e : leave h.length c35 (some (x, vars, h' ++ [])) = leave h.length c35 (some (.ret, vars, h' ++ [])) := by
   rcases hx with rfl | rfl
   ·rfl
   ·simp only [leave]
  rw [e, leave_own (B := h.length) q.2.1 (by rw [← q.2.1]; exact q.1.bel)]
  rfl
 cases hi : s.inHead with
 | false =>
  rw [hi] at l8
  refine ⟨h, callW_own (c := c35) rfl rfl 0 ?_, p, rfl, .refl h⟩
  rw [List.append_nil, ← lv0 .normal [.ptr 1 0, .v (.bool false)] h s (.inr rfl) ⟨p, rfl, .refl h⟩]
  congr 1
  simp only [c35, start, List.replicate, List.append_nil, c35_0, l8, Q0, Q1, Q2, Q3, Q4, Q5, Q6, Q7, Q8, Q9, Q10, Q11, Q12, Q13, Q14, Q15, Q16, Q17, Q18, Q19, Q20, Q21, Q22, Q23, Q24, Q25, Q26, Q27, Q28, Q29, Q30, Q31, Q32, Q33, Q35, Q36, Q37, Q38, Q39, Q40, Q41, Q42, Q43, Q44, Q45, Q46, Q47, Q48, Q49, Q50, Q51, Q52, Q53, Q54, Q55, Q56, Q57, Q58, Q59, Q60, Q61, Q62, Q63, Q64, Q65, Q66, Q67, Q68, Q69, Q70, Q71, Q72, Q73, Q99, Q100, Q101, Q102, Q103, Q74, Q75, Q77, Q78, Q79, Q80, Q81, Q82, Q83, Q84, clr, List.length_nil, List.length_cons, List.getElem?_cons_zero, List.getElem?_cons_succ, Nat.reduceAdd, Nat.zero_add, Nat.add_zero, Nat.reduceLeDiff, Nat.reduceSub, ↓reduceIte, List.drop_succ_cons, List.drop_zero, List.take_succ_cons, List.take_zero, Bool.false_eq_true, List.nil_append, List.cons_append, Bool.not_true, Bool.not_false, cond_true, cond_false, bne, Q85, Q86, Q87, Q88, Q89, Q90, Q91, Q92, Q93, Q94, Q95, Q96, Q97, Q98, Q110, Q111, Q116, Q117, Q118, Q119, Q120, Q121, Q122, Q123, Option.map_some, Option.map_none]
 | true =>
  rw [hi] at l8
  obtain ⟨h1, s1, p1, n1, b1⟩ := p.st8 false
  obtain ⟨h2, s2, p2, n2, b2⟩ := p1.clr
  have q : Same1 c0 c1 c2 c3 { s with inHead := false, regs := [] } h h2 := ⟨p2, by omega, b1.trans b2⟩
  refine ⟨h2, callW_own (c := c35) rfl rfl 0 ?_, q⟩
  rw [List.append_nil, ← lv0 .normal [.ptr 1 0, .v (.bool true)] h2 _ (.inr rfl) q]
  congr 1
  simp only [c35, start, List.replicate, List.append_nil, c35_0, c35_1, c35_2, l8, s1, s2, Q0, Q1, Q2, Q3, Q4, Q5, Q6, Q7, Q8, Q9, Q10, Q11, Q12, Q13, Q14, Q15, Q16, Q17, Q18, Q19, Q20, Q21, Q22, Q23, Q24, Q25, Q26, Q27, Q28, Q29, Q30, Q31, Q32, Q33, Q35, Q36, Q37, Q38, Q39, Q40, Q41, Q42, Q43, Q44, Q45, Q46, Q47, Q48, Q49, Q50, Q51, Q52, Q53, Q54, Q55, Q56, Q57, Q58, Q59, Q60, Q61, Q62, Q63, Q64, Q65, Q66, Q67, Q68, Q69, Q70, Q71, Q72, Q73, Q99, Q100, Q101, Q102, Q103, Q74, Q75, Q77, Q78, Q79, Q80, Q81, Q82, Q83, Q84, clr, List.length_nil, List.length_cons, List.getElem?_cons_zero, List.getElem?_cons_succ, Nat.reduceAdd, Nat.zero_add, Nat.add_zero, Nat.reduceLeDiff, Nat.reduceSub, ↓reduceIte, List.drop_succ_cons, List.drop_zero, List.take_succ_cons, List.take_zero, Bool.false_eq_true, List.nil_append, List.cons_append, Bool.not_true, Bool.not_false, cond_true, cond_false, bne, Q85, Q86, Q87, Q88, Q89, Q90, Q91, Q92, Q93, Q94, Q95, Q96, Q97, Q98, Q110, Q111, Q116, Q117, Q118, Q119, Q120, Q121, Q122, Q123, Option.map_some, Option.map_none]
end
end Go.AE.YtghgbbiklkpbnaaDoor
end

section
namespace Go.AE.YtghgbbiklkpbnaaDoor
open Go Go.AE Go.Proofs.YtghgbbiklkpbnaaDoor

def dBody (s : RS) : RS := if s.inHead then { s with inHead := false, regs := [] } else s
def dA (s : RS) (i : Op5) : RS := if isVarR i.op then { s with known := s.known ++ [i.b] } else if i.op == 10 then { s with regs := s.regs ++ [i.b] } else s
def dPart (s : RS) : RS := if (IntKind.i64.wrap (s.parts - 1) == 0) && !s.ofGet then { s with parts := IntKind.i64.wrap (s.parts - 1), regs := s.regs ++ [s.under] } else { s with parts := IntKind.i64.wrap (s.parts - 1) }
def dB (s : RS) (i : Op5) : RS :=
 if 6 ≤ i.op ∧ i.op ≤ 10 ∨ 16 ≤ i.op ∧ i.op ≤ 20 then dPart s
 else if 11 ≤ i.op ∧ i.op ≤ 15 then (if i.op == 15 then { dBody s with under := i.a } else { dBody s with under := i.a, regs := (dBody s).regs ++ [i.a] })
 else if i.op = 21 ∨ i.op = 22 then dBody s
 else s
def dC (s : RS) (i : Op5) : RS := if i.op = 5 ∨ i.op = 15 then { s with parts := i.n, ofGet := i.op == 5 } else if i.op = 21 then { s with regs := [] } else s
def doesR (s : RS) (i : Op5) : RS := dC (dB (dA s i) i) i
section
variable {c0 c3 : AV} {c1 c2 : Int}
structure St (c0 : AV) (c1 c2 : Int) (c3 : AV) (H : List AO) (s : RS) (i : Op5) (B : Nat) : Prop where
 p : Sp c0 c1 c2 c3 H s
 bx : H[B]? = some (.box 41 (o5 i).cells)
 ne : B ≠ 1
variable {s : RS} {H : List AO} {i : Op5} {B : Nat}
theorem St.next (q : St c0 c1 c2 c3 H s i B) {H' : List AO} {t : RS} (p : Sp c0 c1 c2 c3 H' t) (b : Bx H H') : St c0 c1 c2 c3 H' t i B := ⟨p, b.2 B _ _ q.ne q.bx, q.ne⟩
theorem St.lds (q : St c0 c1 c2 c3 H s i B) : Q76 H false 1 (.ptr B 0) = some (.v (.int .i64 i.op)) ∧ Q76 H false 1 (.ptr B 1) = some (.v (.int .i64 i.a)) ∧ Q76 H false 1 (.ptr B 2) = some (.v (.int .i64 i.b)) ∧ Q76 H false 1 (.ptr B 4) = some (.v (.int .i64 i.n)) := by
 rw [bx_ld q.bx, bx_ld q.bx, bx_ld q.bx, bx_ld q.bx]
 exact ⟨rfl, rfl, rfl, rfl⟩
theorem bsI (H : List AO) (n : Int) : bs1 H 1 (some (.v (.int .i64 n))) = some (.slc 1 true true [.v (.int .i64 n)], H) := bs1_some rfl rfl
theorem does_a (q : St c0 c1 c2 c3 H s i B) (hm : s.regs.length ≤ 900000) (hk : s.known.length ≤ 900000) {C : AV} :
  ∃ a4 a5 H', exec (callW F) 0 (.seq (.region [] [] c20_1) (.block 0 (.seq (.seq (.region [] [] c20_2) (.cond (.var 4) .skip (.seq (.region [] [] c20_3) (.cond (.var 4) .skip (.seq (.region [] [] c20_4) (.cond (.var 4) .skip (.region [] [] c20_5))))))) (.cond (.var 4) (.region [] [] c20_6) (.seq (.region [] [] c20_7) (.cond (.var 5) (.region [] [] c20_8) .skip)))))) [.ptr 1 0, C, .ptr B 0, .v undef, .v undef, .v undef, .v undef, .v undef, .v undef, .v undef, .v undef, .v undef, .v undef, .v undef] H = some (.normal, [.ptr 1 0, C, .ptr B 0, .v (.int .i64 i.op), a4, a5, .v undef, .v undef, .v undef, .v undef, .v undef, .v undef, .v undef, .v undef], H') ∧ St c0 c1 c2 c3 H' (dA s i) i B ∧ H.length ≤ H'.length ∧ Bx H H' := by
 obtain ⟨l0, l1, l2, l4⟩ := q.lds
 obtain ⟨M, c', h1, h', ld, ap, st, p', n', b'⟩ := q.p.add5 hk i.b
 obtain ⟨Mr, cr, hr1, hr, ldr, apr, str, pr, nr, br⟩ := q.p.add4 hm i.b
 simp only [iv] at ap apr
 by_cases o1 : i.op = 1
 ·have hop := o1
  have n1 : (i.op == 1) = true := by rw [hop]; rfl
  have hd : dA s i = { s with known := s.known ++ [i.b] } := by simp only [dA, hop]; rfl
  rw [hd]
  refine ⟨.v (.bool true), .v undef, h', ?_, q.next p' b', n', b'⟩
  simp only [c20_1, c20_2, c20_3, c20_4, c20_5, c20_6, l0, l2, ld, ap, st, n1, Q104, e_append, bsI, snap_int, e_callh, List.map_cons, List.map_nil, Q122, Q0, Q1, Q2, Q3, Q4, Q5, Q6, Q7, Q8, Q9, Q10, Q11, Q12, Q13, Q14, Q15, Q16, Q17, Q18, Q19, Q20, Q21, Q22, Q23, Q24, Q25, Q26, Q27, Q28, Q29, Q30, Q31, Q32, Q33, Q35, Q36, Q37, Q38, Q39, Q40, Q41, Q42, Q43, Q44, Q45, Q46, Q47, Q48, Q49, Q50, Q51, Q52, Q53, Q54, Q55, Q56, Q57, Q58, Q59, Q60, Q61, Q62, Q63, Q64, Q65, Q66, Q67, Q68, Q69, Q70, Q71, Q72, Q73, Q99, Q100, Q101, Q102, Q103, Q74, Q75, Q77, Q78, Q79, Q80, Q81, Q82, Q83, Q84, clr, List.length_nil, List.length_cons, List.getElem?_cons_zero, List.getElem?_cons_succ, Nat.reduceAdd, Nat.zero_add, Nat.add_zero, Nat.reduceLeDiff, Nat.reduceSub, ↓reduceIte, List.drop_succ_cons, List.drop_zero, List.take_succ_cons, List.take_zero, Bool.false_eq_true, List.nil_append, List.cons_append, Bool.not_true, Bool.not_false, cond_true, cond_false, bne, Q85, Q86, Q87, Q88, Q89, Q90, Q91, Q92, Q93, Q94, Q95, Q96, Q97, Q98, Q110, Q111, Q116, Q117, Q118, Q119, Q120, Q121, Q122, Q123, Option.map_some, Option.map_none]
 by_cases o6 : i.op = 6
 ·have hop := o6
  have n1 : (i.op == 1) = false := by rw [hop]; rfl
  have n6 : (i.op == 6) = true := by rw [hop]; rfl
  have hd : dA s i = { s with known := s.known ++ [i.b] } := by simp only [dA, hop]; rfl
  rw [hd]
  refine ⟨.v (.bool true), .v undef, h', ?_, q.next p' b', n', b'⟩
  simp only [c20_1, c20_2, c20_3, c20_4, c20_5, c20_6, l0, l2, ld, ap, st, n1, n6, Q104, e_append, bsI, snap_int, e_callh, List.map_cons, List.map_nil, Q122, Q0, Q1, Q2, Q3, Q4, Q5, Q6, Q7, Q8, Q9, Q10, Q11, Q12, Q13, Q14, Q15, Q16, Q17, Q18, Q19, Q20, Q21, Q22, Q23, Q24, Q25, Q26, Q27, Q28, Q29, Q30, Q31, Q32, Q33, Q35, Q36, Q37, Q38, Q39, Q40, Q41, Q42, Q43, Q44, Q45, Q46, Q47, Q48, Q49, Q50, Q51, Q52, Q53, Q54, Q55, Q56, Q57, Q58, Q59, Q60, Q61, Q62, Q63, Q64, Q65, Q66, Q67, Q68, Q69, Q70, Q71, Q72, Q73, Q99, Q100, Q101, Q102, Q103, Q74, Q75, Q77, Q78, Q79, Q80, Q81, Q82, Q83, Q84, clr, List.length_nil, List.length_cons, List.getElem?_cons_zero, List.getElem?_cons_succ, Nat.reduceAdd, Nat.zero_add, Nat.add_zero, Nat.reduceLeDiff, Nat.reduceSub, ↓reduceIte, List.drop_succ_cons, List.drop_zero, List.take_succ_cons, List.take_zero, Bool.false_eq_true, List.nil_append, List.cons_append, Bool.not_true, Bool.not_false, cond_true, cond_false, bne, Q85, Q86, Q87, Q88, Q89, Q90, Q91, Q92, Q93, Q94, Q95, Q96, Q97, Q98, Q110, Q111, Q116, Q117, Q118, Q119, Q120, Q121, Q122, Q123, Option.map_some, Option.map_none]
 by_cases o11 : i.op = 11
 ·have hop := o11
  have n1 : (i.op == 1) = false := by rw [hop]; rfl
  have n6 : (i.op == 6) = false := by rw [hop]; rfl
  have n11 : (i.op == 11) = true := by rw [hop]; rfl
  have hd : dA s i = { s with known := s.known ++ [i.b] } := by simp only [dA, hop]; rfl
  rw [hd]
  refine ⟨.v (.bool true), .v undef, h', ?_, q.next p' b', n', b'⟩
  simp only [c20_1, c20_2, c20_3, c20_4, c20_5, c20_6, l0, l2, ld, ap, st, n1, n6, n11, Q104, e_append, bsI, snap_int, e_callh, List.map_cons, List.map_nil, Q122, Q0, Q1, Q2, Q3, Q4, Q5, Q6, Q7, Q8, Q9, Q10, Q11, Q12, Q13, Q14, Q15, Q16, Q17, Q18, Q19, Q20, Q21, Q22, Q23, Q24, Q25, Q26, Q27, Q28, Q29, Q30, Q31, Q32, Q33, Q35, Q36, Q37, Q38, Q39, Q40, Q41, Q42, Q43, Q44, Q45, Q46, Q47, Q48, Q49, Q50, Q51, Q52, Q53, Q54, Q55, Q56, Q57, Q58, Q59, Q60, Q61, Q62, Q63, Q64, Q65, Q66, Q67, Q68, Q69, Q70, Q71, Q72, Q73, Q99, Q100, Q101, Q102, Q103, Q74, Q75, Q77, Q78, Q79, Q80, Q81, Q82, Q83, Q84, clr, List.length_nil, List.length_cons, List.getElem?_cons_zero, List.getElem?_cons_succ, Nat.reduceAdd, Nat.zero_add, Nat.add_zero, Nat.reduceLeDiff, Nat.reduceSub, ↓reduceIte, List.drop_succ_cons, List.drop_zero, List.take_succ_cons, List.take_zero, Bool.false_eq_true, List.nil_append, List.cons_append, Bool.not_true, Bool.not_false, cond_true, cond_false, bne, Q85, Q86, Q87, Q88, Q89, Q90, Q91, Q92, Q93, Q94, Q95, Q96, Q97, Q98, Q110, Q111, Q116, Q117, Q118, Q119, Q120, Q121, Q122, Q123, Option.map_some, Option.map_none]
 by_cases o16 : i.op = 16
 ·have hop := o16
  have n1 : (i.op == 1) = false := by rw [hop]; rfl
  have n6 : (i.op == 6) = false := by rw [hop]; rfl
  have n11 : (i.op == 11) = false := by rw [hop]; rfl
  have n16 : (i.op == 16) = true := by rw [hop]; rfl
  have hd : dA s i = { s with known := s.known ++ [i.b] } := by simp only [dA, hop]; rfl
  rw [hd]
  refine ⟨.v (.bool true), .v undef, h', ?_, q.next p' b', n', b'⟩
  simp only [c20_1, c20_2, c20_3, c20_4, c20_5, c20_6, l0, l2, ld, ap, st, n1, n6, n11, n16, Q104, e_append, bsI, snap_int, e_callh, List.map_cons, List.map_nil, Q122, Q0, Q1, Q2, Q3, Q4, Q5, Q6, Q7, Q8, Q9, Q10, Q11, Q12, Q13, Q14, Q15, Q16, Q17, Q18, Q19, Q20, Q21, Q22, Q23, Q24, Q25, Q26, Q27, Q28, Q29, Q30, Q31, Q32, Q33, Q35, Q36, Q37, Q38, Q39, Q40, Q41, Q42, Q43, Q44, Q45, Q46, Q47, Q48, Q49, Q50, Q51, Q52, Q53, Q54, Q55, Q56, Q57, Q58, Q59, Q60, Q61, Q62, Q63, Q64, Q65, Q66, Q67, Q68, Q69, Q70, Q71, Q72, Q73, Q99, Q100, Q101, Q102, Q103, Q74, Q75, Q77, Q78, Q79, Q80, Q81, Q82, Q83, Q84, clr, List.length_nil, List.length_cons, List.getElem?_cons_zero, List.getElem?_cons_succ, Nat.reduceAdd, Nat.zero_add, Nat.add_zero, Nat.reduceLeDiff, Nat.reduceSub, ↓reduceIte, List.drop_succ_cons, List.drop_zero, List.take_succ_cons, List.take_zero, Bool.false_eq_true, List.nil_append, List.cons_append, Bool.not_true, Bool.not_false, cond_true, cond_false, bne, Q85, Q86, Q87, Q88, Q89, Q90, Q91, Q92, Q93, Q94, Q95, Q96, Q97, Q98, Q110, Q111, Q116, Q117, Q118, Q119, Q120, Q121, Q122, Q123, Option.map_some, Option.map_none]
 by_cases o10 : i.op = 10
 ·have hop := o10
  have n1 : (i.op == 1) = false := by rw [hop]; rfl
  have n6 : (i.op == 6) = false := by rw [hop]; rfl
  have n11 : (i.op == 11) = false := by rw [hop]; rfl
  have n16 : (i.op == 16) = false := by rw [hop]; rfl
  have n10 : (i.op == 10) = true := by rw [hop]; rfl
  have hd : dA s i = { s with regs := s.regs ++ [i.b] } := by simp only [dA, hop]; rfl
  rw [hd]
  refine ⟨.v (.bool false), .v (.bool true), hr, ?_, q.next pr br, nr, br⟩
  simp only [c20_1, c20_2, c20_3, c20_4, c20_5, c20_7, c20_8, l0, l2, ldr, apr, str, n1, n6, n11, n16, n10, Q104, e_append, bsI, snap_int, e_callh, List.map_cons, List.map_nil, Q122, Q0, Q1, Q2, Q3, Q4, Q5, Q6, Q7, Q8, Q9, Q10, Q11, Q12, Q13, Q14, Q15, Q16, Q17, Q18, Q19, Q20, Q21, Q22, Q23, Q24, Q25, Q26, Q27, Q28, Q29, Q30, Q31, Q32, Q33, Q35, Q36, Q37, Q38, Q39, Q40, Q41, Q42, Q43, Q44, Q45, Q46, Q47, Q48, Q49, Q50, Q51, Q52, Q53, Q54, Q55, Q56, Q57, Q58, Q59, Q60, Q61, Q62, Q63, Q64, Q65, Q66, Q67, Q68, Q69, Q70, Q71, Q72, Q73, Q99, Q100, Q101, Q102, Q103, Q74, Q75, Q77, Q78, Q79, Q80, Q81, Q82, Q83, Q84, clr, List.length_nil, List.length_cons, List.getElem?_cons_zero, List.getElem?_cons_succ, Nat.reduceAdd, Nat.zero_add, Nat.add_zero, Nat.reduceLeDiff, Nat.reduceSub, ↓reduceIte, List.drop_succ_cons, List.drop_zero, List.take_succ_cons, List.take_zero, Bool.false_eq_true, List.nil_append, List.cons_append, Bool.not_true, Bool.not_false, cond_true, cond_false, bne, Q85, Q86, Q87, Q88, Q89, Q90, Q91, Q92, Q93, Q94, Q95, Q96, Q97, Q98, Q110, Q111, Q116, Q117, Q118, Q119, Q120, Q121, Q122, Q123, Option.map_some, Option.map_none]
 have n1 : (i.op == 1) = false := beq_eq_false_iff_ne.2 o1
 have n6 : (i.op == 6) = false := beq_eq_false_iff_ne.2 o6
 have n11 : (i.op == 11) = false := beq_eq_false_iff_ne.2 o11
 have n16 : (i.op == 16) = false := beq_eq_false_iff_ne.2 o16
 have n10 : (i.op == 10) = false := beq_eq_false_iff_ne.2 o10
 have hd : dA s i = s := by simp [dA, isVarR, o1, o6, o11, o16, o10]
 rw [hd]
 refine ⟨.v (.bool false), .v (.bool false), H, ?_, q, Nat.le_refl _, .refl H⟩
 simp only [c20_1, c20_2, c20_3, c20_4, c20_5, c20_7, l0, n1, n6, n11, n16, n10, Q104, e_append, bsI, snap_int, e_callh, List.map_cons, List.map_nil, Q122, Q0, Q1, Q2, Q3, Q4, Q5, Q6, Q7, Q8, Q9, Q10, Q11, Q12, Q13, Q14, Q15, Q16, Q17, Q18, Q19, Q20, Q21, Q22, Q23, Q24, Q25, Q26, Q27, Q28, Q29, Q30, Q31, Q32, Q33, Q35, Q36, Q37, Q38, Q39, Q40, Q41, Q42, Q43, Q44, Q45, Q46, Q47, Q48, Q49, Q50, Q51, Q52, Q53, Q54, Q55, Q56, Q57, Q58, Q59, Q60, Q61, Q62, Q63, Q64, Q65, Q66, Q67, Q68, Q69, Q70, Q71, Q72, Q73, Q99, Q100, Q101, Q102, Q103, Q74, Q75, Q77, Q78, Q79, Q80, Q81, Q82, Q83, Q84, clr, List.length_nil, List.length_cons, List.getElem?_cons_zero, List.getElem?_cons_succ, Nat.reduceAdd, Nat.zero_add, Nat.add_zero, Nat.reduceLeDiff, Nat.reduceSub, ↓reduceIte, List.drop_succ_cons, List.drop_zero, List.take_succ_cons, List.take_zero, Bool.false_eq_true, List.nil_append, List.cons_append, Bool.not_true, Bool.not_false, cond_true, cond_false, bne, Q85, Q86, Q87, Q88, Q89, Q90, Q91, Q92, Q93, Q94, Q95, Q96, Q97, Q98, Q110, Q111, Q116, Q117, Q118, Q119, Q120, Q121, Q122, Q123, Option.map_some, Option.map_none]
theorem does_b (q : St c0 c1 c2 c3 H s i B) (hm : s.regs.length ≤ 900000) {C a3 a4 a5 : AV} :
  ∃ a6 a7 a8 a9 a10 H', exec (callW F) 0 (.block 1 (.seq (.seq (.region [] [] c20_9) (.cond (.var 6) .skip (.region [] [] c20_10))) (.cond (.var 6) (.seq (.region [] [] c20_11) (.seq (.region [] [] c20_12) (.cond (.var 7) (.region [] [] c20_13) .skip))) (.seq (.region [] [] c20_14) (.cond (.var 8) (.seq (.region [] [] c20_15) (.seq (.region [] [] c20_16) (.seq (.region [] [] c20_17) (.cond (.var 9) (.region [] [] c20_18) .skip)))) (.seq (.region [] [] c20_19) (.cond (.var 10) (.region [] [] c20_20) .skip))))))) [.ptr 1 0, C, .ptr B 0, a3, a4, a5, .v undef, .v undef, .v undef, .v undef, .v undef, .v undef, .v undef, .v undef] H = some (.normal, [.ptr 1 0, C, .ptr B 0, a3, a4, a5, a6, a7, a8, a9, a10, .v undef, .v undef, .v undef], H') ∧ St c0 c1 c2 c3 H' (dB s i) i B ∧ H.length ≤ H'.length ∧ Bx H H' := by
 obtain ⟨l0, l1, l2, l4⟩ := q.lds
 by_cases w6 : 6 ≤ i.op ∧ i.op ≤ 10
 ·have hd : dB s i = dPart s := by rw [dB, if_pos (by omega)]
  have g6 : decide (i.op ≥ 6) = true := decide_eq_true (by omega)
  have g10 : decide (i.op ≤ 10) = true := decide_eq_true (by omega)
  obtain ⟨_, l6, l7, _, l9⟩ := q.p.lds []
  rw [List.append_nil] at l6 l7 l9
  obtain ⟨h1, s1, p1, n1, b1⟩ := q.p.st6 (IntKind.i64.wrap (s.parts - 1))
  obtain ⟨_, k6, k7, _, k9⟩ := p1.lds []
  rw [List.append_nil] at k6 k7 k9
  simp only at k6 k7 k9
  obtain ⟨Mr, cr, hr1, hr, ldr, apr, str, pr, nr, br⟩ := p1.add4 (by simpa using hm) s.under
  simp only [iv] at apr
  cases hz : (IntKind.i64.wrap (s.parts - 1) == 0) with
  | false =>
   rw [hd, show dPart s = { s with parts := IntKind.i64.wrap (s.parts - 1) } from by simp only [dPart, hz]; rfl]
   refine ⟨.v (.bool true), .v (.bool false), .v undef, .v undef, .v undef, h1, ?_, q.next p1 b1, by omega, b1⟩
   simp only [c20_9, c20_10, c20_11, c20_12, c20_13, c20_14, c20_15, c20_16, c20_17, c20_18, c20_19, c20_20, l0, l6, s1, k6, k7, hz, g6, g10, Q104, e_append, bsI, snap_int, e_callh, List.map_cons, List.map_nil, Q122, Q0, Q1, Q2, Q3, Q4, Q5, Q6, Q7, Q8, Q9, Q10, Q11, Q12, Q13, Q14, Q15, Q16, Q17, Q18, Q19, Q20, Q21, Q22, Q23, Q24, Q25, Q26, Q27, Q28, Q29, Q30, Q31, Q32, Q33, Q35, Q36, Q37, Q38, Q39, Q40, Q41, Q42, Q43, Q44, Q45, Q46, Q47, Q48, Q49, Q50, Q51, Q52, Q53, Q54, Q55, Q56, Q57, Q58, Q59, Q60, Q61, Q62, Q63, Q64, Q65, Q66, Q67, Q68, Q69, Q70, Q71, Q72, Q73, Q99, Q100, Q101, Q102, Q103, Q74, Q75, Q77, Q78, Q79, Q80, Q81, Q82, Q83, Q84, clr, List.length_nil, List.length_cons, List.getElem?_cons_zero, List.getElem?_cons_succ, Nat.reduceAdd, Nat.zero_add, Nat.add_zero, Nat.reduceLeDiff, Nat.reduceSub, ↓reduceIte, List.drop_succ_cons, List.drop_zero, List.take_succ_cons, List.take_zero, Bool.false_eq_true, List.nil_append, List.cons_append, Bool.not_true, Bool.not_false, cond_true, cond_false, bne, Q85, Q86, Q87, Q88, Q89, Q90, Q91, Q92, Q93, Q94, Q95, Q96, Q97, Q98, Q110, Q111, Q116, Q117, Q118, Q119, Q120, Q121, Q122, Q123, Option.map_some, Option.map_none]
  | true =>
   cases hg : s.ofGet with
   | true =>
    rw [hg] at k7
    rw [hd, show dPart s = { s with parts := IntKind.i64.wrap (s.parts - 1) } from by simp only [dPart, hz, hg]; rfl]
    refine ⟨.v (.bool true), .v (.bool false), .v undef, .v undef, .v undef, h1, ?_, q.next p1 b1, by omega, b1⟩
    simp only [c20_9, c20_10, c20_11, c20_12, c20_13, c20_14, c20_15, c20_16, c20_17, c20_18, c20_19, c20_20, l0, l6, s1, k6, k7, hz, Bool.not_true, g6, g10, Q104, e_append, bsI, snap_int, e_callh, List.map_cons, List.map_nil, Q122, Q0, Q1, Q2, Q3, Q4, Q5, Q6, Q7, Q8, Q9, Q10, Q11, Q12, Q13, Q14, Q15, Q16, Q17, Q18, Q19, Q20, Q21, Q22, Q23, Q24, Q25, Q26, Q27, Q28, Q29, Q30, Q31, Q32, Q33, Q35, Q36, Q37, Q38, Q39, Q40, Q41, Q42, Q43, Q44, Q45, Q46, Q47, Q48, Q49, Q50, Q51, Q52, Q53, Q54, Q55, Q56, Q57, Q58, Q59, Q60, Q61, Q62, Q63, Q64, Q65, Q66, Q67, Q68, Q69, Q70, Q71, Q72, Q73, Q99, Q100, Q101, Q102, Q103, Q74, Q75, Q77, Q78, Q79, Q80, Q81, Q82, Q83, Q84, clr, List.length_nil, List.length_cons, List.getElem?_cons_zero, List.getElem?_cons_succ, Nat.reduceAdd, Nat.zero_add, Nat.add_zero, Nat.reduceLeDiff, Nat.reduceSub, ↓reduceIte, List.drop_succ_cons, List.drop_zero, List.take_succ_cons, List.take_zero, Bool.false_eq_true, List.nil_append, List.cons_append, Bool.not_true, Bool.not_false, cond_true, cond_false, bne, Q85, Q86, Q87, Q88, Q89, Q90, Q91, Q92, Q93, Q94, Q95, Q96, Q97, Q98, Q110, Q111, Q116, Q117, Q118, Q119, Q120, Q121, Q122, Q123, Option.map_some, Option.map_none]
   | false =>
    rw [hg] at k7
    rw [hd, show dPart s = { s with parts := IntKind.i64.wrap (s.parts - 1), regs := s.regs ++ [s.under] } from by simp only [dPart, hz, hg]; rfl]
    refine ⟨.v (.bool true), .v (.bool true), .v undef, .v undef, .v undef, hr, ?_, q.next pr (b1.trans br), by omega, b1.trans br⟩
    simp only [c20_9, c20_10, c20_11, c20_12, c20_13, c20_14, c20_15, c20_16, c20_17, c20_18, c20_19, c20_20, l0, l6, s1, k6, k7, k9, hz, ldr, apr, str, Bool.not_false, g6, g10, Q104, e_append, bsI, snap_int, e_callh, List.map_cons, List.map_nil, Q122, Q0, Q1, Q2, Q3, Q4, Q5, Q6, Q7, Q8, Q9, Q10, Q11, Q12, Q13, Q14, Q15, Q16, Q17, Q18, Q19, Q20, Q21, Q22, Q23, Q24, Q25, Q26, Q27, Q28, Q29, Q30, Q31, Q32, Q33, Q35, Q36, Q37, Q38, Q39, Q40, Q41, Q42, Q43, Q44, Q45, Q46, Q47, Q48, Q49, Q50, Q51, Q52, Q53, Q54, Q55, Q56, Q57, Q58, Q59, Q60, Q61, Q62, Q63, Q64, Q65, Q66, Q67, Q68, Q69, Q70, Q71, Q72, Q73, Q99, Q100, Q101, Q102, Q103, Q74, Q75, Q77, Q78, Q79, Q80, Q81, Q82, Q83, Q84, clr, List.length_nil, List.length_cons, List.getElem?_cons_zero, List.getElem?_cons_succ, Nat.reduceAdd, Nat.zero_add, Nat.add_zero, Nat.reduceLeDiff, Nat.reduceSub, ↓reduceIte, List.drop_succ_cons, List.drop_zero, List.take_succ_cons, List.take_zero, Bool.false_eq_true, List.nil_append, List.cons_append, Bool.not_true, Bool.not_false, cond_true, cond_false, bne, Q85, Q86, Q87, Q88, Q89, Q90, Q91, Q92, Q93, Q94, Q95, Q96, Q97, Q98, Q110, Q111, Q116, Q117, Q118, Q119, Q120, Q121, Q122, Q123, Option.map_some, Option.map_none]
 by_cases w16 : 16 ≤ i.op ∧ i.op ≤ 20
 ·have hd : dB s i = dPart s := by rw [dB, if_pos (by omega)]
  have g6 : decide (i.op ≥ 6) = true := decide_eq_true (by omega)
  have g10 : decide (i.op ≤ 10) = false := decide_eq_false (by omega)
  have g16 : decide (i.op ≥ 16) = true := decide_eq_true (by omega)
  have g20 : decide (i.op ≤ 20) = true := decide_eq_true (by omega)
  obtain ⟨_, l6, l7, _, l9⟩ := q.p.lds []
  rw [List.append_nil] at l6 l7 l9
  obtain ⟨h1, s1, p1, n1, b1⟩ := q.p.st6 (IntKind.i64.wrap (s.parts - 1))
  obtain ⟨_, k6, k7, _, k9⟩ := p1.lds []
  rw [List.append_nil] at k6 k7 k9
  simp only at k6 k7 k9
  obtain ⟨Mr, cr, hr1, hr, ldr, apr, str, pr, nr, br⟩ := p1.add4 (by simpa using hm) s.under
  simp only [iv] at apr
  cases hz : (IntKind.i64.wrap (s.parts - 1) == 0) with
  | false =>
   rw [hd, show dPart s = { s with parts := IntKind.i64.wrap (s.parts - 1) } from by simp only [dPart, hz]; rfl]
   refine ⟨.v (.bool true), .v (.bool false), .v undef, .v undef, .v undef, h1, ?_, q.next p1 b1, by omega, b1⟩
   simp only [c20_9, c20_10, c20_11, c20_12, c20_13, c20_14, c20_15, c20_16, c20_17, c20_18, c20_19, c20_20, l0, l6, s1, k6, k7, hz, g6, g10, g16, g20, Q104, e_append, bsI, snap_int, e_callh, List.map_cons, List.map_nil, Q122, Q0, Q1, Q2, Q3, Q4, Q5, Q6, Q7, Q8, Q9, Q10, Q11, Q12, Q13, Q14, Q15, Q16, Q17, Q18, Q19, Q20, Q21, Q22, Q23, Q24, Q25, Q26, Q27, Q28, Q29, Q30, Q31, Q32, Q33, Q35, Q36, Q37, Q38, Q39, Q40, Q41, Q42, Q43, Q44, Q45, Q46, Q47, Q48, Q49, Q50, Q51, Q52, Q53, Q54, Q55, Q56, Q57, Q58, Q59, Q60, Q61, Q62, Q63, Q64, Q65, Q66, Q67, Q68, Q69, Q70, Q71, Q72, Q73, Q99, Q100, Q101, Q102, Q103, Q74, Q75, Q77, Q78, Q79, Q80, Q81, Q82, Q83, Q84, clr, List.length_nil, List.length_cons, List.getElem?_cons_zero, List.getElem?_cons_succ, Nat.reduceAdd, Nat.zero_add, Nat.add_zero, Nat.reduceLeDiff, Nat.reduceSub, ↓reduceIte, List.drop_succ_cons, List.drop_zero, List.take_succ_cons, List.take_zero, Bool.false_eq_true, List.nil_append, List.cons_append, Bool.not_true, Bool.not_false, cond_true, cond_false, bne, Q85, Q86, Q87, Q88, Q89, Q90, Q91, Q92, Q93, Q94, Q95, Q96, Q97, Q98, Q110, Q111, Q116, Q117, Q118, Q119, Q120, Q121, Q122, Q123, Option.map_some, Option.map_none]
  | true =>
   cases hg : s.ofGet with
   | true =>
    rw [hg] at k7
    rw [hd, show dPart s = { s with parts := IntKind.i64.wrap (s.parts - 1) } from by simp only [dPart, hz, hg]; rfl]
    refine ⟨.v (.bool true), .v (.bool false), .v undef, .v undef, .v undef, h1, ?_, q.next p1 b1, by omega, b1⟩
    simp only [c20_9, c20_10, c20_11, c20_12, c20_13, c20_14, c20_15, c20_16, c20_17, c20_18, c20_19, c20_20, l0, l6, s1, k6, k7, hz, Bool.not_true, g6, g10, g16, g20, Q104, e_append, bsI, snap_int, e_callh, List.map_cons, List.map_nil, Q122, Q0, Q1, Q2, Q3, Q4, Q5, Q6, Q7, Q8, Q9, Q10, Q11, Q12, Q13, Q14, Q15, Q16, Q17, Q18, Q19, Q20, Q21, Q22, Q23, Q24, Q25, Q26, Q27, Q28, Q29, Q30, Q31, Q32, Q33, Q35, Q36, Q37, Q38, Q39, Q40, Q41, Q42, Q43, Q44, Q45, Q46, Q47, Q48, Q49, Q50, Q51, Q52, Q53, Q54, Q55, Q56, Q57, Q58, Q59, Q60, Q61, Q62, Q63, Q64, Q65, Q66, Q67, Q68, Q69, Q70, Q71, Q72, Q73, Q99, Q100, Q101, Q102, Q103, Q74, Q75, Q77, Q78, Q79, Q80, Q81, Q82, Q83, Q84, clr, List.length_nil, List.length_cons, List.getElem?_cons_zero, List.getElem?_cons_succ, Nat.reduceAdd, Nat.zero_add, Nat.add_zero, Nat.reduceLeDiff, Nat.reduceSub, ↓reduceIte, List.drop_succ_cons, List.drop_zero, List.take_succ_cons, List.take_zero, Bool.false_eq_true, List.nil_append, List.cons_append, Bool.not_true, Bool.not_false, cond_true, cond_false, bne, Q85, Q86, Q87, Q88, Q89, Q90, Q91, Q92, Q93, Q94, Q95, Q96, Q97, Q98, Q110, Q111, Q116, Q117, Q118, Q119, Q120, Q121, Q122, Q123, Option.map_some, Option.map_none]
   | false =>
    rw [hg] at k7
    rw [hd, show dPart s = { s with parts := IntKind.i64.wrap (s.parts - 1), regs := s.regs ++ [s.under] } from by simp only [dPart, hz, hg]; rfl]
    refine ⟨.v (.bool true), .v (.bool true), .v undef, .v undef, .v undef, hr, ?_, q.next pr (b1.trans br), by omega, b1.trans br⟩
    simp only [c20_9, c20_10, c20_11, c20_12, c20_13, c20_14, c20_15, c20_16, c20_17, c20_18, c20_19, c20_20, l0, l6, s1, k6, k7, k9, hz, ldr, apr, str, Bool.not_false, g6, g10, g16, g20, Q104, e_append, bsI, snap_int, e_callh, List.map_cons, List.map_nil, Q122, Q0, Q1, Q2, Q3, Q4, Q5, Q6, Q7, Q8, Q9, Q10, Q11, Q12, Q13, Q14, Q15, Q16, Q17, Q18, Q19, Q20, Q21, Q22, Q23, Q24, Q25, Q26, Q27, Q28, Q29, Q30, Q31, Q32, Q33, Q35, Q36, Q37, Q38, Q39, Q40, Q41, Q42, Q43, Q44, Q45, Q46, Q47, Q48, Q49, Q50, Q51, Q52, Q53, Q54, Q55, Q56, Q57, Q58, Q59, Q60, Q61, Q62, Q63, Q64, Q65, Q66, Q67, Q68, Q69, Q70, Q71, Q72, Q73, Q99, Q100, Q101, Q102, Q103, Q74, Q75, Q77, Q78, Q79, Q80, Q81, Q82, Q83, Q84, clr, List.length_nil, List.length_cons, List.getElem?_cons_zero, List.getElem?_cons_succ, Nat.reduceAdd, Nat.zero_add, Nat.add_zero, Nat.reduceLeDiff, Nat.reduceSub, ↓reduceIte, List.drop_succ_cons, List.drop_zero, List.take_succ_cons, List.take_zero, Bool.false_eq_true, List.nil_append, List.cons_append, Bool.not_true, Bool.not_false, cond_true, cond_false, bne, Q85, Q86, Q87, Q88, Q89, Q90, Q91, Q92, Q93, Q94, Q95, Q96, Q97, Q98, Q110, Q111, Q116, Q117, Q118, Q119, Q120, Q121, Q122, Q123, Option.map_some, Option.map_none]
 obtain ⟨hb, kb, pb, nb, bb⟩ := body35_ok q.p
 change Sp c0 c1 c2 c3 hb (dBody s) at pb
 by_cases w11 : 11 ≤ i.op ∧ i.op ≤ 15
 ·have g6 : decide (i.op ≥ 6) = true := decide_eq_true (by omega)
  have g10 : decide (i.op ≤ 10) = false := decide_eq_false (by omega)
  have g16 : decide (i.op ≥ 16) = false := decide_eq_false (by omega)
  have g11 : decide (i.op ≥ 11) = true := decide_eq_true (by omega)
  have g15 : decide (i.op ≤ 15) = true := decide_eq_true (by omega)
  obtain ⟨h1, s1, p1, n1, b1⟩ := pb.st9 i.a
  have hl : (dBody s).regs.length ≤ 900000 := by
   unfold dBody; split
   ·simp
   ·exact hm
  obtain ⟨Mr, cr, hr1, hr, ldr, apr, str, pr, nr, br⟩ := p1.add4 (by simpa using hl) i.a
  simp only [iv] at apr
  have q1 := q.next pb bb
  have q2 := q1.next p1 b1
  obtain ⟨_, m1, _, _⟩ := q1.lds
  obtain ⟨m0, m1', _, _⟩ := q2.lds
  cases n15 : (i.op == 15) with
  | true =>
   have b15 : (i.op != 15) = false := by rw [bne, n15]; rfl
   rw [show dB s i = { dBody s with under := i.a } from by rw [dB, if_neg (by omega), if_pos w11, n15]; rfl]
   refine ⟨.v (.bool false), .v undef, .v (.bool true), .v (.bool false), .v undef, h1, ?_, q2, by omega, bb.trans b1⟩
   simp only [c20_9, c20_10, c20_11, c20_12, c20_13, c20_14, c20_15, c20_16, c20_17, c20_18, c20_19, c20_20, l0, kb, m0, m1, s1, n15, b15, Bool.not_true, g6, g10, g16, g11, g15, Q104, e_append, bsI, snap_int, e_callh, List.map_cons, List.map_nil, Q122, Q0, Q1, Q2, Q3, Q4, Q5, Q6, Q7, Q8, Q9, Q10, Q11, Q12, Q13, Q14, Q15, Q16, Q17, Q18, Q19, Q20, Q21, Q22, Q23, Q24, Q25, Q26, Q27, Q28, Q29, Q30, Q31, Q32, Q33, Q35, Q36, Q37, Q38, Q39, Q40, Q41, Q42, Q43, Q44, Q45, Q46, Q47, Q48, Q49, Q50, Q51, Q52, Q53, Q54, Q55, Q56, Q57, Q58, Q59, Q60, Q61, Q62, Q63, Q64, Q65, Q66, Q67, Q68, Q69, Q70, Q71, Q72, Q73, Q99, Q100, Q101, Q102, Q103, Q74, Q75, Q77, Q78, Q79, Q80, Q81, Q82, Q83, Q84, clr, List.length_nil, List.length_cons, List.getElem?_cons_zero, List.getElem?_cons_succ, Nat.reduceAdd, Nat.zero_add, Nat.add_zero, Nat.reduceLeDiff, Nat.reduceSub, ↓reduceIte, List.drop_succ_cons, List.drop_zero, List.take_succ_cons, List.take_zero, Bool.false_eq_true, List.nil_append, List.cons_append, Bool.not_true, Bool.not_false, cond_true, cond_false, bne, Q85, Q86, Q87, Q88, Q89, Q90, Q91, Q92, Q93, Q94, Q95, Q96, Q97, Q98, Q110, Q111, Q116, Q117, Q118, Q119, Q120, Q121, Q122, Q123, Option.map_some, Option.map_none]
  | false =>
   have b15 : (i.op != 15) = true := by rw [bne, n15]; rfl
   rw [show dB s i = { dBody s with under := i.a, regs := (dBody s).regs ++ [i.a] } from by rw [dB, if_neg (by omega), if_pos w11, n15]; rfl]
   refine ⟨.v (.bool false), .v undef, .v (.bool true), .v (.bool true), .v undef, hr, ?_, q.next pr ((bb.trans b1).trans br), by omega, (bb.trans b1).trans br⟩
   simp only [c20_9, c20_10, c20_11, c20_12, c20_13, c20_14, c20_15, c20_16, c20_17, c20_18, c20_19, c20_20, l0, kb, m0, m1, m1', s1, n15, b15, ldr, apr, str, Bool.not_false, g6, g10, g16, g11, g15, Q104, e_append, bsI, snap_int, e_callh, List.map_cons, List.map_nil, Q122, Q0, Q1, Q2, Q3, Q4, Q5, Q6, Q7, Q8, Q9, Q10, Q11, Q12, Q13, Q14, Q15, Q16, Q17, Q18, Q19, Q20, Q21, Q22, Q23, Q24, Q25, Q26, Q27, Q28, Q29, Q30, Q31, Q32, Q33, Q35, Q36, Q37, Q38, Q39, Q40, Q41, Q42, Q43, Q44, Q45, Q46, Q47, Q48, Q49, Q50, Q51, Q52, Q53, Q54, Q55, Q56, Q57, Q58, Q59, Q60, Q61, Q62, Q63, Q64, Q65, Q66, Q67, Q68, Q69, Q70, Q71, Q72, Q73, Q99, Q100, Q101, Q102, Q103, Q74, Q75, Q77, Q78, Q79, Q80, Q81, Q82, Q83, Q84, clr, List.length_nil, List.length_cons, List.getElem?_cons_zero, List.getElem?_cons_succ, Nat.reduceAdd, Nat.zero_add, Nat.add_zero, Nat.reduceLeDiff, Nat.reduceSub, ↓reduceIte, List.drop_succ_cons, List.drop_zero, List.take_succ_cons, List.take_zero, Bool.false_eq_true, List.nil_append, List.cons_append, Bool.not_true, Bool.not_false, cond_true, cond_false, bne, Q85, Q86, Q87, Q88, Q89, Q90, Q91, Q92, Q93, Q94, Q95, Q96, Q97, Q98, Q110, Q111, Q116, Q117, Q118, Q119, Q120, Q121, Q122, Q123, Option.map_some, Option.map_none]
 by_cases w21 : i.op = 21
 ·have g6 : decide (i.op ≥ 6) = true := decide_eq_true (by omega)
  have g10 : decide (i.op ≤ 10) = false := decide_eq_false (by omega)
  have g16 : decide (i.op ≥ 16) = true := decide_eq_true (by omega)
  have g20 : decide (i.op ≤ 20) = false := decide_eq_false (by omega)
  have g11 : decide (i.op ≥ 11) = true := decide_eq_true (by omega)
  have g15 : decide (i.op ≤ 15) = false := decide_eq_false (by omega)
  have n21 : (i.op == 21) = true := by rw [w21]; rfl
  have n22 : (i.op == 22) = false := by rw [w21]; rfl
  rw [show dB s i = dBody s from by rw [dB, if_neg (by omega), if_neg (by omega), if_pos (by omega)]]
  refine ⟨.v (.bool false), .v undef, .v (.bool false), .v undef, .v (.bool true), hb, ?_, q.next pb bb, by omega, bb⟩
  simp only [c20_9, c20_10, c20_11, c20_12, c20_13, c20_14, c20_15, c20_16, c20_17, c20_18, c20_19, c20_20, l0, kb, n21, n22, g6, g10, g16, g20, g11, g15, Q104, e_append, bsI, snap_int, e_callh, List.map_cons, List.map_nil, Q122, Q0, Q1, Q2, Q3, Q4, Q5, Q6, Q7, Q8, Q9, Q10, Q11, Q12, Q13, Q14, Q15, Q16, Q17, Q18, Q19, Q20, Q21, Q22, Q23, Q24, Q25, Q26, Q27, Q28, Q29, Q30, Q31, Q32, Q33, Q35, Q36, Q37, Q38, Q39, Q40, Q41, Q42, Q43, Q44, Q45, Q46, Q47, Q48, Q49, Q50, Q51, Q52, Q53, Q54, Q55, Q56, Q57, Q58, Q59, Q60, Q61, Q62, Q63, Q64, Q65, Q66, Q67, Q68, Q69, Q70, Q71, Q72, Q73, Q99, Q100, Q101, Q102, Q103, Q74, Q75, Q77, Q78, Q79, Q80, Q81, Q82, Q83, Q84, clr, List.length_nil, List.length_cons, List.getElem?_cons_zero, List.getElem?_cons_succ, Nat.reduceAdd, Nat.zero_add, Nat.add_zero, Nat.reduceLeDiff, Nat.reduceSub, ↓reduceIte, List.drop_succ_cons, List.drop_zero, List.take_succ_cons, List.take_zero, Bool.false_eq_true, List.nil_append, List.cons_append, Bool.not_true, Bool.not_false, cond_true, cond_false, bne, Q85, Q86, Q87, Q88, Q89, Q90, Q91, Q92, Q93, Q94, Q95, Q96, Q97, Q98, Q110, Q111, Q116, Q117, Q118, Q119, Q120, Q121, Q122, Q123, Option.map_some, Option.map_none]
 by_cases w22 : i.op = 22
 ·have g6 : decide (i.op ≥ 6) = true := decide_eq_true (by omega)
  have g10 : decide (i.op ≤ 10) = false := decide_eq_false (by omega)
  have g16 : decide (i.op ≥ 16) = true := decide_eq_true (by omega)
  have g20 : decide (i.op ≤ 20) = false := decide_eq_false (by omega)
  have g11 : decide (i.op ≥ 11) = true := decide_eq_true (by omega)
  have g15 : decide (i.op ≤ 15) = false := decide_eq_false (by omega)
  have n21 : (i.op == 21) = false := by rw [w22]; rfl
  have n22 : (i.op == 22) = true := by rw [w22]; rfl
  rw [show dB s i = dBody s from by rw [dB, if_neg (by omega), if_neg (by omega), if_pos (by omega)]]
  refine ⟨.v (.bool false), .v undef, .v (.bool false), .v undef, .v (.bool true), hb, ?_, q.next pb bb, by omega, bb⟩
  simp only [c20_9, c20_10, c20_11, c20_12, c20_13, c20_14, c20_15, c20_16, c20_17, c20_18, c20_19, c20_20, l0, kb, n21, n22, g6, g10, g16, g20, g11, g15, Q104, e_append, bsI, snap_int, e_callh, List.map_cons, List.map_nil, Q122, Q0, Q1, Q2, Q3, Q4, Q5, Q6, Q7, Q8, Q9, Q10, Q11, Q12, Q13, Q14, Q15, Q16, Q17, Q18, Q19, Q20, Q21, Q22, Q23, Q24, Q25, Q26, Q27, Q28, Q29, Q30, Q31, Q32, Q33, Q35, Q36, Q37, Q38, Q39, Q40, Q41, Q42, Q43, Q44, Q45, Q46, Q47, Q48, Q49, Q50, Q51, Q52, Q53, Q54, Q55, Q56, Q57, Q58, Q59, Q60, Q61, Q62, Q63, Q64, Q65, Q66, Q67, Q68, Q69, Q70, Q71, Q72, Q73, Q99, Q100, Q101, Q102, Q103, Q74, Q75, Q77, Q78, Q79, Q80, Q81, Q82, Q83, Q84, clr, List.length_nil, List.length_cons, List.getElem?_cons_zero, List.getElem?_cons_succ, Nat.reduceAdd, Nat.zero_add, Nat.add_zero, Nat.reduceLeDiff, Nat.reduceSub, ↓reduceIte, List.drop_succ_cons, List.drop_zero, List.take_succ_cons, List.take_zero, Bool.false_eq_true, List.nil_append, List.cons_append, Bool.not_true, Bool.not_false, cond_true, cond_false, bne, Q85, Q86, Q87, Q88, Q89, Q90, Q91, Q92, Q93, Q94, Q95, Q96, Q97, Q98, Q110, Q111, Q116, Q117, Q118, Q119, Q120, Q121, Q122, Q123, Option.map_some, Option.map_none]
 have n21 : (i.op == 21) = false := beq_eq_false_iff_ne.2 w21
 have n22 : (i.op == 22) = false := beq_eq_false_iff_ne.2 w22
 rw [show dB s i = s from by rw [dB, if_neg (by omega), if_neg (by omega), if_neg (by omega)]]
 refine ⟨.v (.bool false), .v undef, .v (.bool false), .v undef, .v (.bool false), H, ?_, q, Nat.le_refl _, .refl H⟩
 by_cases lo : i.op < 6
 ·have g6 : decide (i.op ≥ 6) = false := decide_eq_false (by omega)
  have g16 : decide (i.op ≥ 16) = false := decide_eq_false (by omega)
  have g11 : decide (i.op ≥ 11) = false := decide_eq_false (by omega)
  simp only [c20_9, c20_10, c20_11, c20_12, c20_13, c20_14, c20_15, c20_16, c20_17, c20_18, c20_19, c20_20, l0, n21, n22, g6, g16, g11, Q104, e_append, bsI, snap_int, e_callh, List.map_cons, List.map_nil, Q122, Q0, Q1, Q2, Q3, Q4, Q5, Q6, Q7, Q8, Q9, Q10, Q11, Q12, Q13, Q14, Q15, Q16, Q17, Q18, Q19, Q20, Q21, Q22, Q23, Q24, Q25, Q26, Q27, Q28, Q29, Q30, Q31, Q32, Q33, Q35, Q36, Q37, Q38, Q39, Q40, Q41, Q42, Q43, Q44, Q45, Q46, Q47, Q48, Q49, Q50, Q51, Q52, Q53, Q54, Q55, Q56, Q57, Q58, Q59, Q60, Q61, Q62, Q63, Q64, Q65, Q66, Q67, Q68, Q69, Q70, Q71, Q72, Q73, Q99, Q100, Q101, Q102, Q103, Q74, Q75, Q77, Q78, Q79, Q80, Q81, Q82, Q83, Q84, clr, List.length_nil, List.length_cons, List.getElem?_cons_zero, List.getElem?_cons_succ, Nat.reduceAdd, Nat.zero_add, Nat.add_zero, Nat.reduceLeDiff, Nat.reduceSub, ↓reduceIte, List.drop_succ_cons, List.drop_zero, List.take_succ_cons, List.take_zero, Bool.false_eq_true, List.nil_append, List.cons_append, Bool.not_true, Bool.not_false, cond_true, cond_false, bne, Q85, Q86, Q87, Q88, Q89, Q90, Q91, Q92, Q93, Q94, Q95, Q96, Q97, Q98, Q110, Q111, Q116, Q117, Q118, Q119, Q120, Q121, Q122, Q123, Option.map_some, Option.map_none]
 ·have g6 : decide (i.op ≥ 6) = true := decide_eq_true (by omega)
  have g10 : decide (i.op ≤ 10) = false := decide_eq_false (by omega)
  have g16 : decide (i.op ≥ 16) = true := decide_eq_true (by omega)
  have g20 : decide (i.op ≤ 20) = false := decide_eq_false (by omega)
  have g11 : decide (i.op ≥ 11) = true := decide_eq_true (by omega)
  have g15 : decide (i.op ≤ 15) = false := decide_eq_false (by omega)
  simp only [c20_9, c20_10, c20_11, c20_12, c20_13, c20_14, c20_15, c20_16, c20_17, c20_18, c20_19, c20_20, l0, n21, n22, g6, g10, g16, g20, g11, g15, Q104, e_append, bsI, snap_int, e_callh, List.map_cons, List.map_nil, Q122, Q0, Q1, Q2, Q3, Q4, Q5, Q6, Q7, Q8, Q9, Q10, Q11, Q12, Q13, Q14, Q15, Q16, Q17, Q18, Q19, Q20, Q21, Q22, Q23, Q24, Q25, Q26, Q27, Q28, Q29, Q30, Q31, Q32, Q33, Q35, Q36, Q37, Q38, Q39, Q40, Q41, Q42, Q43, Q44, Q45, Q46, Q47, Q48, Q49, Q50, Q51, Q52, Q53, Q54, Q55, Q56, Q57, Q58, Q59, Q60, Q61, Q62, Q63, Q64, Q65, Q66, Q67, Q68, Q69, Q70, Q71, Q72, Q73, Q99, Q100, Q101, Q102, Q103, Q74, Q75, Q77, Q78, Q79, Q80, Q81, Q82, Q83, Q84, clr, List.length_nil, List.length_cons, List.getElem?_cons_zero, List.getElem?_cons_succ, Nat.reduceAdd, Nat.zero_add, Nat.add_zero, Nat.reduceLeDiff, Nat.reduceSub, ↓reduceIte, List.drop_succ_cons, List.drop_zero, List.take_succ_cons, List.take_zero, Bool.false_eq_true, List.nil_append, List.cons_append, Bool.not_true, Bool.not_false, cond_true, cond_false, bne, Q85, Q86, Q87, Q88, Q89, Q90, Q91, Q92, Q93, Q94, Q95, Q96, Q97, Q98, Q110, Q111, Q116, Q117, Q118, Q119, Q120, Q121, Q122, Q123, Option.map_some, Option.map_none]
theorem does_c (q : St c0 c1 c2 c3 H s i B) {C a3 a4 a5 a6 a7 a8 a9 a10 : AV} :
  ∃ a12 a13 H', exec (callW F) 0 (.seq (.region [] [] c20_21) (.block 2 (.seq (.seq (.region [] [] c20_22) (.cond (.var 12) .skip (.region [] [] c20_23))) (.cond (.var 12) (.seq (.region [] [] c20_24) (.region [] [] c20_25)) (.seq (.region [] [] c20_26) (.cond (.var 13) (.region [] [] c20_27) .skip)))))) [.ptr 1 0, C, .ptr B 0, a3, a4, a5, a6, a7, a8, a9, a10, .v undef, .v undef, .v undef] H = some (.normal, [.ptr 1 0, C, .ptr B 0, a3, a4, a5, a6, a7, a8, a9, a10, .v (.int .i64 i.op), a12, a13], H') ∧ St c0 c1 c2 c3 H' (dC s i) i B ∧ H.length ≤ H'.length ∧ Bx H H' := by
 obtain ⟨l0, l1, l2, l4⟩ := q.lds
 obtain ⟨h1, s1, p1, n1, b1⟩ := q.p.st6 i.n
 obtain ⟨h2, s2, p2, n2, b2⟩ := p1.st7 (i.op == 5)
 obtain ⟨hc, sc, pc, nc, bc⟩ := q.p.clr
 obtain ⟨m0, _, _, _⟩ := (q.next p1 b1).lds
 by_cases o5' : i.op = 5
 ·have n5 : (i.op == 5) = true := by rw [o5']; rfl
  rw [n5] at s2
  rw [show dC s i = { s with parts := i.n, ofGet := i.op == 5 } from by rw [dC, if_pos (.inl o5')]]
  refine ⟨.v (.bool true), .v undef, h2, ?_, q.next p2 (b1.trans b2), by omega, b1.trans b2⟩
  simp only [c20_21, c20_22, c20_23, c20_24, c20_25, l0, l4, s1, s2, m0, n5, Q104, e_append, bsI, snap_int, e_callh, List.map_cons, List.map_nil, Q122, Q0, Q1, Q2, Q3, Q4, Q5, Q6, Q7, Q8, Q9, Q10, Q11, Q12, Q13, Q14, Q15, Q16, Q17, Q18, Q19, Q20, Q21, Q22, Q23, Q24, Q25, Q26, Q27, Q28, Q29, Q30, Q31, Q32, Q33, Q35, Q36, Q37, Q38, Q39, Q40, Q41, Q42, Q43, Q44, Q45, Q46, Q47, Q48, Q49, Q50, Q51, Q52, Q53, Q54, Q55, Q56, Q57, Q58, Q59, Q60, Q61, Q62, Q63, Q64, Q65, Q66, Q67, Q68, Q69, Q70, Q71, Q72, Q73, Q99, Q100, Q101, Q102, Q103, Q74, Q75, Q77, Q78, Q79, Q80, Q81, Q82, Q83, Q84, clr, List.length_nil, List.length_cons, List.getElem?_cons_zero, List.getElem?_cons_succ, Nat.reduceAdd, Nat.zero_add, Nat.add_zero, Nat.reduceLeDiff, Nat.reduceSub, ↓reduceIte, List.drop_succ_cons, List.drop_zero, List.take_succ_cons, List.take_zero, Bool.false_eq_true, List.nil_append, List.cons_append, Bool.not_true, Bool.not_false, cond_true, cond_false, bne, Q85, Q86, Q87, Q88, Q89, Q90, Q91, Q92, Q93, Q94, Q95, Q96, Q97, Q98, Q110, Q111, Q116, Q117, Q118, Q119, Q120, Q121, Q122, Q123, Option.map_some, Option.map_none]
 ·have n5 : (i.op == 5) = false := beq_eq_false_iff_ne.2 o5'
  by_cases o15 : i.op = 15
  ·have n15 : (i.op == 15) = true := by rw [o15]; rfl
   rw [n5] at s2
   rw [show dC s i = { s with parts := i.n, ofGet := i.op == 5 } from by rw [dC, if_pos (.inr o15)]]
   refine ⟨.v (.bool true), .v undef, h2, ?_, q.next p2 (b1.trans b2), by omega, b1.trans b2⟩
   simp only [c20_21, c20_22, c20_23, c20_24, c20_25, l0, l4, s1, s2, m0, n5, n15, Q104, e_append, bsI, snap_int, e_callh, List.map_cons, List.map_nil, Q122, Q0, Q1, Q2, Q3, Q4, Q5, Q6, Q7, Q8, Q9, Q10, Q11, Q12, Q13, Q14, Q15, Q16, Q17, Q18, Q19, Q20, Q21, Q22, Q23, Q24, Q25, Q26, Q27, Q28, Q29, Q30, Q31, Q32, Q33, Q35, Q36, Q37, Q38, Q39, Q40, Q41, Q42, Q43, Q44, Q45, Q46, Q47, Q48, Q49, Q50, Q51, Q52, Q53, Q54, Q55, Q56, Q57, Q58, Q59, Q60, Q61, Q62, Q63, Q64, Q65, Q66, Q67, Q68, Q69, Q70, Q71, Q72, Q73, Q99, Q100, Q101, Q102, Q103, Q74, Q75, Q77, Q78, Q79, Q80, Q81, Q82, Q83, Q84, clr, List.length_nil, List.length_cons, List.getElem?_cons_zero, List.getElem?_cons_succ, Nat.reduceAdd, Nat.zero_add, Nat.add_zero, Nat.reduceLeDiff, Nat.reduceSub, ↓reduceIte, List.drop_succ_cons, List.drop_zero, List.take_succ_cons, List.take_zero, Bool.false_eq_true, List.nil_append, List.cons_append, Bool.not_true, Bool.not_false, cond_true, cond_false, bne, Q85, Q86, Q87, Q88, Q89, Q90, Q91, Q92, Q93, Q94, Q95, Q96, Q97, Q98, Q110, Q111, Q116, Q117, Q118, Q119, Q120, Q121, Q122, Q123, Option.map_some, Option.map_none]
  ·have n15 : (i.op == 15) = false := beq_eq_false_iff_ne.2 o15
   by_cases o21 : i.op = 21
   ·have n21 : (i.op == 21) = true := by rw [o21]; rfl
    rw [show dC s i = { s with regs := [] } from by rw [dC, if_neg (by omega), if_pos o21]]
    refine ⟨.v (.bool false), .v (.bool true), hc, ?_, q.next pc bc, by omega, bc⟩
    simp only [c20_21, c20_22, c20_23, c20_26, c20_27, l0, sc, n5, n15, n21, Q104, e_append, bsI, snap_int, e_callh, List.map_cons, List.map_nil, Q122, Q0, Q1, Q2, Q3, Q4, Q5, Q6, Q7, Q8, Q9, Q10, Q11, Q12, Q13, Q14, Q15, Q16, Q17, Q18, Q19, Q20, Q21, Q22, Q23, Q24, Q25, Q26, Q27, Q28, Q29, Q30, Q31, Q32, Q33, Q35, Q36, Q37, Q38, Q39, Q40, Q41, Q42, Q43, Q44, Q45, Q46, Q47, Q48, Q49, Q50, Q51, Q52, Q53, Q54, Q55, Q56, Q57, Q58, Q59, Q60, Q61, Q62, Q63, Q64, Q65, Q66, Q67, Q68, Q69, Q70, Q71, Q72, Q73, Q99, Q100, Q101, Q102, Q103, Q74, Q75, Q77, Q78, Q79, Q80, Q81, Q82, Q83, Q84, clr, List.length_nil, List.length_cons, List.getElem?_cons_zero, List.getElem?_cons_succ, Nat.reduceAdd, Nat.zero_add, Nat.add_zero, Nat.reduceLeDiff, Nat.reduceSub, ↓reduceIte, List.drop_succ_cons, List.drop_zero, List.take_succ_cons, List.take_zero, Bool.false_eq_true, List.nil_append, List.cons_append, Bool.not_true, Bool.not_false, cond_true, cond_false, bne, Q85, Q86, Q87, Q88, Q89, Q90, Q91, Q92, Q93, Q94, Q95, Q96, Q97, Q98, Q110, Q111, Q116, Q117, Q118, Q119, Q120, Q121, Q122, Q123, Option.map_some, Option.map_none]
   ·have n21 : (i.op == 21) = false := beq_eq_false_iff_ne.2 o21
    rw [show dC s i = s from by rw [dC, if_neg (by omega), if_neg o21]]
    refine ⟨.v (.bool false), .v (.bool false), H, ?_, q, Nat.le_refl _, .refl H⟩
    simp only [c20_21, c20_22, c20_23, c20_26, l0, n5, n15, n21, Q104, e_append, bsI, snap_int, e_callh, List.map_cons, List.map_nil, Q122, Q0, Q1, Q2, Q3, Q4, Q5, Q6, Q7, Q8, Q9, Q10, Q11, Q12, Q13, Q14, Q15, Q16, Q17, Q18, Q19, Q20, Q21, Q22, Q23, Q24, Q25, Q26, Q27, Q28, Q29, Q30, Q31, Q32, Q33, Q35, Q36, Q37, Q38, Q39, Q40, Q41, Q42, Q43, Q44, Q45, Q46, Q47, Q48, Q49, Q50, Q51, Q52, Q53, Q54, Q55, Q56, Q57, Q58, Q59, Q60, Q61, Q62, Q63, Q64, Q65, Q66, Q67, Q68, Q69, Q70, Q71, Q72, Q73, Q99, Q100, Q101, Q102, Q103, Q74, Q75, Q77, Q78, Q79, Q80, Q81, Q82, Q83, Q84, clr, List.length_nil, List.length_cons, List.getElem?_cons_zero, List.getElem?_cons_succ, Nat.reduceAdd, Nat.zero_add, Nat.add_zero, Nat.reduceLeDiff, Nat.reduceSub, ↓reduceIte, List.drop_succ_cons, List.drop_zero, List.take_succ_cons, List.take_zero, Bool.false_eq_true, List.nil_append, List.cons_append, Bool.not_true, Bool.not_false, cond_true, cond_false, bne, Q85, Q86, Q87, Q88, Q89, Q90, Q91, Q92, Q93, Q94, Q95, Q96, Q97, Q98, Q110, Q111, Q116, Q117, Q118, Q119, Q120, Q121, Q122, Q123, Option.map_some, Option.map_none]
theorem dA_len (s : RS) (i : Op5) : (dA s i).regs.length ≤ s.regs.length + 1 ∧ (dA s i).known.length ≤ s.known.length + 1 := by
 unfold dA; split
 ·simp
 ·split <;> simp
theorem rdoes_ok (p : Sp c0 c1 c2 c3 H s) (hm : s.regs.length ≤ 800000) (hk : s.known.length ≤ 800000) (i : Op5) :
  ∃ H', callW F 20 [.ptr 1 0, o5 i] H = some (.tup [], H') ∧ Sp c0 c1 c2 c3 H' (doesR s i) ∧ H.length ≤ H'.length ∧ Bx H H' := by
 have p0 : Sp c0 c1 c2 c3 (H ++ [.box 41 (o5 i).cells]) s := p.app (all_below_mono (Nat.zero_le _) rfl)
 have q0 : St c0 c1 c2 c3 (H ++ [.box 41 (o5 i).cells]) s i H.length := ⟨p0, by simp, by have := p.two; omega⟩
 have dl := dA_len s i
 obtain ⟨a4, a5, H1, e1, q1, n1, b1⟩ := does_a q0 (by omega) (by omega) (C := o5 i)
 obtain ⟨a6, a7, a8, a9, a10, H2, e2, q2, n2, b2⟩ := does_b q1 (by omega) (C := o5 i) (a3 := .v (.int .i64 i.op)) (a4 := a4) (a5 := a5)
 obtain ⟨a12, a13, H3, e3, q3, n3, b3⟩ := does_c q2 (C := o5 i) (a3 := .v (.int .i64 i.op)) (a4 := a4) (a5 := a5) (a6 := a6) (a7 := a7) (a8 := a8) (a9 := a9) (a10 := a10)
 have nn : (H ++ [AO.box 41 (o5 i).cells]).length = H.length + 1 := by simp
 refine ⟨H3, callW_keep (c := c20) rfl rfl 0 ?_, q3.p, by omega, (((Bx.app H _).trans b1).trans b2).trans b3⟩
 have cl : (o5 i).cl = some (o5 i).cells := rfl
 have bx5 : bx H 41 (some (o5 i).cells) = some (.ptr H.length 0, H ++ [.box 41 (o5 i).cells]) := rfl
 have r0 : exec (callW F) 0 (.region [] [] c20_0) (start c20 [.ptr 1 0, o5 i]) H = some (.normal, [.ptr 1 0, o5 i, .ptr H.length 0, .v undef, .v undef, .v undef, .v undef, .v undef, .v undef, .v undef, .v undef, .v undef, .v undef, .v undef], H ++ [.box 41 (o5 i).cells]) := by
  generalize o5 i = C at *
  simp only [c20, start, List.replicate, c20_0, cl, bx5, Q0, Q1, Q2, Q3, Q4, Q5, Q6, Q7, Q8, Q9, Q10, Q11, Q12, Q13, Q14, Q15, Q16, Q17, Q18, Q19, Q20, Q21, Q22, Q23, Q24, Q25, Q26, Q27, Q28, Q29, Q30, Q31, Q32, Q33, Q35, Q36, Q37, Q38, Q39, Q40, Q41, Q42, Q43, Q44, Q45, Q46, Q47, Q48, Q49, Q50, Q51, Q52, Q53, Q54, Q55, Q56, Q57, Q58, Q59, Q60, Q61, Q62, Q63, Q64, Q65, Q66, Q67, Q68, Q69, Q70, Q71, Q72, Q73, Q99, Q100, Q101, Q102, Q103, Q74, Q75, Q77, Q78, Q79, Q80, Q81, Q82, Q83, Q84, clr, List.length_nil, List.length_cons, List.getElem?_cons_zero, List.getElem?_cons_succ, Nat.reduceAdd, Nat.zero_add, Nat.add_zero, Nat.reduceLeDiff, Nat.reduceSub, ↓reduceIte, List.drop_succ_cons, List.drop_zero, List.take_succ_cons, List.take_zero, Bool.false_eq_true, List.nil_append, List.cons_append, Bool.not_true, Bool.not_false, cond_true, cond_false, bne, Q85, Q86, Q87, Q88, Q89, Q90, Q91, Q92, Q93, Q94, Q95, Q96, Q97, Q98, Q110, Q111, Q116, Q117, Q118, Q119, Q120, Q121, Q122, Q123, Option.map_some, Option.map_none]
 show leaveKeep c20 (exec (callW F) 0 (.seq (.region [] [] c20_0) (.seq (.seq (.region [] [] c20_1) (.block 0 (.seq (.seq (.region [] [] c20_2) (.cond (.var 4) .skip (.seq (.region [] [] c20_3) (.cond (.var 4) .skip (.seq (.region [] [] c20_4) (.cond (.var 4) .skip (.region [] [] c20_5))))))) (.cond (.var 4) (.region [] [] c20_6) (.seq (.region [] [] c20_7) (.cond (.var 5) (.region [] [] c20_8) .skip)))))) (.seq (.block 1 (.seq (.seq (.region [] [] c20_9) (.cond (.var 6) .skip (.region [] [] c20_10))) (.cond (.var 6) (.seq (.region [] [] c20_11) (.seq (.region [] [] c20_12) (.cond (.var 7) (.region [] [] c20_13) .skip))) (.seq (.region [] [] c20_14) (.cond (.var 8) (.seq (.region [] [] c20_15) (.seq (.region [] [] c20_16) (.seq (.region [] [] c20_17) (.cond (.var 9) (.region [] [] c20_18) .skip)))) (.seq (.region [] [] c20_19) (.cond (.var 10) (.region [] [] c20_20) .skip))))))) (.seq (.region [] [] c20_21) (.block 2 (.seq (.seq (.region [] [] c20_22) (.cond (.var 12) .skip (.region [] [] c20_23))) (.cond (.var 12) (.seq (.region [] [] c20_24) (.region [] [] c20_25)) (.seq (.region [] [] c20_26) (.cond (.var 13) (.region [] [] c20_27) .skip))))))))) (start c20 [.ptr 1 0, o5 i]) H) = _
 rw [Q20, r0, Q12, Q20, e1, Q12, Q20, e2, Q12, e3]
 exact leave_k0 (.inr rfl) rfl
end
end Go.AE.YtghgbbiklkpbnaaDoor
end

section
namespace Go.AE.YtghgbbiklkpbnaaDoor.Chk
open Go Go.AE Go.Proofs.YtghgbbiklkpbnaaDoor

def K6g : List Bool := [false, false, false, false, false, true, true, true, false, false]
def V6g (c : AV) (len i : Int) (x3 x8 x9 : AV) : List AV := [.junk, .junk, .junk, x3, .junk, c, .v (.int .i64 len), .v (.int .i64 i), x8, x9]
theorem big_loop {K : Nat} {c : AV} {l : List In} {es : List AV} (hs : Sl 5 c es) (hes : AllR IsIn es l) (hm : l.length ≤ maxLen) (hK : l.length < K) (h : List AO) (v : List AV) (hv : clr K6g v = V6g c l.length 0 .junk .junk .junk) :
  ∃ e v' h', loopN (exec (callW F) K c6_9) K6g K v h = some (e, v', h') ∧ ((e = .ret ∧ getO v' [] (.var 2) = .v (.bool true)) ∨ (e = .exit 0 ∧ ∃ x3 x8 x9, v' = V6g c l.length l.length x3 x8 x9)) := by
 obtain ⟨e, v', h', g1, g2, g3⟩ := loop_rule0 (call := callW F) (K := K) (b := c6_9) (keep := K6g) (fun i v h' => v = V6g c l.length i .junk .junk .junk)
  (fun e v h' => ((e = .ret ∧ getO v [] (.var 2) = .v (.bool true)) ∨ (e = .exit 0 ∧ ∃ x3 x8 x9, v = V6g c l.length l.length x3 x8 x9))) l.length (m := K) (v := v) (h := h) hK hv (by
   rintro i v h' hi rfl
   by_cases hil : i < l.length
   ·have hlt := lt_t hil
    have hw := wrap_succ hil hm
    obtain ⟨x, hx⟩ : ∃ x, l[i]? = some x := ⟨_, List.getElem?_eq_getElem hil⟩
    obtain ⟨e, he, hin⟩ := hes.get' hx
    have hei := hin.eq
    subst hei
    have q1 := fun h : List AO => hs.ia he h
    have q3 : ∀ h : List AO, Q76 h true 5 (.ip (inV x).cells) = some (inV x) := fun _ => rfl
    have z : (ofVal (.agg #[(.int .i64 0), (.int .i64 0), (.int .i64 0), (.string ⟨#[]⟩), (.int .i64 0)])).cl = some [.v (.int .i64 0), .v (.int .i64 0), .v (.int .i64 0), .v (.string ⟨#[]⟩), .v (.int .i64 0)] := by kernel_rfl
    have st : Q113 (h' ++ [.box 41 [.v (.int .i64 0), .v (.int .i64 0), .v (.int .i64 0), .v (.string ⟨#[]⟩), .v (.int .i64 0)]]) 5 (.ptr h'.length 0) (inV x) = some (h' ++ [.box 41 (inC x)]) := st_new (show (inV x).cl = some (inC x) from rfl) (show (inC x).length = 5 from rfl) rfl
    have ld : Q76 (h' ++ [.box 41 (inC x)]) false 1 (.ptr h'.length 3) = some (.v (.string x.nm)) := by rw [ld_new]; rfl
    have ln : ∀ h : List AO, evLen h .string (.v (.string x.nm)) = some x.nm.size := fun _ => rfl
    cases hb : decide ((x.nm.size : Int) > 1000) with
    | false =>
     refine ⟨.normal, [.junk, .junk, .junk, .ptr h'.length 0, .junk, c, .v (.int .i64 l.length), .v (.int .i64 ((i + 1 : Nat) : Int)), .v (.bool true), .v (.bool false)], h' ++ [.box 41 (inC x)], ?_, hil, rfl⟩
     simp only [V6g, c6_9, c6_4, c6_5, c6_6, c6_8, hlt, hw, q1, q3, z, st, ld, ln, hb, Q0, Q1, Q2, Q3, Q4, Q5, Q6, Q7, Q8, Q9, Q10, Q11, Q12, Q13, Q14, Q15, Q16, Q17, Q18, Q19, Q20, Q21, Q22, Q23, Q24, Q25, Q26, Q27, Q28, Q29, Q30, Q31, Q32, Q33, Q35, Q36, Q37, Q38, Q39, Q40, Q41, Q42, Q43, Q44, Q45, Q46, Q47, Q48, Q49, Q50, Q51, Q52, Q53, Q54, Q55, Q56, Q57, Q58, Q59, Q60, Q61, Q62, Q63, Q64, Q65, Q66, Q67, Q68, Q69, Q70, Q71, Q72, Q73, Q99, Q100, Q101, Q102, Q103, Q74, Q75, Q77, Q78, Q79, Q80, Q81, Q82, Q83, Q84, clr, List.length_nil, List.length_cons, List.getElem?_cons_zero, List.getElem?_cons_succ, Nat.reduceAdd, Nat.zero_add, Nat.add_zero, Nat.reduceLeDiff, Nat.reduceSub, ↓reduceIte, List.drop_succ_cons, List.drop_zero, List.take_succ_cons, List.take_zero, Bool.false_eq_true, List.nil_append, List.cons_append, Bool.not_true, Bool.not_false, cond_true, cond_false, bne, Q85, Q86, Q87, Q88, Q89, Q90, Q91, Q92, Q93, Q94, Q95, Q96, Q97, Q98, Q110, Q111, Q116, Q117, Q118, Q119, Q120, Q121, Q122, Q123, Option.map_some, Option.map_none, Q34]
    | true =>
     refine ⟨.ret, [.junk, .junk, .v (.bool true), .ptr h'.length 0, .junk, c, .v (.int .i64 l.length), .v (.int .i64 i), .v (.bool true), .v (.bool true)], h' ++ [.box 41 (inC x)], ?_, .inl ⟨rfl, rfl⟩⟩
     simp only [V6g, c6_9, c6_4, c6_5, c6_6, c6_7, hlt, hw, q1, q3, z, st, ld, ln, hb, Q0, Q1, Q2, Q3, Q4, Q5, Q6, Q7, Q8, Q9, Q10, Q11, Q12, Q13, Q14, Q15, Q16, Q17, Q18, Q19, Q20, Q21, Q22, Q23, Q24, Q25, Q26, Q27, Q28, Q29, Q30, Q31, Q32, Q33, Q35, Q36, Q37, Q38, Q39, Q40, Q41, Q42, Q43, Q44, Q45, Q46, Q47, Q48, Q49, Q50, Q51, Q52, Q53, Q54, Q55, Q56, Q57, Q58, Q59, Q60, Q61, Q62, Q63, Q64, Q65, Q66, Q67, Q68, Q69, Q70, Q71, Q72, Q73, Q99, Q100, Q101, Q102, Q103, Q74, Q75, Q77, Q78, Q79, Q80, Q81, Q82, Q83, Q84, clr, List.length_nil, List.length_cons, List.getElem?_cons_zero, List.getElem?_cons_succ, Nat.reduceAdd, Nat.zero_add, Nat.add_zero, Nat.reduceLeDiff, Nat.reduceSub, ↓reduceIte, List.drop_succ_cons, List.drop_zero, List.take_succ_cons, List.take_zero, Bool.false_eq_true, List.nil_append, List.cons_append, Bool.not_true, Bool.not_false, cond_true, cond_false, bne, Q85, Q86, Q87, Q88, Q89, Q90, Q91, Q92, Q93, Q94, Q95, Q96, Q97, Q98, Q110, Q111, Q116, Q117, Q118, Q119, Q120, Q121, Q122, Q123, Option.map_some, Option.map_none, Q34]
   ·have hie : i = l.length := by omega
    subst hie
    have hlt := lt_f (n := l.length)
    refine ⟨.exit 0, V6g c l.length l.length .junk (.v (.bool false)) .junk, h', ?_, .inr ⟨rfl, _, _, _, rfl⟩⟩
    simp only [V6g, c6_9, c6_4, hlt, Q0, Q1, Q2, Q3, Q4, Q5, Q6, Q7, Q8, Q9, Q10, Q11, Q12, Q13, Q14, Q15, Q16, Q17, Q18, Q19, Q20, Q21, Q22, Q23, Q24, Q25, Q26, Q27, Q28, Q29, Q30, Q31, Q32, Q33, Q35, Q36, Q37, Q38, Q39, Q40, Q41, Q42, Q43, Q44, Q45, Q46, Q47, Q48, Q49, Q50, Q51, Q52, Q53, Q54, Q55, Q56, Q57, Q58, Q59, Q60, Q61, Q62, Q63, Q64, Q65, Q66, Q67, Q68, Q69, Q70, Q71, Q72, Q73, Q99, Q100, Q101, Q102, Q103, Q74, Q75, Q77, Q78, Q79, Q80, Q81, Q82, Q83, Q84, clr, List.length_nil, List.length_cons, List.getElem?_cons_zero, List.getElem?_cons_succ, Nat.reduceAdd, Nat.zero_add, Nat.add_zero, Nat.reduceLeDiff, Nat.reduceSub, ↓reduceIte, List.drop_succ_cons, List.drop_zero, List.take_succ_cons, List.take_zero, Bool.false_eq_true, List.nil_append, List.cons_append, Bool.not_true, Bool.not_false, cond_true, cond_false, bne, Q85, Q86, Q87, Q88, Q89, Q90, Q91, Q92, Q93, Q94, Q95, Q96, Q97, Q98, Q110, Q111, Q116, Q117, Q118, Q119, Q120, Q121, Q122, Q123, Option.map_some, Option.map_none, Q34])
 exact ⟨e, v', h', g1, g3⟩
theorem lv1_one {h : List AO} {vars : List AV} {i : Nat} {x : Value} (hx : getO vars [] (.var i) = .v x) : lv [.var i] (some (.ret, vars, h)) = some (.v x, []) := by
 simp only [Q85]
 have h1 : resOf vars h (.var i) = some (.v x) := by rw [← hx]; rfl
 simp only [List.mapM_cons, List.mapM_nil, h1]
 rfl
theorem big_ok {a : AV} {c : Co} (ha : IsCo a c) : ∃ r, callW F 6 [a] [] = some (.v (.bool r), []) ∧ (r = false → c.l.length ≤ 2000) := by
 cases ha with
 | mk nm ar vs c3 l hl =>
 obtain ⟨es, hs, hes, hm⟩ := hl
 have hel := hes.length
 have cl := (show (AV.agg [.v (.string nm), .v (.int .i64 ar), .v (.int .i64 vs), c3]).cl = some [.v (.string nm), .v (.int .i64 ar), .v (.int .i64 vs), c3] by cases hs <;> rfl)
 have l0 : ∀ h, Q76 (.box 24 [.v (.string nm), .v (.int .i64 ar), .v (.int .i64 vs), c3] :: h) false 1 (.ptr 0 0) = some (.v (.string nm)) := fun _ => rfl
 have l3 : ∀ h, Q76 (.box 24 [.v (.string nm), .v (.int .i64 ar), .v (.int .i64 vs), c3] :: h) false 1 (.ptr 0 3) = some c3 := fun _ => rfl
 have nl := fun h : List AO => hs.len h
 rw [hel] at nl
 have ln : ∀ h : List AO, evLen h .string (.v (.string nm)) = some nm.size := fun _ => rfl
 have st6g : start c6 [.agg [.v (.string nm), .v (.int .i64 ar), .v (.int .i64 vs), c3]] = [.agg [.v (.string nm), .v (.int .i64 ar), .v (.int .i64 vs), c3], .v undef, .v undef, .v undef, .v undef, .v undef, .v undef, .v undef, .v undef, .v undef] := rfl
 have hres : c6.res = [.var 2] := rfl
 cases b1 : decide ((l.length : Int) > 2000) with
 | true =>
  refine ⟨true, callW_pure (c := c6) rfl rfl 0 ?_, fun h => by cases h⟩
  rw [st6g]
  simp only [c6, c6_0, c6_1, c6_2, cl, l0, l3, nl, ln, b1, Q122, Q0, Q1, Q2, Q3, Q4, Q5, Q6, Q7, Q8, Q9, Q10, Q11, Q12, Q13, Q14, Q15, Q16, Q17, Q18, Q19, Q20, Q21, Q22, Q23, Q24, Q25, Q26, Q27, Q28, Q29, Q30, Q31, Q32, Q33, Q35, Q36, Q37, Q38, Q39, Q40, Q41, Q42, Q43, Q44, Q45, Q46, Q47, Q48, Q49, Q50, Q51, Q52, Q53, Q54, Q55, Q56, Q57, Q58, Q59, Q60, Q61, Q62, Q63, Q64, Q65, Q66, Q67, Q68, Q69, Q70, Q71, Q72, Q73, Q99, Q100, Q101, Q102, Q103, Q74, Q75, Q77, Q78, Q79, Q80, Q81, Q82, Q83, Q84, clr, List.length_nil, List.length_cons, List.getElem?_cons_zero, List.getElem?_cons_succ, Nat.reduceAdd, Nat.zero_add, Nat.add_zero, Nat.reduceLeDiff, Nat.reduceSub, ↓reduceIte, List.drop_succ_cons, List.drop_zero, List.take_succ_cons, List.take_zero, Bool.false_eq_true, List.nil_append, List.cons_append, Bool.not_true, Bool.not_false, cond_true, cond_false, bne, Q85, Q86, Q87, Q88, Q89, Q90, Q91, Q92, Q93, Q94, Q95, Q96, Q97, Q98, Q110, Q111, Q116, Q117, Q118, Q119, Q120, Q121, Q122, Q123, Option.map_some, Option.map_none, Q34]
 | false =>
  have hle : l.length ≤ 2000 := by simp at b1; omega
  cases b2 : decide ((nm.size : Int) > 1000) with
  | true =>
   refine ⟨true, callW_pure (c := c6) rfl rfl 0 ?_, fun h => by cases h⟩
   rw [st6g]
   simp only [c6, c6_0, c6_1, c6_2, cl, l0, l3, nl, ln, b1, b2, Q122, Q0, Q1, Q2, Q3, Q4, Q5, Q6, Q7, Q8, Q9, Q10, Q11, Q12, Q13, Q14, Q15, Q16, Q17, Q18, Q19, Q20, Q21, Q22, Q23, Q24, Q25, Q26, Q27, Q28, Q29, Q30, Q31, Q32, Q33, Q35, Q36, Q37, Q38, Q39, Q40, Q41, Q42, Q43, Q44, Q45, Q46, Q47, Q48, Q49, Q50, Q51, Q52, Q53, Q54, Q55, Q56, Q57, Q58, Q59, Q60, Q61, Q62, Q63, Q64, Q65, Q66, Q67, Q68, Q69, Q70, Q71, Q72, Q73, Q99, Q100, Q101, Q102, Q103, Q74, Q75, Q77, Q78, Q79, Q80, Q81, Q82, Q83, Q84, clr, List.length_nil, List.length_cons, List.getElem?_cons_zero, List.getElem?_cons_succ, Nat.reduceAdd, Nat.zero_add, Nat.add_zero, Nat.reduceLeDiff, Nat.reduceSub, ↓reduceIte, List.drop_succ_cons, List.drop_zero, List.take_succ_cons, List.take_zero, Bool.false_eq_true, List.nil_append, List.cons_append, Bool.not_true, Bool.not_false, cond_true, cond_false, bne, Q85, Q86, Q87, Q88, Q89, Q90, Q91, Q92, Q93, Q94, Q95, Q96, Q97, Q98, Q110, Q111, Q116, Q117, Q118, Q119, Q120, Q121, Q122, Q123, Option.map_some, Option.map_none, Q34]
  | false =>
   obtain ⟨e, v', h', g1, g2⟩ := big_loop (K := l.length + 1) hs hes (by omega) (by omega) [.box 24 [.v (.string nm), .v (.int .i64 ar), .v (.int .i64 vs), c3]] [.agg [.v (.string nm), .v (.int .i64 ar), .v (.int .i64 vs), c3], .ptr 0 0, .v (.bool false), .v undef, .v (.bool false), c3, .v (.int .i64 l.length), .v (.int .i64 0), .v undef, .v undef] rfl
   have hbody : c6.body = (.seq (.region [] [] c6_0) (.seq (.seq (.region [] [] c6_1) (.cond (.var 4) (.seq (.region [] [] c6_2) .ret) .skip)) (.seq (.seq (.region [] [] c6_3) (.block 0 (.loop K6g [] c6_9))) (.seq (.region [] [] c6_10) .ret)))) := rfl
   rcases g2 with ⟨rfl, g2⟩ | ⟨rfl, x3, x8, x9, rfl⟩
   ·refine ⟨true, callW_pure (c := c6) rfl rfl (l.length + 1) ?_, fun h => by cases h⟩
    rw [st6g, hbody, hres]
    generalize c6_9 = bb at g1 ⊢
    simp only [c6_0, c6_1, c6_3, cl, l0, l3, nl, ln, b1, b2, g1, Q122, Q0, Q1, Q2, Q3, Q4, Q5, Q6, Q7, Q8, Q9, Q10, Q11, Q12, Q13, Q14, Q15, Q16, Q17, Q18, Q19, Q20, Q21, Q22, Q23, Q24, Q25, Q26, Q27, Q28, Q29, Q30, Q31, Q32, Q33, Q35, Q36, Q37, Q38, Q39, Q40, Q41, Q42, Q43, Q44, Q45, Q46, Q47, Q48, Q49, Q50, Q51, Q52, Q53, Q54, Q55, Q56, Q57, Q58, Q59, Q60, Q61, Q62, Q63, Q64, Q65, Q66, Q67, Q68, Q69, Q70, Q71, Q72, Q73, Q99, Q100, Q101, Q102, Q103, Q74, Q75, Q77, Q78, Q79, Q80, Q81, Q82, Q83, Q84, clr, List.length_nil, List.length_cons, List.getElem?_cons_zero, List.getElem?_cons_succ, Nat.reduceAdd, Nat.zero_add, Nat.add_zero, Nat.reduceLeDiff, Nat.reduceSub, ↓reduceIte, List.drop_succ_cons, List.drop_zero, List.take_succ_cons, List.take_zero, Bool.false_eq_true, List.nil_append, List.cons_append, Bool.not_true, Bool.not_false, cond_true, cond_false, bne, Q85, Q86, Q87, Q88, Q89, Q90, Q91, Q92, Q93, Q94, Q95, Q96, Q97, Q98, Q110, Q111, Q116, Q117, Q118, Q119, Q120, Q121, Q122, Q123, Option.map_some, Option.map_none, Q34]
    exact lv1_one g2
   ·refine ⟨false, callW_pure (c := c6) rfl rfl (l.length + 1) ?_, fun _ => hle⟩
    rw [st6g, hbody, hres]
    simp only [V6g] at g1
    generalize c6_9 = bb at g1 ⊢
    simp only [c6_0, c6_1, c6_3, c6_10, cl, l0, l3, nl, ln, b1, b2, g1, Q122, Q0, Q1, Q2, Q3, Q4, Q5, Q6, Q7, Q8, Q9, Q10, Q11, Q12, Q13, Q14, Q15, Q16, Q17, Q18, Q19, Q20, Q21, Q22, Q23, Q24, Q25, Q26, Q27, Q28, Q29, Q30, Q31, Q32, Q33, Q35, Q36, Q37, Q38, Q39, Q40, Q41, Q42, Q43, Q44, Q45, Q46, Q47, Q48, Q49, Q50, Q51, Q52, Q53, Q54, Q55, Q56, Q57, Q58, Q59, Q60, Q61, Q62, Q63, Q64, Q65, Q66, Q67, Q68, Q69, Q70, Q71, Q72, Q73, Q99, Q100, Q101, Q102, Q103, Q74, Q75, Q77, Q78, Q79, Q80, Q81, Q82, Q83, Q84, clr, List.length_nil, List.length_cons, List.getElem?_cons_zero, List.getElem?_cons_succ, Nat.reduceAdd, Nat.zero_add, Nat.add_zero, Nat.reduceLeDiff, Nat.reduceSub, ↓reduceIte, List.drop_succ_cons, List.drop_zero, List.take_succ_cons, List.take_zero, Bool.false_eq_true, List.nil_append, List.cons_append, Bool.not_true, Bool.not_false, cond_true, cond_false, bne, Q85, Q86, Q87, Q88, Q89, Q90, Q91, Q92, Q93, Q94, Q95, Q96, Q97, Q98, Q110, Q111, Q116, Q117, Q118, Q119, Q120, Q121, Q122, Q123, Option.map_some, Option.map_none, Q34]

theorem char17_ok (s : ByteArray) : callW F 17 [.v (.string s)] [] = some (.v (.bool (charT s)), []) := by
 refine callW_pure (c := c17) rfl rfl 0 ?_
 have ln : ∀ h : List AO, evLen h .string (.v (.string s)) = some s.size := fun _ => rfl
 cases h1 : decide ((s.size : Int) ≤ 255) with
 | false => simp only [charT, c17, start, List.replicate, c17_0, c17_1, ln, h1, Q122, Bool.false_and, Q0, Q1, Q2, Q3, Q4, Q5, Q6, Q7, Q8, Q9, Q10, Q11, Q12, Q13, Q14, Q15, Q16, Q17, Q18, Q19, Q20, Q21, Q22, Q23, Q24, Q25, Q26, Q27, Q28, Q29, Q30, Q31, Q32, Q33, Q35, Q36, Q37, Q38, Q39, Q40, Q41, Q42, Q43, Q44, Q45, Q46, Q47, Q48, Q49, Q50, Q51, Q52, Q53, Q54, Q55, Q56, Q57, Q58, Q59, Q60, Q61, Q62, Q63, Q64, Q65, Q66, Q67, Q68, Q69, Q70, Q71, Q72, Q73, Q99, Q100, Q101, Q102, Q103, Q74, Q75, Q77, Q78, Q79, Q80, Q81, Q82, Q83, Q84, clr, List.length_nil, List.length_cons, List.getElem?_cons_zero, List.getElem?_cons_succ, Nat.reduceAdd, Nat.zero_add, Nat.add_zero, Nat.reduceLeDiff, Nat.reduceSub, ↓reduceIte, List.drop_succ_cons, List.drop_zero, List.take_succ_cons, List.take_zero, Bool.false_eq_true, List.nil_append, List.cons_append, Bool.not_true, Bool.not_false, cond_true, cond_false, bne, Q85, Q86, Q87, Q88, Q89, Q90, Q91, Q92, Q93, Q94, Q95, Q96, Q97, Q98, Q110, Q111, Q116, Q117, Q118, Q119, Q120, Q121, Q122, Q123, Option.map_some, Option.map_none]
 | true =>
  have hs : s.size ≤ 9223372036854775807 := by simp at h1; omega
  have hv : callW F 32 [.v (.string s)] [] = some (.v (.bool (Lib.validD s.data.toList)), []) := by
   refine callW_iff.2 ⟨1, ?_⟩
   have : F 32 = some (.oracle validG) := rfl
   simp only [callN, this, validG, if_pos hs]
  have sn : ∀ h : List AO, (AV.v (.string s)).snap1 h = some (.v (.string s)) := fun _ => rfl
  simp only [charT, c17, start, List.replicate, c17_0, c17_1, ln, h1, hv, sn, Q122, Bool.true_and, Q0, Q1, Q2, Q3, Q4, Q5, Q6, Q7, Q8, Q9, Q10, Q11, Q12, Q13, Q14, Q15, Q16, Q17, Q18, Q19, Q20, Q21, Q22, Q23, Q24, Q25, Q26, Q27, Q28, Q29, Q30, Q31, Q32, Q33, Q35, Q36, Q37, Q38, Q39, Q40, Q41, Q42, Q43, Q44, Q45, Q46, Q47, Q48, Q49, Q50, Q51, Q52, Q53, Q54, Q55, Q56, Q57, Q58, Q59, Q60, Q61, Q62, Q63, Q64, Q65, Q66, Q67, Q68, Q69, Q70, Q71, Q72, Q73, Q99, Q100, Q101, Q102, Q103, Q74, Q75, Q77, Q78, Q79, Q80, Q81, Q82, Q83, Q84, clr, List.length_nil, List.length_cons, List.getElem?_cons_zero, List.getElem?_cons_succ, Nat.reduceAdd, Nat.zero_add, Nat.add_zero, Nat.reduceLeDiff, Nat.reduceSub, ↓reduceIte, List.drop_succ_cons, List.drop_zero, List.take_succ_cons, List.take_zero, Bool.false_eq_true, List.nil_append, List.cons_append, Bool.not_true, Bool.not_false, cond_true, cond_false, bne, Q85, Q86, Q87, Q88, Q89, Q90, Q91, Q92, Q93, Q94, Q95, Q96, Q97, Q98, Q110, Q111, Q116, Q117, Q118, Q119, Q120, Q121, Q122, Q123, Option.map_some, Option.map_none]
end Go.AE.YtghgbbiklkpbnaaDoor.Chk
end

section
namespace Go.AE.YtghgbbiklkpbnaaDoor.Chk
open Go Go.AE Go.Proofs.YtghgbbiklkpbnaaDoor

def stepR (vs : Int) (s : RS) (ov : Bool) (i : In) : Option RS := if !ov && (charT i.nm && (placeR s i && partedR s vs i)) then some (doesR s i) else none
def runR (vs : Int) : Nat → RS → Bool → List In → Int × Int
 | n, s, ov, [] => if ov then (0, 0) else (n, 150)
 | n, s, ov, i :: l => match stepR vs s ov i with
  | none => (n, 150)
  | some s' => runR vs (n + 1) s' (i.op == 23) l
def rUp (n : Nat) : List Int := (List.range n).map fun (i : Nat) => (i : Int)
theorem rUp_succ (n : Nat) : rUp (n + 1) = rUp n ++ [(n : Int)] := by simp [rUp, List.range_succ]
theorem rUp_len (n : Nat) : (rUp n).length = n := by simp [rUp]
def beginR (ar : Int) : RS := ⟨rUp ar.toNat, [], 0, false, true, 0⟩
def checkR (nm : ByteArray) (ar vs : Int) (l : List In) : Int × Int := if okT nm ar vs then runR vs 0 (beginR ar) false l else (0, 150)
theorem dBody_len (s : RS) : (dBody s).regs.length ≤ s.regs.length ∧ (dBody s).known = s.known := by
 unfold dBody; split <;> simp
theorem dPart_len (s : RS) : (dPart s).regs.length ≤ s.regs.length + 1 ∧ (dPart s).known = s.known := by
 unfold dPart; split <;> simp
theorem dB_len (s : RS) (i : Op5) : (dB s i).regs.length ≤ s.regs.length + 1 ∧ (dB s i).known = s.known := by
 have h1 := dBody_len s
 unfold dB
 split
 ·exact dPart_len s
 ·split
  ·split
   ·exact ⟨by simp only; omega, h1.2⟩
   ·exact ⟨by simp only [List.length_append, List.length_singleton]; omega, h1.2⟩
  ·split
   ·exact ⟨by omega, h1.2⟩
   ·exact ⟨by omega, rfl⟩
theorem doesR_len (s : RS) (i : Op5) : (doesR s i).regs.length ≤ s.regs.length + 2 ∧ (doesR s i).known.length ≤ s.known.length + 1 := by
 have h1 := dA_len s i
 have h2 := dB_len (dA s i) i
 unfold doesR dC
 split
 ·rw [h2.2]; exact ⟨by simp only; omega, h1.2⟩
 ·split
  ·rw [h2.2]; exact ⟨by simp, h1.2⟩
  ·rw [h2.2]; exact ⟨by omega, h1.2⟩
def K8a : List Bool := [false, true, false, false, true, false, false, false, false, false, true, true, false, false, false, false, false, false, false]
def V8a (ar j : Int) (x5 x12 : AV) : List AV := [.junk, .ptr 0 0, .junk, .junk, .ptr 1 0, x5, .junk, .junk, .junk, .junk, .v (.int .i64 ar), .v (.int .i64 j), x12, .junk, .junk, .junk, .junk, .junk, .junk]
def K8b : List Bool := [false, true, false, false, true, false, true, false, false, false, false, false, false, true, true, true, false, false, false]
def V8b (c : AV) (len n : Int) (ov : Bool) : List AV := [.junk, .ptr 0 0, .junk, .junk, .ptr 1 0, .junk, .v (.bool ov), .junk, .junk, .junk, .junk, .junk, .junk, c, .v (.int .i64 len), .v (.int .i64 n), .junk, .junk, .junk]
section
variable {c0 c3 : AV} {c1 c2 : Int}
theorem rregs_loop {K n : Nat} (hn : n ≤ 16) (hK : n < K) {h0 : List AO} (p0 : Sp c0 c1 c2 c3 h0 ⟨[], [], 0, false, true, 0⟩) (v : List AV) (hv : clr K8a v = V8a n 0 .junk .junk) :
  ∃ x5 h', Sp c0 c1 c2 c3 h' ⟨rUp n, [], 0, false, true, 0⟩ ∧ Bx h0 h' ∧ loopN (exec (callW F) K c8_9) K8a K v h0 = some (.exit 0, V8a n n x5 (.v (.bool false)), h') := by
 obtain ⟨e, v', h', g1, g2, g3⟩ := loop_rule0 (call := callW F) (K := K) (b := c8_9) (keep := K8a) (fun j v h' => v = V8a n j .junk .junk ∧ Sp c0 c1 c2 c3 h' ⟨rUp j, [], 0, false, true, 0⟩ ∧ Bx h0 h')
  (fun e v h' => e = .exit 0 ∧ (∃ x5, v = V8a n n x5 (.v (.bool false))) ∧ Sp c0 c1 c2 c3 h' ⟨rUp n, [], 0, false, true, 0⟩ ∧ Bx h0 h') n (m := K) (v := v) (h := h0) hK ⟨hv, p0, .refl h0⟩ (by
   rintro j v h' hj ⟨rfl, p, b⟩
   by_cases hjn : j < n
   ·have hlt := lt_t hjn
    have hw := wrap_succ hjn (by have : maxLen = 9223372036854775807 := rfl; omega)
    obtain ⟨M, c', h1, h2, ld, ap, st, p', n', b'⟩ := p.add4 (by simp only [rUp_len]; omega) (j : Int)
    simp only [iv] at ap
    refine ⟨.normal, V8a n ((j + 1 : Nat) : Int) (.v (.int .i64 j)) (.v (.bool true)), h2, ?_, hjn, rfl, (by rw [rUp_succ]; exact p'), b.trans b'⟩
    simp only [V8a, c8_9, c8_5, c8_6, c8_7, c8_8, hlt, hw, ld, ap, st, bsI, snap_int, Q104, e_append, Q0, Q1, Q2, Q3, Q4, Q5, Q6, Q7, Q8, Q9, Q10, Q11, Q12, Q13, Q14, Q15, Q16, Q17, Q18, Q19, Q20, Q21, Q22, Q23, Q24, Q25, Q26, Q27, Q28, Q29, Q30, Q31, Q32, Q33, Q35, Q36, Q37, Q38, Q39, Q40, Q41, Q42, Q43, Q44, Q45, Q46, Q47, Q48, Q49, Q50, Q51, Q52, Q53, Q54, Q55, Q56, Q57, Q58, Q59, Q60, Q61, Q62, Q63, Q64, Q65, Q66, Q67, Q68, Q69, Q70, Q71, Q72, Q73, Q99, Q100, Q101, Q102, Q103, Q74, Q75, Q77, Q78, Q79, Q80, Q81, Q82, Q83, Q84, clr, List.length_nil, List.length_cons, List.getElem?_cons_zero, List.getElem?_cons_succ, Nat.reduceAdd, Nat.zero_add, Nat.add_zero, Nat.reduceLeDiff, Nat.reduceSub, ↓reduceIte, List.drop_succ_cons, List.drop_zero, List.take_succ_cons, List.take_zero, Bool.false_eq_true, List.nil_append, List.cons_append, Bool.not_true, Bool.not_false, cond_true, cond_false, bne, Q85, Q86, Q87, Q88, Q89, Q90, Q91, Q92, Q93, Q94, Q95, Q96, Q97, Q98, Q110, Q111, Q116, Q117, Q118, Q119, Q120, Q121, Q122, Q123, Option.map_some, Option.map_none]
   ·have hje : j = n := by omega
    subst hje
    have hlt := lt_f (n := j)
    refine ⟨.exit 0, V8a j j .junk (.v (.bool false)), h', ?_, rfl, ⟨_, rfl⟩, p, b⟩
    simp only [V8a, c8_9, c8_5, hlt, Q0, Q1, Q2, Q3, Q4, Q5, Q6, Q7, Q8, Q9, Q10, Q11, Q12, Q13, Q14, Q15, Q16, Q17, Q18, Q19, Q20, Q21, Q22, Q23, Q24, Q25, Q26, Q27, Q28, Q29, Q30, Q31, Q32, Q33, Q35, Q36, Q37, Q38, Q39, Q40, Q41, Q42, Q43, Q44, Q45, Q46, Q47, Q48, Q49, Q50, Q51, Q52, Q53, Q54, Q55, Q56, Q57, Q58, Q59, Q60, Q61, Q62, Q63, Q64, Q65, Q66, Q67, Q68, Q69, Q70, Q71, Q72, Q73, Q99, Q100, Q101, Q102, Q103, Q74, Q75, Q77, Q78, Q79, Q80, Q81, Q82, Q83, Q84, clr, List.length_nil, List.length_cons, List.getElem?_cons_zero, List.getElem?_cons_succ, Nat.reduceAdd, Nat.zero_add, Nat.add_zero, Nat.reduceLeDiff, Nat.reduceSub, ↓reduceIte, List.drop_succ_cons, List.drop_zero, List.take_succ_cons, List.take_zero, Bool.false_eq_true, List.nil_append, List.cons_append, Bool.not_true, Bool.not_false, cond_true, cond_false, bne, Q85, Q86, Q87, Q88, Q89, Q90, Q91, Q92, Q93, Q94, Q95, Q96, Q97, Q98, Q110, Q111, Q116, Q117, Q118, Q119, Q120, Q121, Q122, Q123, Option.map_some, Option.map_none])
 obtain ⟨rfl, ⟨x5, rfl⟩, p, b⟩ := g3
 exact ⟨x5, h', p, b, g1⟩
theorem rcheck_loop {K : Nat} {c : AV} {l : List In} {es : List AV} (hs : Sl 5 c es) (hes : AllR IsIn es l) (hm : l.length ≤ 2000) (hK : l.length < K) {h : List AO} {s : RS} (p0 : Sp c0 c1 c2 c3 h s) (hr : s.regs.length ≤ 16) (hk : s.known.length = 0) (v : List AV) (hv : clr K8b v = V8b c l.length 0 false) :
    ∃ e v' h', loopN (exec (callW F) K c8_19) K8b K v h = some (e, v', h') ∧
      ((e = .ret ∧ getO v' [] (.var 2) = .v (.int .i64 (runR c2 0 s false l).1) ∧ getO v' [] (.var 3) = .v (.int .i64 (runR c2 0 s false l).2)) ∨
       (e = .exit 2 ∧ Bx h h' ∧ ∃ ov x16, v' = [.junk, .ptr 0 0, .junk, .junk, .ptr 1 0, .junk, .v (.bool ov), .junk, .junk, .junk, .junk, .junk, .junk, c, .v (.int .i64 l.length), .v (.int .i64 l.length), x16, .junk, .junk] ∧ runR c2 0 s false l = if ov then (0, 0) else ((l.length : Int), 150))) := by
  obtain ⟨e, v', h', g1, g2, g3⟩ := loop_rule0 (call := callW F) (K := K) (b := c8_19) (keep := K8b) (fun n v h' => ∃ ov s', v = V8b c l.length n ov ∧ Sp c0 c1 c2 c3 h' s' ∧ Bx h h' ∧ s'.regs.length ≤ 16 + 2 * n ∧ s'.known.length ≤ n ∧ runR c2 0 s false l = runR c2 n s' ov (l.drop n))
    (fun e v' h' => ((e = .ret ∧ getO v' [] (.var 2) = .v (.int .i64 (runR c2 0 s false l).1) ∧ getO v' [] (.var 3) = .v (.int .i64 (runR c2 0 s false l).2)) ∨
       (e = .exit 2 ∧ Bx h h' ∧ ∃ ov x16, v' = [.junk, .ptr 0 0, .junk, .junk, .ptr 1 0, .junk, .v (.bool ov), .junk, .junk, .junk, .junk, .junk, .junk, c, .v (.int .i64 l.length), .v (.int .i64 l.length), x16, .junk, .junk] ∧ runR c2 0 s false l = if ov then (0, 0) else ((l.length : Int), 150)))) l.length (m := K) (v := v) (h := h) hK ⟨false, s, hv, p0, .refl h, by omega, by omega, by simp⟩ (by
      rintro n v h' hn ⟨ov, s', rfl, p, b, z1, z2, hrun⟩
      by_cases hnl : n < l.length
      · have hlt := lt_t hnl
        have hw := wrap_succ hnl (by have : maxLen = 9223372036854775807 := rfl; omega)
        have hd : l.drop n = l[n] :: l.drop (n + 1) := List.drop_eq_getElem_cons hnl
        obtain ⟨x, hx⟩ : ∃ x, l[n]? = some x := ⟨_, List.getElem?_eq_getElem hnl⟩
        have hxe : l[n] = x := by rw [List.getElem?_eq_getElem hnl] at hx; exact Option.some.inj hx
        rw [hd, hxe] at hrun
        obtain ⟨e, he, hin⟩ := hes.get' hx
        have hei := hin.eq
        subst hei
        have q1 := fun h : List AO => hs.ia he h
        have q3 : ∀ h : List AO, Q76 h true 5 (.ip (inV x).cells) = some (inV x) := fun _ => rfl
        have z : (ofVal (.agg #[(.int .i64 0), (.int .i64 0), (.int .i64 0), (.string ⟨#[]⟩), (.int .i64 0)])).cl = some [.v (.int .i64 0), .v (.int .i64 0), .v (.int .i64 0), .v (.string ⟨#[]⟩), .v (.int .i64 0)] := by kernel_rfl
        have st : Q113 (h' ++ [.box 41 [.v (.int .i64 0), .v (.int .i64 0), .v (.int .i64 0), .v (.string ⟨#[]⟩), .v (.int .i64 0)]]) 5 (.ptr h'.length 0) (inV x) = some (h' ++ [.box 41 (inC x)]) := st_new (show (inV x).cl = some (inC x) from rfl) (show (inC x).length = 5 from rfl) rfl
        have bxz : ∀ cs, bx h' 41 (some cs) = some (.ptr h'.length 0, h' ++ [.box 41 cs]) := fun _ => rfl
        have pz : Sp c0 c1 c2 c3 (h' ++ [.box 41 (inC x)]) s' := p.app (all_below_mono (Nat.zero_le _) rfl)
        have qz : St c0 c1 c2 c3 (h' ++ [.box 41 (inC x)]) s' x h'.length := ⟨pz, by simp; rfl, by have := p.two; omega⟩
        have sx : ∀ h : List AO, (AV.v (.string x.nm)).snap1 h = some (.v (.string x.nm)) := fun _ => rfl
        have hch := char17_ok x.nm
        obtain ⟨hA, hpl, pA, nA, bA⟩ := rplace_ok pz (by omega) x
        have qA := qz.next pA bA
        obtain ⟨hB, hpa, pB, nB, bB⟩ := parted_ok pA (by omega) (by omega) x
        have qB := qA.next pB bB
        obtain ⟨hC, hdo, pC, nC, bC⟩ := rdoes_ok pB (by omega) (by omega) x
        have qC := qB.next pC bC
        have bAll : Bx h' hC := (((Bx.app h' _).trans bA).trans bB).trans bC
        have full : ∀ {H : List AO} {t : RS}, St c0 c1 c2 c3 H t x h'.length → Q76 H true 5 (.ptr h'.length 0) = some (inV x) := fun q => by rw [bx_ld q.bx]; rfl
        have f3 : ∀ {H : List AO} {t : RS}, St c0 c1 c2 c3 H t x h'.length → Q76 H false 1 (.ptr h'.length 3) = some (.v (.string x.nm)) := fun q => by rw [bx_ld q.bx]; rfl
        have la := full qz
        have la2 := full qA
        have la3 := full qB
        have l3 := f3 qz
        have l0 := qC.lds.1
        have dl := doesR_len s' x
        change callW F 18 [.ptr 1 0, inV x] _ = _ at hpl
        change callW F 19 [.ptr 1 0, inV x] _ = _ at hpa
        change callW F 20 [.ptr 1 0, inV x] _ = _ at hdo
        have hstep : stepR c2 s' ov x = if !ov && (charT x.nm && (placeR s' x && partedR s' c2 x)) then some (doesR s' x) else none := rfl
        have hrun2 : runR c2 n s' ov (x :: l.drop (n + 1)) = match stepR c2 s' ov x with
          | none => ((n : Int), 150)
          | some s' => runR c2 (n + 1) s' (x.op == 23) (l.drop (n + 1)) := rfl
        have no : stepR c2 s' ov x = none → runR c2 0 s false l = ((n : Int), 150) := fun h => by rw [hrun, hrun2, h]
        generalize placeR s' x = bpl at *
        generalize partedR s' c2 x = bpa at *
        generalize charT x.nm = bch at *
        by_cases good : (!ov && (bch && (bpl && bpa))) = true
        · rw [if_pos good] at hstep
          simp only [Bool.and_eq_true, Bool.not_eq_true'] at good
          obtain ⟨rfl, rfl, rfl, rfl⟩ := good
          refine ⟨.normal, [.junk, .ptr 0 0, .junk, .junk, .ptr 1 0, .junk, .v (.bool (x.op == 23)), .v (.int .i64 n), .ptr h'.length 0, .junk, .junk, .junk, .junk, c, .v (.int .i64 l.length), .v (.int .i64 ((n + 1 : Nat) : Int)), .v (.bool true), .v (.bool false), .junk], hC, ?_, hnl, x.op == 23, doesR s' x, rfl, pC, b.trans bAll, by omega, by omega, by rw [hrun, hrun2, hstep]⟩
          simp only [V8b, c8_19, c8_12, c8_13, c8_14, c8_16, c8_17, c8_18, hlt, hw, q1, q3, z, bxz, st, l0, l3, la, la2, la3, hch, sx, hpl, hpa, hdo, ex_2, e_callf, e_callh, List.map_cons, List.map_nil, Bool.not_true, Q0, Q1, Q2, Q3, Q4, Q5, Q6, Q7, Q8, Q9, Q10, Q11, Q12, Q13, Q14, Q15, Q16, Q17, Q18, Q19, Q20, Q21, Q22, Q23, Q24, Q25, Q26, Q27, Q28, Q29, Q30, Q31, Q32, Q33, Q35, Q36, Q37, Q38, Q39, Q40, Q41, Q42, Q43, Q44, Q45, Q46, Q47, Q48, Q49, Q50, Q51, Q52, Q53, Q54, Q55, Q56, Q57, Q58, Q59, Q60, Q61, Q62, Q63, Q64, Q65, Q66, Q67, Q68, Q69, Q70, Q71, Q72, Q73, Q99, Q100, Q101, Q102, Q103, Q74, Q75, Q77, Q78, Q79, Q80, Q81, Q82, Q83, Q84, clr, List.length_nil, List.length_cons, List.getElem?_cons_zero, List.getElem?_cons_succ, Nat.reduceAdd, Nat.zero_add, Nat.add_zero, Nat.reduceLeDiff, Nat.reduceSub, ↓reduceIte, List.drop_succ_cons, List.drop_zero, List.take_succ_cons, List.take_zero, Bool.false_eq_true, List.nil_append, List.cons_append, Bool.not_true, Bool.not_false, cond_true, cond_false, bne, Q85, Q86, Q87, Q88, Q89, Q90, Q91, Q92, Q93, Q94, Q95, Q96, Q97, Q98, Q110, Q111, Q116, Q117, Q118, Q119, Q120, Q121, Q122, Q123, Option.map_some, Option.map_none]
        · rw [if_neg good] at hstep
          have hno := no hstep
          simp only [Bool.not_eq_true] at good
          cases ov with
          | true =>
            refine ⟨.ret, [.junk, .ptr 0 0, .v (.int .i64 n), .v (.int .i64 150), .ptr 1 0, .junk, .v (.bool true), .v (.int .i64 n), .ptr h'.length 0, .junk, .junk, .junk, .junk, c, .v (.int .i64 l.length), .v (.int .i64 n), .v (.bool true), .v (.bool true), .junk], h' ++ [.box 41 (inC x)], ?_, .inl ⟨rfl, by rw [hno]; rfl, by rw [hno]; rfl⟩⟩
            simp only [V8b, c8_19, c8_12, c8_13, c8_14, c8_15, hlt, hw, q1, q3, z, bxz, st, l3, la, hch, sx, ex_2, Q122, e_callf, e_callh, List.map_cons, List.map_nil, Q0, Q1, Q2, Q3, Q4, Q5, Q6, Q7, Q8, Q9, Q10, Q11, Q12, Q13, Q14, Q15, Q16, Q17, Q18, Q19, Q20, Q21, Q22, Q23, Q24, Q25, Q26, Q27, Q28, Q29, Q30, Q31, Q32, Q33, Q35, Q36, Q37, Q38, Q39, Q40, Q41, Q42, Q43, Q44, Q45, Q46, Q47, Q48, Q49, Q50, Q51, Q52, Q53, Q54, Q55, Q56, Q57, Q58, Q59, Q60, Q61, Q62, Q63, Q64, Q65, Q66, Q67, Q68, Q69, Q70, Q71, Q72, Q73, Q99, Q100, Q101, Q102, Q103, Q74, Q75, Q77, Q78, Q79, Q80, Q81, Q82, Q83, Q84, clr, List.length_nil, List.length_cons, List.getElem?_cons_zero, List.getElem?_cons_succ, Nat.reduceAdd, Nat.zero_add, Nat.add_zero, Nat.reduceLeDiff, Nat.reduceSub, ↓reduceIte, List.drop_succ_cons, List.drop_zero, List.take_succ_cons, List.take_zero, Bool.false_eq_true, List.nil_append, List.cons_append, Bool.not_true, Bool.not_false, cond_true, cond_false, bne, Q85, Q86, Q87, Q88, Q89, Q90, Q91, Q92, Q93, Q94, Q95, Q96, Q97, Q98, Q110, Q111, Q116, Q117, Q118, Q119, Q120, Q121, Q122, Q123, Option.map_some, Option.map_none]
          | false =>
            cases bch with
            | false =>
              refine ⟨.ret, [.junk, .ptr 0 0, .v (.int .i64 n), .v (.int .i64 150), .ptr 1 0, .junk, .v (.bool false), .v (.int .i64 n), .ptr h'.length 0, .junk, .junk, .junk, .junk, c, .v (.int .i64 l.length), .v (.int .i64 n), .v (.bool true), .v (.bool true), .junk], h' ++ [.box 41 (inC x)], ?_, .inl ⟨rfl, by rw [hno]; rfl, by rw [hno]; rfl⟩⟩
              simp only [V8b, c8_19, c8_12, c8_13, c8_14, c8_15, hlt, hw, q1, q3, z, bxz, st, l3, la, hch, sx, ex_2, Q122, e_callf, e_callh, List.map_cons, List.map_nil, Bool.not_false, Q0, Q1, Q2, Q3, Q4, Q5, Q6, Q7, Q8, Q9, Q10, Q11, Q12, Q13, Q14, Q15, Q16, Q17, Q18, Q19, Q20, Q21, Q22, Q23, Q24, Q25, Q26, Q27, Q28, Q29, Q30, Q31, Q32, Q33, Q35, Q36, Q37, Q38, Q39, Q40, Q41, Q42, Q43, Q44, Q45, Q46, Q47, Q48, Q49, Q50, Q51, Q52, Q53, Q54, Q55, Q56, Q57, Q58, Q59, Q60, Q61, Q62, Q63, Q64, Q65, Q66, Q67, Q68, Q69, Q70, Q71, Q72, Q73, Q99, Q100, Q101, Q102, Q103, Q74, Q75, Q77, Q78, Q79, Q80, Q81, Q82, Q83, Q84, clr, List.length_nil, List.length_cons, List.getElem?_cons_zero, List.getElem?_cons_succ, Nat.reduceAdd, Nat.zero_add, Nat.add_zero, Nat.reduceLeDiff, Nat.reduceSub, ↓reduceIte, List.drop_succ_cons, List.drop_zero, List.take_succ_cons, List.take_zero, Bool.false_eq_true, List.nil_append, List.cons_append, Bool.not_true, Bool.not_false, cond_true, cond_false, bne, Q85, Q86, Q87, Q88, Q89, Q90, Q91, Q92, Q93, Q94, Q95, Q96, Q97, Q98, Q110, Q111, Q116, Q117, Q118, Q119, Q120, Q121, Q122, Q123, Option.map_some, Option.map_none]
            | true =>
              cases bpl with
              | false =>
                refine ⟨.ret, [.junk, .ptr 0 0, .v (.int .i64 n), .v (.int .i64 150), .ptr 1 0, .junk, .v (.bool false), .v (.int .i64 n), .ptr h'.length 0, .junk, .junk, .junk, .junk, c, .v (.int .i64 l.length), .v (.int .i64 n), .v (.bool true), .v (.bool true), .junk], hA, ?_, .inl ⟨rfl, by rw [hno]; rfl, by rw [hno]; rfl⟩⟩
                simp only [V8b, c8_19, c8_12, c8_13, c8_14, c8_15, hlt, hw, q1, q3, z, bxz, st, l3, la, hch, sx, hpl, ex_2, Q122, e_callf, e_callh, List.map_cons, List.map_nil, Bool.not_false, Bool.not_true, Q0, Q1, Q2, Q3, Q4, Q5, Q6, Q7, Q8, Q9, Q10, Q11, Q12, Q13, Q14, Q15, Q16, Q17, Q18, Q19, Q20, Q21, Q22, Q23, Q24, Q25, Q26, Q27, Q28, Q29, Q30, Q31, Q32, Q33, Q35, Q36, Q37, Q38, Q39, Q40, Q41, Q42, Q43, Q44, Q45, Q46, Q47, Q48, Q49, Q50, Q51, Q52, Q53, Q54, Q55, Q56, Q57, Q58, Q59, Q60, Q61, Q62, Q63, Q64, Q65, Q66, Q67, Q68, Q69, Q70, Q71, Q72, Q73, Q99, Q100, Q101, Q102, Q103, Q74, Q75, Q77, Q78, Q79, Q80, Q81, Q82, Q83, Q84, clr, List.length_nil, List.length_cons, List.getElem?_cons_zero, List.getElem?_cons_succ, Nat.reduceAdd, Nat.zero_add, Nat.add_zero, Nat.reduceLeDiff, Nat.reduceSub, ↓reduceIte, List.drop_succ_cons, List.drop_zero, List.take_succ_cons, List.take_zero, Bool.false_eq_true, List.nil_append, List.cons_append, Bool.not_true, Bool.not_false, cond_true, cond_false, bne, Q85, Q86, Q87, Q88, Q89, Q90, Q91, Q92, Q93, Q94, Q95, Q96, Q97, Q98, Q110, Q111, Q116, Q117, Q118, Q119, Q120, Q121, Q122, Q123, Option.map_some, Option.map_none]
              | true =>
                cases bpa with
                | false =>
                  refine ⟨.ret, [.junk, .ptr 0 0, .v (.int .i64 n), .v (.int .i64 150), .ptr 1 0, .junk, .v (.bool false), .v (.int .i64 n), .ptr h'.length 0, .junk, .junk, .junk, .junk, c, .v (.int .i64 l.length), .v (.int .i64 n), .v (.bool true), .v (.bool true), .junk], hB, ?_, .inl ⟨rfl, by rw [hno]; rfl, by rw [hno]; rfl⟩⟩
                  simp only [V8b, c8_19, c8_12, c8_13, c8_14, c8_15, hlt, hw, q1, q3, z, bxz, st, l3, la, la2, hch, sx, hpl, hpa, ex_2, Q122, e_callf, e_callh, List.map_cons, List.map_nil, Bool.not_false, Bool.not_true, Q0, Q1, Q2, Q3, Q4, Q5, Q6, Q7, Q8, Q9, Q10, Q11, Q12, Q13, Q14, Q15, Q16, Q17, Q18, Q19, Q20, Q21, Q22, Q23, Q24, Q25, Q26, Q27, Q28, Q29, Q30, Q31, Q32, Q33, Q35, Q36, Q37, Q38, Q39, Q40, Q41, Q42, Q43, Q44, Q45, Q46, Q47, Q48, Q49, Q50, Q51, Q52, Q53, Q54, Q55, Q56, Q57, Q58, Q59, Q60, Q61, Q62, Q63, Q64, Q65, Q66, Q67, Q68, Q69, Q70, Q71, Q72, Q73, Q99, Q100, Q101, Q102, Q103, Q74, Q75, Q77, Q78, Q79, Q80, Q81, Q82, Q83, Q84, clr, List.length_nil, List.length_cons, List.getElem?_cons_zero, List.getElem?_cons_succ, Nat.reduceAdd, Nat.zero_add, Nat.add_zero, Nat.reduceLeDiff, Nat.reduceSub, ↓reduceIte, List.drop_succ_cons, List.drop_zero, List.take_succ_cons, List.take_zero, Bool.false_eq_true, List.nil_append, List.cons_append, Bool.not_true, Bool.not_false, cond_true, cond_false, bne, Q85, Q86, Q87, Q88, Q89, Q90, Q91, Q92, Q93, Q94, Q95, Q96, Q97, Q98, Q110, Q111, Q116, Q117, Q118, Q119, Q120, Q121, Q122, Q123, Option.map_some, Option.map_none]
                | true => simp at good
      · have hne : n = l.length := by omega
        subst hne
        have hlt := lt_f (n := l.length)
        refine ⟨.exit 2, [.junk, .ptr 0 0, .junk, .junk, .ptr 1 0, .junk, .v (.bool ov), .junk, .junk, .junk, .junk, .junk, .junk, c, .v (.int .i64 l.length), .v (.int .i64 l.length), .v (.bool false), .junk, .junk], h', ?_, .inr ⟨rfl, b, ov, _, rfl, ?_⟩⟩
        · simp only [V8b, c8_19, c8_12, hlt, Q0, Q1, Q2, Q3, Q4, Q5, Q6, Q7, Q8, Q9, Q10, Q11, Q12, Q13, Q14, Q15, Q16, Q17, Q18, Q19, Q20, Q21, Q22, Q23, Q24, Q25, Q26, Q27, Q28, Q29, Q30, Q31, Q32, Q33, Q35, Q36, Q37, Q38, Q39, Q40, Q41, Q42, Q43, Q44, Q45, Q46, Q47, Q48, Q49, Q50, Q51, Q52, Q53, Q54, Q55, Q56, Q57, Q58, Q59, Q60, Q61, Q62, Q63, Q64, Q65, Q66, Q67, Q68, Q69, Q70, Q71, Q72, Q73, Q99, Q100, Q101, Q102, Q103, Q74, Q75, Q77, Q78, Q79, Q80, Q81, Q82, Q83, Q84, clr, List.length_nil, List.length_cons, List.getElem?_cons_zero, List.getElem?_cons_succ, Nat.reduceAdd, Nat.zero_add, Nat.add_zero, Nat.reduceLeDiff, Nat.reduceSub, ↓reduceIte, List.drop_succ_cons, List.drop_zero, List.take_succ_cons, List.take_zero, Bool.false_eq_true, List.nil_append, List.cons_append, Bool.not_true, Bool.not_false, cond_true, cond_false, bne, Q85, Q86, Q87, Q88, Q89, Q90, Q91, Q92, Q93, Q94, Q95, Q96, Q97, Q98, Q110, Q111, Q116, Q117, Q118, Q119, Q120, Q121, Q122, Q123, Option.map_some, Option.map_none]
        · rw [hrun, List.drop_length]; rfl)
  exact ⟨e, v', h', g1, g3⟩
end
end Go.AE.YtghgbbiklkpbnaaDoor.Chk
end
