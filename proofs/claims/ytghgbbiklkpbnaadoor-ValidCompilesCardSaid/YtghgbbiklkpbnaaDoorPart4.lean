/- Texts of this claim, put together. -/
import Derived.Test.YtghgbbiklkpbnaaDoorPart3
import Derived.Test.YtghgbbiklkpbnaaDoorPart1
import Derived.Test.YtghgbbiklkpbnaaDoorEval3
import Derived.Test.YtghgbbiklkpbnaaDoorRows
import Derived.WalkKit
import Derived.ProofKit
import Derived.OpenShut
import Derived.ShutString
import Derived.ChangeOld
import Derived.Below
import Derived.SizedLaws
import Derived.Test.YtghgbbiklkpbnaaDoorTie
import Derived.Test.YtghgbbiklkpbnaaDoorCards
import Derived.Lib.LaidIn
import Derived.Lib.LaidU8T
import Derived.KernelRfl
import Derived.Handed
import Derived.SevenTiedAt
set_option linter.unusedSimpArgs false
set_option linter.unusedVariables false
section
namespace Go.AE.YtghgbbiklkpbnaaDoor.Chk
open Go Go.AE Go.Proofs.YtghgbbiklkpbnaaDoor

def headOff (s : VS) (r : Int) (i : In) : VS := if s.head && (r == 2 || (r == 4 && !(i.op == 23))) then { s with head := false, regs := [] } else s
def doesT (s : VS) (r k : Int) (i : In) : VS :=
 let s := headOff s r i
 if r = 4 then
  let s := if i.op = 21 then { s with regs := [] } else s
  { s with over := i.op == 23 }
 else
  let s := if k = 0 then { s with known := i.b :: s.known } else if k = 4 ∧ r = 1 then { s with regs := i.b :: s.regs } else if k = 4 ∧ r ≠ 3 then { s with parts := i.n, of := r, under := i.a } else s
  if r = 2 ∧ k ≠ 4 then { s with regs := i.a :: s.regs }
  else if r = 1 ∨ r = 3 then
   let s := { s with parts := IntKind.i64.wrap (s.parts - 1) }
   if s.parts = 0 ∧ r = 3 then { s with regs := s.under :: s.regs } else s
  else s
def vS (c0 : AV) (c1 c2 : Int) (c3 : AV) (R N : MR) (s : VS) (T : List AO) : List AO := vH c0 c1 c2 c3 R N s.parts s.of s.under s.head s.over T
section
variable {c0 c3 : AV} {c1 c2 : Int} {R N : MR} {T : List AO}
theorem v_leave0 {p o u : Int} {hd ov : Bool} {c : CFun} {vars : List AV} {l : List AO} (h0 : c0.below1 0 = true) (h3 : c3.below1 0 = true) (hT : T.all (AO.below 0) = true) (hc : c.res = []) (x : AXit) (hx : x = .ret ∨ x = .normal) : leave (T.length + 4) c (some (x, vars, vH c0 c1 c2 c3 R N p o u hd ov (T ++ l))) = some (.tup [], vH c0 c1 c2 c3 R N p o u hd ov T) := by
 have h := (show vH c0 c1 c2 c3 R N p o u hd ov (T ++ l) = (vH c0 c1 c2 c3 R N p o u hd ov T) ++ l from rfl)
 have e : leave (T.length + 4) c (some (x, vars, vH c0 c1 c2 c3 R N p o u hd ov T ++ l)) = leave (T.length + 4) c (some (.ret, vars, vH c0 c1 c2 c3 R N p o u hd ov T ++ l)) := by
  rcases hx with rfl | rfl
  ·rfl
  ·simp only [leave]
 rw [h, e, leave_own (B := T.length + 4) rfl (v_below h0 h3 hT), hc]
 rfl
theorem does_ok (h0 : c0.below1 0 = true) (h3 : c3.below1 0 = true) (hT : T.all (AO.below 0) = true) {s : VS} (hR : Seen .i64 R s.regs) (hN : Seen .i64 N s.known) {r k : Int} (hr : 0 ≤ r ∧ r ≤ 4) (hk : 0 ≤ k ∧ k ≤ 4) (i : In) :
  ∃ R' N', Seen .i64 R' (doesT s r k i).regs ∧ Seen .i64 N' (doesT s r k i).known ∧ callW F 16 [.ptr 3 0, .v (.int .i64 r), .v (.int .i64 k), inV i] (vS c0 c1 c2 c3 R N s T) = some (.tup [], vS c0 c1 c2 c3 R' N' (doesT s r k i) T) := by
 have cl := (show (inV i).cl = some (inC i) from rfl)
 obtain ⟨S, Q, p, o, u, hd, ov⟩ := s
 have hr5 : r = 0 ∨ r = 1 ∨ r = 2 ∨ r = 3 ∨ r = 4 := by omega
 have hk5 : k = 0 ∨ k = 1 ∨ k = 2 ∨ k = 3 ∨ k = 4 := by omega
 have ap : ∀ x1 x2 x3 l, apB (.ptr 3 0 :: x1 :: x2 :: x3 :: .ptr (T.length + 4) 0 :: l) (some 0, 4) = true := fun _ _ _ _ => by simp [apB]
 simp only [vS] at *
 by_cases h4 : r = 4
 ·subst h4
  cases hd with
  | false =>
   by_cases h21 : i.op = 21
   ·have b21 : (i.op == 21) = true := by simp [h21]
    have b23 : (i.op == 23) = false := by simp [h21]
    rw [show doesT ⟨S, Q, p, o, u, false, ov⟩ 4 k i = ⟨[], Q, p, o, u, false, false⟩ from by simp [doesT, headOff, h21]]
    refine ⟨clrR R, N, Seen.clr _, hN, callW_own (c := c16) rfl rfl 0 ?_⟩
    rw [v_app, v_len]
    simp only [c16, start, List.replicate, c16_0, c16_1, c16_2, c16_3, c16_4, c16_5, c16_6, c16_7, c16_8, c16_9, c16_10, c16_11, c16_12, c16_13, c16_14, c16_15, c16_16, c16_17, c16_18, c16_19, c16_20, cl, v_bx, v_ld4, v_ld5, v_ld6, v_ld8, v_ld9, v_l0, v_l1, v_l2, v_l4, v_st6, v_st7, v_st8, v_st9, v_st10, v_clr, v_up1, v_up2, ap, x_region_ap, apR_t, e_clrmap, e_mapupd, Q122, Int.reduceBEq, Q0, Q1, Q2, Q3, Q4, Q5, Q6, Q7, Q8, Q9, Q10, Q11, Q12, Q13, Q14, Q15, Q16, Q17, Q18, Q19, Q20, Q21, Q22, Q23, Q24, Q25, Q26, Q27, Q28, Q29, Q30, Q31, Q32, Q33, Q35, Q36, Q37, Q38, Q39, Q40, Q41, Q42, Q43, Q44, Q45, Q46, Q47, Q48, Q49, Q50, Q51, Q52, Q53, Q54, Q55, Q56, Q57, Q58, Q59, Q60, Q61, Q62, Q63, Q64, Q65, Q66, Q67, Q68, Q69, Q70, Q71, Q72, Q73, Q99, Q100, Q101, Q102, Q103, Q74, Q75, Q77, Q78, Q79, Q80, Q81, Q82, Q83, Q84, clr, List.length_nil, List.length_cons, List.getElem?_cons_zero, List.getElem?_cons_succ, Nat.reduceAdd, Nat.zero_add, Nat.add_zero, Nat.reduceLeDiff, Nat.reduceSub, ↓reduceIte, List.drop_succ_cons, List.drop_zero, List.take_succ_cons, List.take_zero, Bool.false_eq_true, List.nil_append, List.cons_append, Bool.not_true, Bool.not_false, cond_true, cond_false, bne, Q85, Q86, Q87, Q88, Q89, Q90, Q91, Q92, Q93, Q94, Q95, Q96, Q97, Q98, Q110, Q111, Q116, Q117, Q118, Q119, Q120, Q121, Q122, Q123, Option.map_some, Option.map_none, b21, b23]
    exact v_leave0 h0 h3 hT rfl _ (by first | exact .inr rfl | exact .inl rfl)
   ·have b21 : (i.op == 21) = false := by simp [h21]
    cases b23 : (i.op == 23) with
    | true =>
     rw [show doesT ⟨S, Q, p, o, u, false, ov⟩ 4 k i = ⟨S, Q, p, o, u, false, true⟩ from by simp [doesT, headOff, h21, b23]]
     refine ⟨R, N, hR, hN, callW_own (c := c16) rfl rfl 0 ?_⟩
     rw [v_app, v_len]
     simp only [c16, start, List.replicate, c16_0, c16_1, c16_2, c16_3, c16_4, c16_5, c16_6, c16_7, c16_8, c16_9, c16_10, c16_11, c16_12, c16_13, c16_14, c16_15, c16_16, c16_17, c16_18, c16_19, c16_20, cl, v_bx, v_ld4, v_ld5, v_ld6, v_ld8, v_ld9, v_l0, v_l1, v_l2, v_l4, v_st6, v_st7, v_st8, v_st9, v_st10, v_clr, v_up1, v_up2, ap, x_region_ap, apR_t, e_clrmap, e_mapupd, Q122, Int.reduceBEq, Q0, Q1, Q2, Q3, Q4, Q5, Q6, Q7, Q8, Q9, Q10, Q11, Q12, Q13, Q14, Q15, Q16, Q17, Q18, Q19, Q20, Q21, Q22, Q23, Q24, Q25, Q26, Q27, Q28, Q29, Q30, Q31, Q32, Q33, Q35, Q36, Q37, Q38, Q39, Q40, Q41, Q42, Q43, Q44, Q45, Q46, Q47, Q48, Q49, Q50, Q51, Q52, Q53, Q54, Q55, Q56, Q57, Q58, Q59, Q60, Q61, Q62, Q63, Q64, Q65, Q66, Q67, Q68, Q69, Q70, Q71, Q72, Q73, Q99, Q100, Q101, Q102, Q103, Q74, Q75, Q77, Q78, Q79, Q80, Q81, Q82, Q83, Q84, clr, List.length_nil, List.length_cons, List.getElem?_cons_zero, List.getElem?_cons_succ, Nat.reduceAdd, Nat.zero_add, Nat.add_zero, Nat.reduceLeDiff, Nat.reduceSub, ↓reduceIte, List.drop_succ_cons, List.drop_zero, List.take_succ_cons, List.take_zero, Bool.false_eq_true, List.nil_append, List.cons_append, Bool.not_true, Bool.not_false, cond_true, cond_false, bne, Q85, Q86, Q87, Q88, Q89, Q90, Q91, Q92, Q93, Q94, Q95, Q96, Q97, Q98, Q110, Q111, Q116, Q117, Q118, Q119, Q120, Q121, Q122, Q123, Option.map_some, Option.map_none, b21, b23]
     exact v_leave0 h0 h3 hT rfl _ (by first | exact .inr rfl | exact .inl rfl)
    | false =>
     rw [show doesT ⟨S, Q, p, o, u, false, ov⟩ 4 k i = ⟨S, Q, p, o, u, false, false⟩ from by simp [doesT, headOff, h21, b23]]
     refine ⟨R, N, hR, hN, callW_own (c := c16) rfl rfl 0 ?_⟩
     rw [v_app, v_len]
     simp only [c16, start, List.replicate, c16_0, c16_1, c16_2, c16_3, c16_4, c16_5, c16_6, c16_7, c16_8, c16_9, c16_10, c16_11, c16_12, c16_13, c16_14, c16_15, c16_16, c16_17, c16_18, c16_19, c16_20, cl, v_bx, v_ld4, v_ld5, v_ld6, v_ld8, v_ld9, v_l0, v_l1, v_l2, v_l4, v_st6, v_st7, v_st8, v_st9, v_st10, v_clr, v_up1, v_up2, ap, x_region_ap, apR_t, e_clrmap, e_mapupd, Q122, Int.reduceBEq, Q0, Q1, Q2, Q3, Q4, Q5, Q6, Q7, Q8, Q9, Q10, Q11, Q12, Q13, Q14, Q15, Q16, Q17, Q18, Q19, Q20, Q21, Q22, Q23, Q24, Q25, Q26, Q27, Q28, Q29, Q30, Q31, Q32, Q33, Q35, Q36, Q37, Q38, Q39, Q40, Q41, Q42, Q43, Q44, Q45, Q46, Q47, Q48, Q49, Q50, Q51, Q52, Q53, Q54, Q55, Q56, Q57, Q58, Q59, Q60, Q61, Q62, Q63, Q64, Q65, Q66, Q67, Q68, Q69, Q70, Q71, Q72, Q73, Q99, Q100, Q101, Q102, Q103, Q74, Q75, Q77, Q78, Q79, Q80, Q81, Q82, Q83, Q84, clr, List.length_nil, List.length_cons, List.getElem?_cons_zero, List.getElem?_cons_succ, Nat.reduceAdd, Nat.zero_add, Nat.add_zero, Nat.reduceLeDiff, Nat.reduceSub, ↓reduceIte, List.drop_succ_cons, List.drop_zero, List.take_succ_cons, List.take_zero, Bool.false_eq_true, List.nil_append, List.cons_append, Bool.not_true, Bool.not_false, cond_true, cond_false, bne, Q85, Q86, Q87, Q88, Q89, Q90, Q91, Q92, Q93, Q94, Q95, Q96, Q97, Q98, Q110, Q111, Q116, Q117, Q118, Q119, Q120, Q121, Q122, Q123, Option.map_some, Option.map_none, b21, b23]
     exact v_leave0 h0 h3 hT rfl _ (by first | exact .inr rfl | exact .inl rfl)
  | true =>
   by_cases h21 : i.op = 21
   ·have b21 : (i.op == 21) = true := by simp [h21]
    have b23 : (i.op == 23) = false := by simp [h21]
    rw [show doesT ⟨S, Q, p, o, u, true, ov⟩ 4 k i = ⟨[], Q, p, o, u, false, false⟩ from by simp [doesT, headOff, h21]]
    refine ⟨clrR R, N, Seen.clr _, hN, callW_own (c := c16) rfl rfl 0 ?_⟩
    rw [v_app, v_len]
    simp only [c16, start, List.replicate, c16_0, c16_1, c16_2, c16_3, c16_4, c16_5, c16_6, c16_7, c16_8, c16_9, c16_10, c16_11, c16_12, c16_13, c16_14, c16_15, c16_16, c16_17, c16_18, c16_19, c16_20, cl, v_bx, v_ld4, v_ld5, v_ld6, v_ld8, v_ld9, v_l0, v_l1, v_l2, v_l4, v_st6, v_st7, v_st8, v_st9, v_st10, v_clr, v_up1, v_up2, ap, x_region_ap, apR_t, e_clrmap, e_mapupd, Q122, Int.reduceBEq, Q0, Q1, Q2, Q3, Q4, Q5, Q6, Q7, Q8, Q9, Q10, Q11, Q12, Q13, Q14, Q15, Q16, Q17, Q18, Q19, Q20, Q21, Q22, Q23, Q24, Q25, Q26, Q27, Q28, Q29, Q30, Q31, Q32, Q33, Q35, Q36, Q37, Q38, Q39, Q40, Q41, Q42, Q43, Q44, Q45, Q46, Q47, Q48, Q49, Q50, Q51, Q52, Q53, Q54, Q55, Q56, Q57, Q58, Q59, Q60, Q61, Q62, Q63, Q64, Q65, Q66, Q67, Q68, Q69, Q70, Q71, Q72, Q73, Q99, Q100, Q101, Q102, Q103, Q74, Q75, Q77, Q78, Q79, Q80, Q81, Q82, Q83, Q84, clr, List.length_nil, List.length_cons, List.getElem?_cons_zero, List.getElem?_cons_succ, Nat.reduceAdd, Nat.zero_add, Nat.add_zero, Nat.reduceLeDiff, Nat.reduceSub, ↓reduceIte, List.drop_succ_cons, List.drop_zero, List.take_succ_cons, List.take_zero, Bool.false_eq_true, List.nil_append, List.cons_append, Bool.not_true, Bool.not_false, cond_true, cond_false, bne, Q85, Q86, Q87, Q88, Q89, Q90, Q91, Q92, Q93, Q94, Q95, Q96, Q97, Q98, Q110, Q111, Q116, Q117, Q118, Q119, Q120, Q121, Q122, Q123, Option.map_some, Option.map_none, b21, b23]
    exact v_leave0 h0 h3 hT rfl _ (by first | exact .inr rfl | exact .inl rfl)
   ·have b21 : (i.op == 21) = false := by simp [h21]
    cases b23 : (i.op == 23) with
    | true =>
     rw [show doesT ⟨S, Q, p, o, u, true, ov⟩ 4 k i = ⟨S, Q, p, o, u, true, true⟩ from by simp [doesT, headOff, h21, b23]]
     refine ⟨R, N, hR, hN, callW_own (c := c16) rfl rfl 0 ?_⟩
     rw [v_app, v_len]
     simp only [c16, start, List.replicate, c16_0, c16_1, c16_2, c16_3, c16_4, c16_5, c16_6, c16_7, c16_8, c16_9, c16_10, c16_11, c16_12, c16_13, c16_14, c16_15, c16_16, c16_17, c16_18, c16_19, c16_20, cl, v_bx, v_ld4, v_ld5, v_ld6, v_ld8, v_ld9, v_l0, v_l1, v_l2, v_l4, v_st6, v_st7, v_st8, v_st9, v_st10, v_clr, v_up1, v_up2, ap, x_region_ap, apR_t, e_clrmap, e_mapupd, Q122, Int.reduceBEq, Q0, Q1, Q2, Q3, Q4, Q5, Q6, Q7, Q8, Q9, Q10, Q11, Q12, Q13, Q14, Q15, Q16, Q17, Q18, Q19, Q20, Q21, Q22, Q23, Q24, Q25, Q26, Q27, Q28, Q29, Q30, Q31, Q32, Q33, Q35, Q36, Q37, Q38, Q39, Q40, Q41, Q42, Q43, Q44, Q45, Q46, Q47, Q48, Q49, Q50, Q51, Q52, Q53, Q54, Q55, Q56, Q57, Q58, Q59, Q60, Q61, Q62, Q63, Q64, Q65, Q66, Q67, Q68, Q69, Q70, Q71, Q72, Q73, Q99, Q100, Q101, Q102, Q103, Q74, Q75, Q77, Q78, Q79, Q80, Q81, Q82, Q83, Q84, clr, List.length_nil, List.length_cons, List.getElem?_cons_zero, List.getElem?_cons_succ, Nat.reduceAdd, Nat.zero_add, Nat.add_zero, Nat.reduceLeDiff, Nat.reduceSub, ↓reduceIte, List.drop_succ_cons, List.drop_zero, List.take_succ_cons, List.take_zero, Bool.false_eq_true, List.nil_append, List.cons_append, Bool.not_true, Bool.not_false, cond_true, cond_false, bne, Q85, Q86, Q87, Q88, Q89, Q90, Q91, Q92, Q93, Q94, Q95, Q96, Q97, Q98, Q110, Q111, Q116, Q117, Q118, Q119, Q120, Q121, Q122, Q123, Option.map_some, Option.map_none, b21, b23]
     exact v_leave0 h0 h3 hT rfl _ (by first | exact .inr rfl | exact .inl rfl)
    | false =>
     rw [show doesT ⟨S, Q, p, o, u, true, ov⟩ 4 k i = ⟨[], Q, p, o, u, false, false⟩ from by simp [doesT, headOff, h21, b23]]
     refine ⟨clrR R, N, Seen.clr _, hN, callW_own (c := c16) rfl rfl 0 ?_⟩
     rw [v_app, v_len]
     simp only [c16, start, List.replicate, c16_0, c16_1, c16_2, c16_3, c16_4, c16_5, c16_6, c16_7, c16_8, c16_9, c16_10, c16_11, c16_12, c16_13, c16_14, c16_15, c16_16, c16_17, c16_18, c16_19, c16_20, cl, v_bx, v_ld4, v_ld5, v_ld6, v_ld8, v_ld9, v_l0, v_l1, v_l2, v_l4, v_st6, v_st7, v_st8, v_st9, v_st10, v_clr, v_up1, v_up2, ap, x_region_ap, apR_t, e_clrmap, e_mapupd, Q122, Int.reduceBEq, Q0, Q1, Q2, Q3, Q4, Q5, Q6, Q7, Q8, Q9, Q10, Q11, Q12, Q13, Q14, Q15, Q16, Q17, Q18, Q19, Q20, Q21, Q22, Q23, Q24, Q25, Q26, Q27, Q28, Q29, Q30, Q31, Q32, Q33, Q35, Q36, Q37, Q38, Q39, Q40, Q41, Q42, Q43, Q44, Q45, Q46, Q47, Q48, Q49, Q50, Q51, Q52, Q53, Q54, Q55, Q56, Q57, Q58, Q59, Q60, Q61, Q62, Q63, Q64, Q65, Q66, Q67, Q68, Q69, Q70, Q71, Q72, Q73, Q99, Q100, Q101, Q102, Q103, Q74, Q75, Q77, Q78, Q79, Q80, Q81, Q82, Q83, Q84, clr, List.length_nil, List.length_cons, List.getElem?_cons_zero, List.getElem?_cons_succ, Nat.reduceAdd, Nat.zero_add, Nat.add_zero, Nat.reduceLeDiff, Nat.reduceSub, ↓reduceIte, List.drop_succ_cons, List.drop_zero, List.take_succ_cons, List.take_zero, Bool.false_eq_true, List.nil_append, List.cons_append, Bool.not_true, Bool.not_false, cond_true, cond_false, bne, Q85, Q86, Q87, Q88, Q89, Q90, Q91, Q92, Q93, Q94, Q95, Q96, Q97, Q98, Q110, Q111, Q116, Q117, Q118, Q119, Q120, Q121, Q122, Q123, Option.map_some, Option.map_none, b21, b23]
     exact v_leave0 h0 h3 hT rfl _ (by first | exact .inr rfl | exact .inl rfl)
 ·have hr4 : r = 0 ∨ r = 1 ∨ r = 2 ∨ r = 3 := by omega
  clear h4 hr5 hr
  rcases hr4 with rfl | rfl | rfl | rfl
  ·rcases hk5 with rfl | rfl | rfl | rfl | rfl
   ·cases hd with
    | false =>
     rw [show doesT ⟨S, Q, p, o, u, false, ov⟩ 0 0 i = ⟨S, (i.b :: Q), p, o, u, false, ov⟩ from by simp [doesT, headOff]]
     refine ⟨R, (upd (.int .i64 i.b) (.v (.bool true)) N), hR, hN.add _, callW_own (c := c16) rfl rfl 0 ?_⟩
     rw [v_app, v_len]
     simp only [c16, start, List.replicate, c16_0, c16_1, c16_2, c16_3, c16_4, c16_5, c16_6, c16_7, c16_8, c16_9, c16_10, c16_11, c16_12, c16_13, c16_14, c16_15, c16_16, c16_17, c16_18, c16_19, c16_20, cl, v_bx, v_ld4, v_ld5, v_ld6, v_ld8, v_ld9, v_l0, v_l1, v_l2, v_l4, v_st6, v_st7, v_st8, v_st9, v_st10, v_clr, v_up1, v_up2, ap, x_region_ap, apR_t, e_clrmap, e_mapupd, Q122, Int.reduceBEq, Q0, Q1, Q2, Q3, Q4, Q5, Q6, Q7, Q8, Q9, Q10, Q11, Q12, Q13, Q14, Q15, Q16, Q17, Q18, Q19, Q20, Q21, Q22, Q23, Q24, Q25, Q26, Q27, Q28, Q29, Q30, Q31, Q32, Q33, Q35, Q36, Q37, Q38, Q39, Q40, Q41, Q42, Q43, Q44, Q45, Q46, Q47, Q48, Q49, Q50, Q51, Q52, Q53, Q54, Q55, Q56, Q57, Q58, Q59, Q60, Q61, Q62, Q63, Q64, Q65, Q66, Q67, Q68, Q69, Q70, Q71, Q72, Q73, Q99, Q100, Q101, Q102, Q103, Q74, Q75, Q77, Q78, Q79, Q80, Q81, Q82, Q83, Q84, clr, List.length_nil, List.length_cons, List.getElem?_cons_zero, List.getElem?_cons_succ, Nat.reduceAdd, Nat.zero_add, Nat.add_zero, Nat.reduceLeDiff, Nat.reduceSub, ↓reduceIte, List.drop_succ_cons, List.drop_zero, List.take_succ_cons, List.take_zero, Bool.false_eq_true, List.nil_append, List.cons_append, Bool.not_true, Bool.not_false, cond_true, cond_false, bne, Q85, Q86, Q87, Q88, Q89, Q90, Q91, Q92, Q93, Q94, Q95, Q96, Q97, Q98, Q110, Q111, Q116, Q117, Q118, Q119, Q120, Q121, Q122, Q123, Option.map_some, Option.map_none]
     exact v_leave0 h0 h3 hT rfl _ (by first | exact .inr rfl | exact .inl rfl)
    | true =>
     rw [show doesT ⟨S, Q, p, o, u, true, ov⟩ 0 0 i = ⟨S, (i.b :: Q), p, o, u, true, ov⟩ from by simp [doesT, headOff]]
     refine ⟨R, (upd (.int .i64 i.b) (.v (.bool true)) N), hR, hN.add _, callW_own (c := c16) rfl rfl 0 ?_⟩
     rw [v_app, v_len]
     simp only [c16, start, List.replicate, c16_0, c16_1, c16_2, c16_3, c16_4, c16_5, c16_6, c16_7, c16_8, c16_9, c16_10, c16_11, c16_12, c16_13, c16_14, c16_15, c16_16, c16_17, c16_18, c16_19, c16_20, cl, v_bx, v_ld4, v_ld5, v_ld6, v_ld8, v_ld9, v_l0, v_l1, v_l2, v_l4, v_st6, v_st7, v_st8, v_st9, v_st10, v_clr, v_up1, v_up2, ap, x_region_ap, apR_t, e_clrmap, e_mapupd, Q122, Int.reduceBEq, Q0, Q1, Q2, Q3, Q4, Q5, Q6, Q7, Q8, Q9, Q10, Q11, Q12, Q13, Q14, Q15, Q16, Q17, Q18, Q19, Q20, Q21, Q22, Q23, Q24, Q25, Q26, Q27, Q28, Q29, Q30, Q31, Q32, Q33, Q35, Q36, Q37, Q38, Q39, Q40, Q41, Q42, Q43, Q44, Q45, Q46, Q47, Q48, Q49, Q50, Q51, Q52, Q53, Q54, Q55, Q56, Q57, Q58, Q59, Q60, Q61, Q62, Q63, Q64, Q65, Q66, Q67, Q68, Q69, Q70, Q71, Q72, Q73, Q99, Q100, Q101, Q102, Q103, Q74, Q75, Q77, Q78, Q79, Q80, Q81, Q82, Q83, Q84, clr, List.length_nil, List.length_cons, List.getElem?_cons_zero, List.getElem?_cons_succ, Nat.reduceAdd, Nat.zero_add, Nat.add_zero, Nat.reduceLeDiff, Nat.reduceSub, ↓reduceIte, List.drop_succ_cons, List.drop_zero, List.take_succ_cons, List.take_zero, Bool.false_eq_true, List.nil_append, List.cons_append, Bool.not_true, Bool.not_false, cond_true, cond_false, bne, Q85, Q86, Q87, Q88, Q89, Q90, Q91, Q92, Q93, Q94, Q95, Q96, Q97, Q98, Q110, Q111, Q116, Q117, Q118, Q119, Q120, Q121, Q122, Q123, Option.map_some, Option.map_none]
     exact v_leave0 h0 h3 hT rfl _ (by first | exact .inr rfl | exact .inl rfl)
   ·cases hd with
    | false =>
     rw [show doesT ⟨S, Q, p, o, u, false, ov⟩ 0 1 i = ⟨S, Q, p, o, u, false, ov⟩ from by simp [doesT, headOff]]
     refine ⟨R, N, hR, hN, callW_own (c := c16) rfl rfl 0 ?_⟩
     rw [v_app, v_len]
     simp only [c16, start, List.replicate, c16_0, c16_1, c16_2, c16_3, c16_4, c16_5, c16_6, c16_7, c16_8, c16_9, c16_10, c16_11, c16_12, c16_13, c16_14, c16_15, c16_16, c16_17, c16_18, c16_19, c16_20, cl, v_bx, v_ld4, v_ld5, v_ld6, v_ld8, v_ld9, v_l0, v_l1, v_l2, v_l4, v_st6, v_st7, v_st8, v_st9, v_st10, v_clr, v_up1, v_up2, ap, x_region_ap, apR_t, e_clrmap, e_mapupd, Q122, Int.reduceBEq, Q0, Q1, Q2, Q3, Q4, Q5, Q6, Q7, Q8, Q9, Q10, Q11, Q12, Q13, Q14, Q15, Q16, Q17, Q18, Q19, Q20, Q21, Q22, Q23, Q24, Q25, Q26, Q27, Q28, Q29, Q30, Q31, Q32, Q33, Q35, Q36, Q37, Q38, Q39, Q40, Q41, Q42, Q43, Q44, Q45, Q46, Q47, Q48, Q49, Q50, Q51, Q52, Q53, Q54, Q55, Q56, Q57, Q58, Q59, Q60, Q61, Q62, Q63, Q64, Q65, Q66, Q67, Q68, Q69, Q70, Q71, Q72, Q73, Q99, Q100, Q101, Q102, Q103, Q74, Q75, Q77, Q78, Q79, Q80, Q81, Q82, Q83, Q84, clr, List.length_nil, List.length_cons, List.getElem?_cons_zero, List.getElem?_cons_succ, Nat.reduceAdd, Nat.zero_add, Nat.add_zero, Nat.reduceLeDiff, Nat.reduceSub, ↓reduceIte, List.drop_succ_cons, List.drop_zero, List.take_succ_cons, List.take_zero, Bool.false_eq_true, List.nil_append, List.cons_append, Bool.not_true, Bool.not_false, cond_true, cond_false, bne, Q85, Q86, Q87, Q88, Q89, Q90, Q91, Q92, Q93, Q94, Q95, Q96, Q97, Q98, Q110, Q111, Q116, Q117, Q118, Q119, Q120, Q121, Q122, Q123, Option.map_some, Option.map_none]
     exact v_leave0 h0 h3 hT rfl _ (by first | exact .inr rfl | exact .inl rfl)
    | true =>
     rw [show doesT ⟨S, Q, p, o, u, true, ov⟩ 0 1 i = ⟨S, Q, p, o, u, true, ov⟩ from by simp [doesT, headOff]]
     refine ⟨R, N, hR, hN, callW_own (c := c16) rfl rfl 0 ?_⟩
     rw [v_app, v_len]
     simp only [c16, start, List.replicate, c16_0, c16_1, c16_2, c16_3, c16_4, c16_5, c16_6, c16_7, c16_8, c16_9, c16_10, c16_11, c16_12, c16_13, c16_14, c16_15, c16_16, c16_17, c16_18, c16_19, c16_20, cl, v_bx, v_ld4, v_ld5, v_ld6, v_ld8, v_ld9, v_l0, v_l1, v_l2, v_l4, v_st6, v_st7, v_st8, v_st9, v_st10, v_clr, v_up1, v_up2, ap, x_region_ap, apR_t, e_clrmap, e_mapupd, Q122, Int.reduceBEq, Q0, Q1, Q2, Q3, Q4, Q5, Q6, Q7, Q8, Q9, Q10, Q11, Q12, Q13, Q14, Q15, Q16, Q17, Q18, Q19, Q20, Q21, Q22, Q23, Q24, Q25, Q26, Q27, Q28, Q29, Q30, Q31, Q32, Q33, Q35, Q36, Q37, Q38, Q39, Q40, Q41, Q42, Q43, Q44, Q45, Q46, Q47, Q48, Q49, Q50, Q51, Q52, Q53, Q54, Q55, Q56, Q57, Q58, Q59, Q60, Q61, Q62, Q63, Q64, Q65, Q66, Q67, Q68, Q69, Q70, Q71, Q72, Q73, Q99, Q100, Q101, Q102, Q103, Q74, Q75, Q77, Q78, Q79, Q80, Q81, Q82, Q83, Q84, clr, List.length_nil, List.length_cons, List.getElem?_cons_zero, List.getElem?_cons_succ, Nat.reduceAdd, Nat.zero_add, Nat.add_zero, Nat.reduceLeDiff, Nat.reduceSub, ↓reduceIte, List.drop_succ_cons, List.drop_zero, List.take_succ_cons, List.take_zero, Bool.false_eq_true, List.nil_append, List.cons_append, Bool.not_true, Bool.not_false, cond_true, cond_false, bne, Q85, Q86, Q87, Q88, Q89, Q90, Q91, Q92, Q93, Q94, Q95, Q96, Q97, Q98, Q110, Q111, Q116, Q117, Q118, Q119, Q120, Q121, Q122, Q123, Option.map_some, Option.map_none]
     exact v_leave0 h0 h3 hT rfl _ (by first | exact .inr rfl | exact .inl rfl)
   ·cases hd with
    | false =>
     rw [show doesT ⟨S, Q, p, o, u, false, ov⟩ 0 2 i = ⟨S, Q, p, o, u, false, ov⟩ from by simp [doesT, headOff]]
     refine ⟨R, N, hR, hN, callW_own (c := c16) rfl rfl 0 ?_⟩
     rw [v_app, v_len]
     simp only [c16, start, List.replicate, c16_0, c16_1, c16_2, c16_3, c16_4, c16_5, c16_6, c16_7, c16_8, c16_9, c16_10, c16_11, c16_12, c16_13, c16_14, c16_15, c16_16, c16_17, c16_18, c16_19, c16_20, cl, v_bx, v_ld4, v_ld5, v_ld6, v_ld8, v_ld9, v_l0, v_l1, v_l2, v_l4, v_st6, v_st7, v_st8, v_st9, v_st10, v_clr, v_up1, v_up2, ap, x_region_ap, apR_t, e_clrmap, e_mapupd, Q122, Int.reduceBEq, Q0, Q1, Q2, Q3, Q4, Q5, Q6, Q7, Q8, Q9, Q10, Q11, Q12, Q13, Q14, Q15, Q16, Q17, Q18, Q19, Q20, Q21, Q22, Q23, Q24, Q25, Q26, Q27, Q28, Q29, Q30, Q31, Q32, Q33, Q35, Q36, Q37, Q38, Q39, Q40, Q41, Q42, Q43, Q44, Q45, Q46, Q47, Q48, Q49, Q50, Q51, Q52, Q53, Q54, Q55, Q56, Q57, Q58, Q59, Q60, Q61, Q62, Q63, Q64, Q65, Q66, Q67, Q68, Q69, Q70, Q71, Q72, Q73, Q99, Q100, Q101, Q102, Q103, Q74, Q75, Q77, Q78, Q79, Q80, Q81, Q82, Q83, Q84, clr, List.length_nil, List.length_cons, List.getElem?_cons_zero, List.getElem?_cons_succ, Nat.reduceAdd, Nat.zero_add, Nat.add_zero, Nat.reduceLeDiff, Nat.reduceSub, ↓reduceIte, List.drop_succ_cons, List.drop_zero, List.take_succ_cons, List.take_zero, Bool.false_eq_true, List.nil_append, List.cons_append, Bool.not_true, Bool.not_false, cond_true, cond_false, bne, Q85, Q86, Q87, Q88, Q89, Q90, Q91, Q92, Q93, Q94, Q95, Q96, Q97, Q98, Q110, Q111, Q116, Q117, Q118, Q119, Q120, Q121, Q122, Q123, Option.map_some, Option.map_none]
     exact v_leave0 h0 h3 hT rfl _ (by first | exact .inr rfl | exact .inl rfl)
    | true =>
     rw [show doesT ⟨S, Q, p, o, u, true, ov⟩ 0 2 i = ⟨S, Q, p, o, u, true, ov⟩ from by simp [doesT, headOff]]
     refine ⟨R, N, hR, hN, callW_own (c := c16) rfl rfl 0 ?_⟩
     rw [v_app, v_len]
     simp only [c16, start, List.replicate, c16_0, c16_1, c16_2, c16_3, c16_4, c16_5, c16_6, c16_7, c16_8, c16_9, c16_10, c16_11, c16_12, c16_13, c16_14, c16_15, c16_16, c16_17, c16_18, c16_19, c16_20, cl, v_bx, v_ld4, v_ld5, v_ld6, v_ld8, v_ld9, v_l0, v_l1, v_l2, v_l4, v_st6, v_st7, v_st8, v_st9, v_st10, v_clr, v_up1, v_up2, ap, x_region_ap, apR_t, e_clrmap, e_mapupd, Q122, Int.reduceBEq, Q0, Q1, Q2, Q3, Q4, Q5, Q6, Q7, Q8, Q9, Q10, Q11, Q12, Q13, Q14, Q15, Q16, Q17, Q18, Q19, Q20, Q21, Q22, Q23, Q24, Q25, Q26, Q27, Q28, Q29, Q30, Q31, Q32, Q33, Q35, Q36, Q37, Q38, Q39, Q40, Q41, Q42, Q43, Q44, Q45, Q46, Q47, Q48, Q49, Q50, Q51, Q52, Q53, Q54, Q55, Q56, Q57, Q58, Q59, Q60, Q61, Q62, Q63, Q64, Q65, Q66, Q67, Q68, Q69, Q70, Q71, Q72, Q73, Q99, Q100, Q101, Q102, Q103, Q74, Q75, Q77, Q78, Q79, Q80, Q81, Q82, Q83, Q84, clr, List.length_nil, List.length_cons, List.getElem?_cons_zero, List.getElem?_cons_succ, Nat.reduceAdd, Nat.zero_add, Nat.add_zero, Nat.reduceLeDiff, Nat.reduceSub, ↓reduceIte, List.drop_succ_cons, List.drop_zero, List.take_succ_cons, List.take_zero, Bool.false_eq_true, List.nil_append, List.cons_append, Bool.not_true, Bool.not_false, cond_true, cond_false, bne, Q85, Q86, Q87, Q88, Q89, Q90, Q91, Q92, Q93, Q94, Q95, Q96, Q97, Q98, Q110, Q111, Q116, Q117, Q118, Q119, Q120, Q121, Q122, Q123, Option.map_some, Option.map_none]
     exact v_leave0 h0 h3 hT rfl _ (by first | exact .inr rfl | exact .inl rfl)
   ·cases hd with
    | false =>
     rw [show doesT ⟨S, Q, p, o, u, false, ov⟩ 0 3 i = ⟨S, Q, p, o, u, false, ov⟩ from by simp [doesT, headOff]]
     refine ⟨R, N, hR, hN, callW_own (c := c16) rfl rfl 0 ?_⟩
     rw [v_app, v_len]
     simp only [c16, start, List.replicate, c16_0, c16_1, c16_2, c16_3, c16_4, c16_5, c16_6, c16_7, c16_8, c16_9, c16_10, c16_11, c16_12, c16_13, c16_14, c16_15, c16_16, c16_17, c16_18, c16_19, c16_20, cl, v_bx, v_ld4, v_ld5, v_ld6, v_ld8, v_ld9, v_l0, v_l1, v_l2, v_l4, v_st6, v_st7, v_st8, v_st9, v_st10, v_clr, v_up1, v_up2, ap, x_region_ap, apR_t, e_clrmap, e_mapupd, Q122, Int.reduceBEq, Q0, Q1, Q2, Q3, Q4, Q5, Q6, Q7, Q8, Q9, Q10, Q11, Q12, Q13, Q14, Q15, Q16, Q17, Q18, Q19, Q20, Q21, Q22, Q23, Q24, Q25, Q26, Q27, Q28, Q29, Q30, Q31, Q32, Q33, Q35, Q36, Q37, Q38, Q39, Q40, Q41, Q42, Q43, Q44, Q45, Q46, Q47, Q48, Q49, Q50, Q51, Q52, Q53, Q54, Q55, Q56, Q57, Q58, Q59, Q60, Q61, Q62, Q63, Q64, Q65, Q66, Q67, Q68, Q69, Q70, Q71, Q72, Q73, Q99, Q100, Q101, Q102, Q103, Q74, Q75, Q77, Q78, Q79, Q80, Q81, Q82, Q83, Q84, clr, List.length_nil, List.length_cons, List.getElem?_cons_zero, List.getElem?_cons_succ, Nat.reduceAdd, Nat.zero_add, Nat.add_zero, Nat.reduceLeDiff, Nat.reduceSub, ↓reduceIte, List.drop_succ_cons, List.drop_zero, List.take_succ_cons, List.take_zero, Bool.false_eq_true, List.nil_append, List.cons_append, Bool.not_true, Bool.not_false, cond_true, cond_false, bne, Q85, Q86, Q87, Q88, Q89, Q90, Q91, Q92, Q93, Q94, Q95, Q96, Q97, Q98, Q110, Q111, Q116, Q117, Q118, Q119, Q120, Q121, Q122, Q123, Option.map_some, Option.map_none]
     exact v_leave0 h0 h3 hT rfl _ (by first | exact .inr rfl | exact .inl rfl)
    | true =>
     rw [show doesT ⟨S, Q, p, o, u, true, ov⟩ 0 3 i = ⟨S, Q, p, o, u, true, ov⟩ from by simp [doesT, headOff]]
     refine ⟨R, N, hR, hN, callW_own (c := c16) rfl rfl 0 ?_⟩
     rw [v_app, v_len]
     simp only [c16, start, List.replicate, c16_0, c16_1, c16_2, c16_3, c16_4, c16_5, c16_6, c16_7, c16_8, c16_9, c16_10, c16_11, c16_12, c16_13, c16_14, c16_15, c16_16, c16_17, c16_18, c16_19, c16_20, cl, v_bx, v_ld4, v_ld5, v_ld6, v_ld8, v_ld9, v_l0, v_l1, v_l2, v_l4, v_st6, v_st7, v_st8, v_st9, v_st10, v_clr, v_up1, v_up2, ap, x_region_ap, apR_t, e_clrmap, e_mapupd, Q122, Int.reduceBEq, Q0, Q1, Q2, Q3, Q4, Q5, Q6, Q7, Q8, Q9, Q10, Q11, Q12, Q13, Q14, Q15, Q16, Q17, Q18, Q19, Q20, Q21, Q22, Q23, Q24, Q25, Q26, Q27, Q28, Q29, Q30, Q31, Q32, Q33, Q35, Q36, Q37, Q38, Q39, Q40, Q41, Q42, Q43, Q44, Q45, Q46, Q47, Q48, Q49, Q50, Q51, Q52, Q53, Q54, Q55, Q56, Q57, Q58, Q59, Q60, Q61, Q62, Q63, Q64, Q65, Q66, Q67, Q68, Q69, Q70, Q71, Q72, Q73, Q99, Q100, Q101, Q102, Q103, Q74, Q75, Q77, Q78, Q79, Q80, Q81, Q82, Q83, Q84, clr, List.length_nil, List.length_cons, List.getElem?_cons_zero, List.getElem?_cons_succ, Nat.reduceAdd, Nat.zero_add, Nat.add_zero, Nat.reduceLeDiff, Nat.reduceSub, ↓reduceIte, List.drop_succ_cons, List.drop_zero, List.take_succ_cons, List.take_zero, Bool.false_eq_true, List.nil_append, List.cons_append, Bool.not_true, Bool.not_false, cond_true, cond_false, bne, Q85, Q86, Q87, Q88, Q89, Q90, Q91, Q92, Q93, Q94, Q95, Q96, Q97, Q98, Q110, Q111, Q116, Q117, Q118, Q119, Q120, Q121, Q122, Q123, Option.map_some, Option.map_none]
     exact v_leave0 h0 h3 hT rfl _ (by first | exact .inr rfl | exact .inl rfl)
   ·cases hd with
    | false =>
     rw [show doesT ⟨S, Q, p, o, u, false, ov⟩ 0 4 i = ⟨S, Q, i.n, 0, i.a, false, ov⟩ from by simp [doesT, headOff]]
     refine ⟨R, N, hR, hN, callW_own (c := c16) rfl rfl 0 ?_⟩
     rw [v_app, v_len]
     simp only [c16, start, List.replicate, c16_0, c16_1, c16_2, c16_3, c16_4, c16_5, c16_6, c16_7, c16_8, c16_9, c16_10, c16_11, c16_12, c16_13, c16_14, c16_15, c16_16, c16_17, c16_18, c16_19, c16_20, cl, v_bx, v_ld4, v_ld5, v_ld6, v_ld8, v_ld9, v_l0, v_l1, v_l2, v_l4, v_st6, v_st7, v_st8, v_st9, v_st10, v_clr, v_up1, v_up2, ap, x_region_ap, apR_t, e_clrmap, e_mapupd, Q122, Int.reduceBEq, Q0, Q1, Q2, Q3, Q4, Q5, Q6, Q7, Q8, Q9, Q10, Q11, Q12, Q13, Q14, Q15, Q16, Q17, Q18, Q19, Q20, Q21, Q22, Q23, Q24, Q25, Q26, Q27, Q28, Q29, Q30, Q31, Q32, Q33, Q35, Q36, Q37, Q38, Q39, Q40, Q41, Q42, Q43, Q44, Q45, Q46, Q47, Q48, Q49, Q50, Q51, Q52, Q53, Q54, Q55, Q56, Q57, Q58, Q59, Q60, Q61, Q62, Q63, Q64, Q65, Q66, Q67, Q68, Q69, Q70, Q71, Q72, Q73, Q99, Q100, Q101, Q102, Q103, Q74, Q75, Q77, Q78, Q79, Q80, Q81, Q82, Q83, Q84, clr, List.length_nil, List.length_cons, List.getElem?_cons_zero, List.getElem?_cons_succ, Nat.reduceAdd, Nat.zero_add, Nat.add_zero, Nat.reduceLeDiff, Nat.reduceSub, ↓reduceIte, List.drop_succ_cons, List.drop_zero, List.take_succ_cons, List.take_zero, Bool.false_eq_true, List.nil_append, List.cons_append, Bool.not_true, Bool.not_false, cond_true, cond_false, bne, Q85, Q86, Q87, Q88, Q89, Q90, Q91, Q92, Q93, Q94, Q95, Q96, Q97, Q98, Q110, Q111, Q116, Q117, Q118, Q119, Q120, Q121, Q122, Q123, Option.map_some, Option.map_none]
     exact v_leave0 h0 h3 hT rfl _ (by first | exact .inr rfl | exact .inl rfl)
    | true =>
     rw [show doesT ⟨S, Q, p, o, u, true, ov⟩ 0 4 i = ⟨S, Q, i.n, 0, i.a, true, ov⟩ from by simp [doesT, headOff]]
     refine ⟨R, N, hR, hN, callW_own (c := c16) rfl rfl 0 ?_⟩
     rw [v_app, v_len]
     simp only [c16, start, List.replicate, c16_0, c16_1, c16_2, c16_3, c16_4, c16_5, c16_6, c16_7, c16_8, c16_9, c16_10, c16_11, c16_12, c16_13, c16_14, c16_15, c16_16, c16_17, c16_18, c16_19, c16_20, cl, v_bx, v_ld4, v_ld5, v_ld6, v_ld8, v_ld9, v_l0, v_l1, v_l2, v_l4, v_st6, v_st7, v_st8, v_st9, v_st10, v_clr, v_up1, v_up2, ap, x_region_ap, apR_t, e_clrmap, e_mapupd, Q122, Int.reduceBEq, Q0, Q1, Q2, Q3, Q4, Q5, Q6, Q7, Q8, Q9, Q10, Q11, Q12, Q13, Q14, Q15, Q16, Q17, Q18, Q19, Q20, Q21, Q22, Q23, Q24, Q25, Q26, Q27, Q28, Q29, Q30, Q31, Q32, Q33, Q35, Q36, Q37, Q38, Q39, Q40, Q41, Q42, Q43, Q44, Q45, Q46, Q47, Q48, Q49, Q50, Q51, Q52, Q53, Q54, Q55, Q56, Q57, Q58, Q59, Q60, Q61, Q62, Q63, Q64, Q65, Q66, Q67, Q68, Q69, Q70, Q71, Q72, Q73, Q99, Q100, Q101, Q102, Q103, Q74, Q75, Q77, Q78, Q79, Q80, Q81, Q82, Q83, Q84, clr, List.length_nil, List.length_cons, List.getElem?_cons_zero, List.getElem?_cons_succ, Nat.reduceAdd, Nat.zero_add, Nat.add_zero, Nat.reduceLeDiff, Nat.reduceSub, ↓reduceIte, List.drop_succ_cons, List.drop_zero, List.take_succ_cons, List.take_zero, Bool.false_eq_true, List.nil_append, List.cons_append, Bool.not_true, Bool.not_false, cond_true, cond_false, bne, Q85, Q86, Q87, Q88, Q89, Q90, Q91, Q92, Q93, Q94, Q95, Q96, Q97, Q98, Q110, Q111, Q116, Q117, Q118, Q119, Q120, Q121, Q122, Q123, Option.map_some, Option.map_none]
     exact v_leave0 h0 h3 hT rfl _ (by first | exact .inr rfl | exact .inl rfl)
  ·rcases hk5 with rfl | rfl | rfl | rfl | rfl
   ·cases hz : (IntKind.i64.wrap (p - 1) == 0) <;> cases hd
    ·
     rw [show doesT ⟨S, Q, p, o, u, false, ov⟩ 1 0 i = ⟨S, (i.b :: Q), (IntKind.i64.wrap (p - 1)), o, u, false, ov⟩ from by simp [doesT, headOff]]
     refine ⟨R, (upd (.int .i64 i.b) (.v (.bool true)) N), hR, hN.add _, callW_own (c := c16) rfl rfl 0 ?_⟩
     rw [v_app, v_len]
     simp only [c16, start, List.replicate, c16_0, c16_1, c16_2, c16_3, c16_4, c16_5, c16_6, c16_7, c16_8, c16_9, c16_10, c16_11, c16_12, c16_13, c16_14, c16_15, c16_16, c16_17, c16_18, c16_19, c16_20, cl, v_bx, v_ld4, v_ld5, v_ld6, v_ld8, v_ld9, v_l0, v_l1, v_l2, v_l4, v_st6, v_st7, v_st8, v_st9, v_st10, v_clr, v_up1, v_up2, ap, x_region_ap, apR_t, e_clrmap, e_mapupd, Q122, Int.reduceBEq, Q0, Q1, Q2, Q3, Q4, Q5, Q6, Q7, Q8, Q9, Q10, Q11, Q12, Q13, Q14, Q15, Q16, Q17, Q18, Q19, Q20, Q21, Q22, Q23, Q24, Q25, Q26, Q27, Q28, Q29, Q30, Q31, Q32, Q33, Q35, Q36, Q37, Q38, Q39, Q40, Q41, Q42, Q43, Q44, Q45, Q46, Q47, Q48, Q49, Q50, Q51, Q52, Q53, Q54, Q55, Q56, Q57, Q58, Q59, Q60, Q61, Q62, Q63, Q64, Q65, Q66, Q67, Q68, Q69, Q70, Q71, Q72, Q73, Q99, Q100, Q101, Q102, Q103, Q74, Q75, Q77, Q78, Q79, Q80, Q81, Q82, Q83, Q84, clr, List.length_nil, List.length_cons, List.getElem?_cons_zero, List.getElem?_cons_succ, Nat.reduceAdd, Nat.zero_add, Nat.add_zero, Nat.reduceLeDiff, Nat.reduceSub, ↓reduceIte, List.drop_succ_cons, List.drop_zero, List.take_succ_cons, List.take_zero, Bool.false_eq_true, List.nil_append, List.cons_append, Bool.not_true, Bool.not_false, cond_true, cond_false, bne, Q85, Q86, Q87, Q88, Q89, Q90, Q91, Q92, Q93, Q94, Q95, Q96, Q97, Q98, Q110, Q111, Q116, Q117, Q118, Q119, Q120, Q121, Q122, Q123, Option.map_some, Option.map_none, hz]
     exact v_leave0 h0 h3 hT rfl _ (by first | exact .inr rfl | exact .inl rfl)
    ·
     rw [show doesT ⟨S, Q, p, o, u, true, ov⟩ 1 0 i = ⟨S, (i.b :: Q), (IntKind.i64.wrap (p - 1)), o, u, true, ov⟩ from by simp [doesT, headOff]]
     refine ⟨R, (upd (.int .i64 i.b) (.v (.bool true)) N), hR, hN.add _, callW_own (c := c16) rfl rfl 0 ?_⟩
     rw [v_app, v_len]
     simp only [c16, start, List.replicate, c16_0, c16_1, c16_2, c16_3, c16_4, c16_5, c16_6, c16_7, c16_8, c16_9, c16_10, c16_11, c16_12, c16_13, c16_14, c16_15, c16_16, c16_17, c16_18, c16_19, c16_20, cl, v_bx, v_ld4, v_ld5, v_ld6, v_ld8, v_ld9, v_l0, v_l1, v_l2, v_l4, v_st6, v_st7, v_st8, v_st9, v_st10, v_clr, v_up1, v_up2, ap, x_region_ap, apR_t, e_clrmap, e_mapupd, Q122, Int.reduceBEq, Q0, Q1, Q2, Q3, Q4, Q5, Q6, Q7, Q8, Q9, Q10, Q11, Q12, Q13, Q14, Q15, Q16, Q17, Q18, Q19, Q20, Q21, Q22, Q23, Q24, Q25, Q26, Q27, Q28, Q29, Q30, Q31, Q32, Q33, Q35, Q36, Q37, Q38, Q39, Q40, Q41, Q42, Q43, Q44, Q45, Q46, Q47, Q48, Q49, Q50, Q51, Q52, Q53, Q54, Q55, Q56, Q57, Q58, Q59, Q60, Q61, Q62, Q63, Q64, Q65, Q66, Q67, Q68, Q69, Q70, Q71, Q72, Q73, Q99, Q100, Q101, Q102, Q103, Q74, Q75, Q77, Q78, Q79, Q80, Q81, Q82, Q83, Q84, clr, List.length_nil, List.length_cons, List.getElem?_cons_zero, List.getElem?_cons_succ, Nat.reduceAdd, Nat.zero_add, Nat.add_zero, Nat.reduceLeDiff, Nat.reduceSub, ↓reduceIte, List.drop_succ_cons, List.drop_zero, List.take_succ_cons, List.take_zero, Bool.false_eq_true, List.nil_append, List.cons_append, Bool.not_true, Bool.not_false, cond_true, cond_false, bne, Q85, Q86, Q87, Q88, Q89, Q90, Q91, Q92, Q93, Q94, Q95, Q96, Q97, Q98, Q110, Q111, Q116, Q117, Q118, Q119, Q120, Q121, Q122, Q123, Option.map_some, Option.map_none, hz]
     exact v_leave0 h0 h3 hT rfl _ (by first | exact .inr rfl | exact .inl rfl)
    ·
     rw [show doesT ⟨S, Q, p, o, u, false, ov⟩ 1 0 i = ⟨S, (i.b :: Q), (IntKind.i64.wrap (p - 1)), o, u, false, ov⟩ from by simp [doesT, headOff]]
     refine ⟨R, (upd (.int .i64 i.b) (.v (.bool true)) N), hR, hN.add _, callW_own (c := c16) rfl rfl 0 ?_⟩
     rw [v_app, v_len]
     simp only [c16, start, List.replicate, c16_0, c16_1, c16_2, c16_3, c16_4, c16_5, c16_6, c16_7, c16_8, c16_9, c16_10, c16_11, c16_12, c16_13, c16_14, c16_15, c16_16, c16_17, c16_18, c16_19, c16_20, cl, v_bx, v_ld4, v_ld5, v_ld6, v_ld8, v_ld9, v_l0, v_l1, v_l2, v_l4, v_st6, v_st7, v_st8, v_st9, v_st10, v_clr, v_up1, v_up2, ap, x_region_ap, apR_t, e_clrmap, e_mapupd, Q122, Int.reduceBEq, Q0, Q1, Q2, Q3, Q4, Q5, Q6, Q7, Q8, Q9, Q10, Q11, Q12, Q13, Q14, Q15, Q16, Q17, Q18, Q19, Q20, Q21, Q22, Q23, Q24, Q25, Q26, Q27, Q28, Q29, Q30, Q31, Q32, Q33, Q35, Q36, Q37, Q38, Q39, Q40, Q41, Q42, Q43, Q44, Q45, Q46, Q47, Q48, Q49, Q50, Q51, Q52, Q53, Q54, Q55, Q56, Q57, Q58, Q59, Q60, Q61, Q62, Q63, Q64, Q65, Q66, Q67, Q68, Q69, Q70, Q71, Q72, Q73, Q99, Q100, Q101, Q102, Q103, Q74, Q75, Q77, Q78, Q79, Q80, Q81, Q82, Q83, Q84, clr, List.length_nil, List.length_cons, List.getElem?_cons_zero, List.getElem?_cons_succ, Nat.reduceAdd, Nat.zero_add, Nat.add_zero, Nat.reduceLeDiff, Nat.reduceSub, ↓reduceIte, List.drop_succ_cons, List.drop_zero, List.take_succ_cons, List.take_zero, Bool.false_eq_true, List.nil_append, List.cons_append, Bool.not_true, Bool.not_false, cond_true, cond_false, bne, Q85, Q86, Q87, Q88, Q89, Q90, Q91, Q92, Q93, Q94, Q95, Q96, Q97, Q98, Q110, Q111, Q116, Q117, Q118, Q119, Q120, Q121, Q122, Q123, Option.map_some, Option.map_none, hz]
     exact v_leave0 h0 h3 hT rfl _ (by first | exact .inr rfl | exact .inl rfl)
    ·
     rw [show doesT ⟨S, Q, p, o, u, true, ov⟩ 1 0 i = ⟨S, (i.b :: Q), (IntKind.i64.wrap (p - 1)), o, u, true, ov⟩ from by simp [doesT, headOff]]
     refine ⟨R, (upd (.int .i64 i.b) (.v (.bool true)) N), hR, hN.add _, callW_own (c := c16) rfl rfl 0 ?_⟩
     rw [v_app, v_len]
     simp only [c16, start, List.replicate, c16_0, c16_1, c16_2, c16_3, c16_4, c16_5, c16_6, c16_7, c16_8, c16_9, c16_10, c16_11, c16_12, c16_13, c16_14, c16_15, c16_16, c16_17, c16_18, c16_19, c16_20, cl, v_bx, v_ld4, v_ld5, v_ld6, v_ld8, v_ld9, v_l0, v_l1, v_l2, v_l4, v_st6, v_st7, v_st8, v_st9, v_st10, v_clr, v_up1, v_up2, ap, x_region_ap, apR_t, e_clrmap, e_mapupd, Q122, Int.reduceBEq, Q0, Q1, Q2, Q3, Q4, Q5, Q6, Q7, Q8, Q9, Q10, Q11, Q12, Q13, Q14, Q15, Q16, Q17, Q18, Q19, Q20, Q21, Q22, Q23, Q24, Q25, Q26, Q27, Q28, Q29, Q30, Q31, Q32, Q33, Q35, Q36, Q37, Q38, Q39, Q40, Q41, Q42, Q43, Q44, Q45, Q46, Q47, Q48, Q49, Q50, Q51, Q52, Q53, Q54, Q55, Q56, Q57, Q58, Q59, Q60, Q61, Q62, Q63, Q64, Q65, Q66, Q67, Q68, Q69, Q70, Q71, Q72, Q73, Q99, Q100, Q101, Q102, Q103, Q74, Q75, Q77, Q78, Q79, Q80, Q81, Q82, Q83, Q84, clr, List.length_nil, List.length_cons, List.getElem?_cons_zero, List.getElem?_cons_succ, Nat.reduceAdd, Nat.zero_add, Nat.add_zero, Nat.reduceLeDiff, Nat.reduceSub, ↓reduceIte, List.drop_succ_cons, List.drop_zero, List.take_succ_cons, List.take_zero, Bool.false_eq_true, List.nil_append, List.cons_append, Bool.not_true, Bool.not_false, cond_true, cond_false, bne, Q85, Q86, Q87, Q88, Q89, Q90, Q91, Q92, Q93, Q94, Q95, Q96, Q97, Q98, Q110, Q111, Q116, Q117, Q118, Q119, Q120, Q121, Q122, Q123, Option.map_some, Option.map_none, hz]
     exact v_leave0 h0 h3 hT rfl _ (by first | exact .inr rfl | exact .inl rfl)
   ·cases hz : (IntKind.i64.wrap (p - 1) == 0) <;> cases hd
    ·
     rw [show doesT ⟨S, Q, p, o, u, false, ov⟩ 1 1 i = ⟨S, Q, (IntKind.i64.wrap (p - 1)), o, u, false, ov⟩ from by simp [doesT, headOff]]
     refine ⟨R, N, hR, hN, callW_own (c := c16) rfl rfl 0 ?_⟩
     rw [v_app, v_len]
     simp only [c16, start, List.replicate, c16_0, c16_1, c16_2, c16_3, c16_4, c16_5, c16_6, c16_7, c16_8, c16_9, c16_10, c16_11, c16_12, c16_13, c16_14, c16_15, c16_16, c16_17, c16_18, c16_19, c16_20, cl, v_bx, v_ld4, v_ld5, v_ld6, v_ld8, v_ld9, v_l0, v_l1, v_l2, v_l4, v_st6, v_st7, v_st8, v_st9, v_st10, v_clr, v_up1, v_up2, ap, x_region_ap, apR_t, e_clrmap, e_mapupd, Q122, Int.reduceBEq, Q0, Q1, Q2, Q3, Q4, Q5, Q6, Q7, Q8, Q9, Q10, Q11, Q12, Q13, Q14, Q15, Q16, Q17, Q18, Q19, Q20, Q21, Q22, Q23, Q24, Q25, Q26, Q27, Q28, Q29, Q30, Q31, Q32, Q33, Q35, Q36, Q37, Q38, Q39, Q40, Q41, Q42, Q43, Q44, Q45, Q46, Q47, Q48, Q49, Q50, Q51, Q52, Q53, Q54, Q55, Q56, Q57, Q58, Q59, Q60, Q61, Q62, Q63, Q64, Q65, Q66, Q67, Q68, Q69, Q70, Q71, Q72, Q73, Q99, Q100, Q101, Q102, Q103, Q74, Q75, Q77, Q78, Q79, Q80, Q81, Q82, Q83, Q84, clr, List.length_nil, List.length_cons, List.getElem?_cons_zero, List.getElem?_cons_succ, Nat.reduceAdd, Nat.zero_add, Nat.add_zero, Nat.reduceLeDiff, Nat.reduceSub, ↓reduceIte, List.drop_succ_cons, List.drop_zero, List.take_succ_cons, List.take_zero, Bool.false_eq_true, List.nil_append, List.cons_append, Bool.not_true, Bool.not_false, cond_true, cond_false, bne, Q85, Q86, Q87, Q88, Q89, Q90, Q91, Q92, Q93, Q94, Q95, Q96, Q97, Q98, Q110, Q111, Q116, Q117, Q118, Q119, Q120, Q121, Q122, Q123, Option.map_some, Option.map_none, hz]
     exact v_leave0 h0 h3 hT rfl _ (by first | exact .inr rfl | exact .inl rfl)
    ·
     rw [show doesT ⟨S, Q, p, o, u, true, ov⟩ 1 1 i = ⟨S, Q, (IntKind.i64.wrap (p - 1)), o, u, true, ov⟩ from by simp [doesT, headOff]]
     refine ⟨R, N, hR, hN, callW_own (c := c16) rfl rfl 0 ?_⟩
     rw [v_app, v_len]
     simp only [c16, start, List.replicate, c16_0, c16_1, c16_2, c16_3, c16_4, c16_5, c16_6, c16_7, c16_8, c16_9, c16_10, c16_11, c16_12, c16_13, c16_14, c16_15, c16_16, c16_17, c16_18, c16_19, c16_20, cl, v_bx, v_ld4, v_ld5, v_ld6, v_ld8, v_ld9, v_l0, v_l1, v_l2, v_l4, v_st6, v_st7, v_st8, v_st9, v_st10, v_clr, v_up1, v_up2, ap, x_region_ap, apR_t, e_clrmap, e_mapupd, Q122, Int.reduceBEq, Q0, Q1, Q2, Q3, Q4, Q5, Q6, Q7, Q8, Q9, Q10, Q11, Q12, Q13, Q14, Q15, Q16, Q17, Q18, Q19, Q20, Q21, Q22, Q23, Q24, Q25, Q26, Q27, Q28, Q29, Q30, Q31, Q32, Q33, Q35, Q36, Q37, Q38, Q39, Q40, Q41, Q42, Q43, Q44, Q45, Q46, Q47, Q48, Q49, Q50, Q51, Q52, Q53, Q54, Q55, Q56, Q57, Q58, Q59, Q60, Q61, Q62, Q63, Q64, Q65, Q66, Q67, Q68, Q69, Q70, Q71, Q72, Q73, Q99, Q100, Q101, Q102, Q103, Q74, Q75, Q77, Q78, Q79, Q80, Q81, Q82, Q83, Q84, clr, List.length_nil, List.length_cons, List.getElem?_cons_zero, List.getElem?_cons_succ, Nat.reduceAdd, Nat.zero_add, Nat.add_zero, Nat.reduceLeDiff, Nat.reduceSub, ↓reduceIte, List.drop_succ_cons, List.drop_zero, List.take_succ_cons, List.take_zero, Bool.false_eq_true, List.nil_append, List.cons_append, Bool.not_true, Bool.not_false, cond_true, cond_false, bne, Q85, Q86, Q87, Q88, Q89, Q90, Q91, Q92, Q93, Q94, Q95, Q96, Q97, Q98, Q110, Q111, Q116, Q117, Q118, Q119, Q120, Q121, Q122, Q123, Option.map_some, Option.map_none, hz]
     exact v_leave0 h0 h3 hT rfl _ (by first | exact .inr rfl | exact .inl rfl)
    ·
     rw [show doesT ⟨S, Q, p, o, u, false, ov⟩ 1 1 i = ⟨S, Q, (IntKind.i64.wrap (p - 1)), o, u, false, ov⟩ from by simp [doesT, headOff]]
     refine ⟨R, N, hR, hN, callW_own (c := c16) rfl rfl 0 ?_⟩
     rw [v_app, v_len]
     simp only [c16, start, List.replicate, c16_0, c16_1, c16_2, c16_3, c16_4, c16_5, c16_6, c16_7, c16_8, c16_9, c16_10, c16_11, c16_12, c16_13, c16_14, c16_15, c16_16, c16_17, c16_18, c16_19, c16_20, cl, v_bx, v_ld4, v_ld5, v_ld6, v_ld8, v_ld9, v_l0, v_l1, v_l2, v_l4, v_st6, v_st7, v_st8, v_st9, v_st10, v_clr, v_up1, v_up2, ap, x_region_ap, apR_t, e_clrmap, e_mapupd, Q122, Int.reduceBEq, Q0, Q1, Q2, Q3, Q4, Q5, Q6, Q7, Q8, Q9, Q10, Q11, Q12, Q13, Q14, Q15, Q16, Q17, Q18, Q19, Q20, Q21, Q22, Q23, Q24, Q25, Q26, Q27, Q28, Q29, Q30, Q31, Q32, Q33, Q35, Q36, Q37, Q38, Q39, Q40, Q41, Q42, Q43, Q44, Q45, Q46, Q47, Q48, Q49, Q50, Q51, Q52, Q53, Q54, Q55, Q56, Q57, Q58, Q59, Q60, Q61, Q62, Q63, Q64, Q65, Q66, Q67, Q68, Q69, Q70, Q71, Q72, Q73, Q99, Q100, Q101, Q102, Q103, Q74, Q75, Q77, Q78, Q79, Q80, Q81, Q82, Q83, Q84, clr, List.length_nil, List.length_cons, List.getElem?_cons_zero, List.getElem?_cons_succ, Nat.reduceAdd, Nat.zero_add, Nat.add_zero, Nat.reduceLeDiff, Nat.reduceSub, ↓reduceIte, List.drop_succ_cons, List.drop_zero, List.take_succ_cons, List.take_zero, Bool.false_eq_true, List.nil_append, List.cons_append, Bool.not_true, Bool.not_false, cond_true, cond_false, bne, Q85, Q86, Q87, Q88, Q89, Q90, Q91, Q92, Q93, Q94, Q95, Q96, Q97, Q98, Q110, Q111, Q116, Q117, Q118, Q119, Q120, Q121, Q122, Q123, Option.map_some, Option.map_none, hz]
     exact v_leave0 h0 h3 hT rfl _ (by first | exact .inr rfl | exact .inl rfl)
    ·
     rw [show doesT ⟨S, Q, p, o, u, true, ov⟩ 1 1 i = ⟨S, Q, (IntKind.i64.wrap (p - 1)), o, u, true, ov⟩ from by simp [doesT, headOff]]
     refine ⟨R, N, hR, hN, callW_own (c := c16) rfl rfl 0 ?_⟩
     rw [v_app, v_len]
     simp only [c16, start, List.replicate, c16_0, c16_1, c16_2, c16_3, c16_4, c16_5, c16_6, c16_7, c16_8, c16_9, c16_10, c16_11, c16_12, c16_13, c16_14, c16_15, c16_16, c16_17, c16_18, c16_19, c16_20, cl, v_bx, v_ld4, v_ld5, v_ld6, v_ld8, v_ld9, v_l0, v_l1, v_l2, v_l4, v_st6, v_st7, v_st8, v_st9, v_st10, v_clr, v_up1, v_up2, ap, x_region_ap, apR_t, e_clrmap, e_mapupd, Q122, Int.reduceBEq, Q0, Q1, Q2, Q3, Q4, Q5, Q6, Q7, Q8, Q9, Q10, Q11, Q12, Q13, Q14, Q15, Q16, Q17, Q18, Q19, Q20, Q21, Q22, Q23, Q24, Q25, Q26, Q27, Q28, Q29, Q30, Q31, Q32, Q33, Q35, Q36, Q37, Q38, Q39, Q40, Q41, Q42, Q43, Q44, Q45, Q46, Q47, Q48, Q49, Q50, Q51, Q52, Q53, Q54, Q55, Q56, Q57, Q58, Q59, Q60, Q61, Q62, Q63, Q64, Q65, Q66, Q67, Q68, Q69, Q70, Q71, Q72, Q73, Q99, Q100, Q101, Q102, Q103, Q74, Q75, Q77, Q78, Q79, Q80, Q81, Q82, Q83, Q84, clr, List.length_nil, List.length_cons, List.getElem?_cons_zero, List.getElem?_cons_succ, Nat.reduceAdd, Nat.zero_add, Nat.add_zero, Nat.reduceLeDiff, Nat.reduceSub, ↓reduceIte, List.drop_succ_cons, List.drop_zero, List.take_succ_cons, List.take_zero, Bool.false_eq_true, List.nil_append, List.cons_append, Bool.not_true, Bool.not_false, cond_true, cond_false, bne, Q85, Q86, Q87, Q88, Q89, Q90, Q91, Q92, Q93, Q94, Q95, Q96, Q97, Q98, Q110, Q111, Q116, Q117, Q118, Q119, Q120, Q121, Q122, Q123, Option.map_some, Option.map_none, hz]
     exact v_leave0 h0 h3 hT rfl _ (by first | exact .inr rfl | exact .inl rfl)
   ·cases hz : (IntKind.i64.wrap (p - 1) == 0) <;> cases hd
    ·
     rw [show doesT ⟨S, Q, p, o, u, false, ov⟩ 1 2 i = ⟨S, Q, (IntKind.i64.wrap (p - 1)), o, u, false, ov⟩ from by simp [doesT, headOff]]
     refine ⟨R, N, hR, hN, callW_own (c := c16) rfl rfl 0 ?_⟩
     rw [v_app, v_len]
     simp only [c16, start, List.replicate, c16_0, c16_1, c16_2, c16_3, c16_4, c16_5, c16_6, c16_7, c16_8, c16_9, c16_10, c16_11, c16_12, c16_13, c16_14, c16_15, c16_16, c16_17, c16_18, c16_19, c16_20, cl, v_bx, v_ld4, v_ld5, v_ld6, v_ld8, v_ld9, v_l0, v_l1, v_l2, v_l4, v_st6, v_st7, v_st8, v_st9, v_st10, v_clr, v_up1, v_up2, ap, x_region_ap, apR_t, e_clrmap, e_mapupd, Q122, Int.reduceBEq, Q0, Q1, Q2, Q3, Q4, Q5, Q6, Q7, Q8, Q9, Q10, Q11, Q12, Q13, Q14, Q15, Q16, Q17, Q18, Q19, Q20, Q21, Q22, Q23, Q24, Q25, Q26, Q27, Q28, Q29, Q30, Q31, Q32, Q33, Q35, Q36, Q37, Q38, Q39, Q40, Q41, Q42, Q43, Q44, Q45, Q46, Q47, Q48, Q49, Q50, Q51, Q52, Q53, Q54, Q55, Q56, Q57, Q58, Q59, Q60, Q61, Q62, Q63, Q64, Q65, Q66, Q67, Q68, Q69, Q70, Q71, Q72, Q73, Q99, Q100, Q101, Q102, Q103, Q74, Q75, Q77, Q78, Q79, Q80, Q81, Q82, Q83, Q84, clr, List.length_nil, List.length_cons, List.getElem?_cons_zero, List.getElem?_cons_succ, Nat.reduceAdd, Nat.zero_add, Nat.add_zero, Nat.reduceLeDiff, Nat.reduceSub, ↓reduceIte, List.drop_succ_cons, List.drop_zero, List.take_succ_cons, List.take_zero, Bool.false_eq_true, List.nil_append, List.cons_append, Bool.not_true, Bool.not_false, cond_true, cond_false, bne, Q85, Q86, Q87, Q88, Q89, Q90, Q91, Q92, Q93, Q94, Q95, Q96, Q97, Q98, Q110, Q111, Q116, Q117, Q118, Q119, Q120, Q121, Q122, Q123, Option.map_some, Option.map_none, hz]
     exact v_leave0 h0 h3 hT rfl _ (by first | exact .inr rfl | exact .inl rfl)
    ·
     rw [show doesT ⟨S, Q, p, o, u, true, ov⟩ 1 2 i = ⟨S, Q, (IntKind.i64.wrap (p - 1)), o, u, true, ov⟩ from by simp [doesT, headOff]]
     refine ⟨R, N, hR, hN, callW_own (c := c16) rfl rfl 0 ?_⟩
     rw [v_app, v_len]
     simp only [c16, start, List.replicate, c16_0, c16_1, c16_2, c16_3, c16_4, c16_5, c16_6, c16_7, c16_8, c16_9, c16_10, c16_11, c16_12, c16_13, c16_14, c16_15, c16_16, c16_17, c16_18, c16_19, c16_20, cl, v_bx, v_ld4, v_ld5, v_ld6, v_ld8, v_ld9, v_l0, v_l1, v_l2, v_l4, v_st6, v_st7, v_st8, v_st9, v_st10, v_clr, v_up1, v_up2, ap, x_region_ap, apR_t, e_clrmap, e_mapupd, Q122, Int.reduceBEq, Q0, Q1, Q2, Q3, Q4, Q5, Q6, Q7, Q8, Q9, Q10, Q11, Q12, Q13, Q14, Q15, Q16, Q17, Q18, Q19, Q20, Q21, Q22, Q23, Q24, Q25, Q26, Q27, Q28, Q29, Q30, Q31, Q32, Q33, Q35, Q36, Q37, Q38, Q39, Q40, Q41, Q42, Q43, Q44, Q45, Q46, Q47, Q48, Q49, Q50, Q51, Q52, Q53, Q54, Q55, Q56, Q57, Q58, Q59, Q60, Q61, Q62, Q63, Q64, Q65, Q66, Q67, Q68, Q69, Q70, Q71, Q72, Q73, Q99, Q100, Q101, Q102, Q103, Q74, Q75, Q77, Q78, Q79, Q80, Q81, Q82, Q83, Q84, clr, List.length_nil, List.length_cons, List.getElem?_cons_zero, List.getElem?_cons_succ, Nat.reduceAdd, Nat.zero_add, Nat.add_zero, Nat.reduceLeDiff, Nat.reduceSub, ↓reduceIte, List.drop_succ_cons, List.drop_zero, List.take_succ_cons, List.take_zero, Bool.false_eq_true, List.nil_append, List.cons_append, Bool.not_true, Bool.not_false, cond_true, cond_false, bne, Q85, Q86, Q87, Q88, Q89, Q90, Q91, Q92, Q93, Q94, Q95, Q96, Q97, Q98, Q110, Q111, Q116, Q117, Q118, Q119, Q120, Q121, Q122, Q123, Option.map_some, Option.map_none, hz]
     exact v_leave0 h0 h3 hT rfl _ (by first | exact .inr rfl | exact .inl rfl)
    ·
     rw [show doesT ⟨S, Q, p, o, u, false, ov⟩ 1 2 i = ⟨S, Q, (IntKind.i64.wrap (p - 1)), o, u, false, ov⟩ from by simp [doesT, headOff]]
     refine ⟨R, N, hR, hN, callW_own (c := c16) rfl rfl 0 ?_⟩
     rw [v_app, v_len]
     simp only [c16, start, List.replicate, c16_0, c16_1, c16_2, c16_3, c16_4, c16_5, c16_6, c16_7, c16_8, c16_9, c16_10, c16_11, c16_12, c16_13, c16_14, c16_15, c16_16, c16_17, c16_18, c16_19, c16_20, cl, v_bx, v_ld4, v_ld5, v_ld6, v_ld8, v_ld9, v_l0, v_l1, v_l2, v_l4, v_st6, v_st7, v_st8, v_st9, v_st10, v_clr, v_up1, v_up2, ap, x_region_ap, apR_t, e_clrmap, e_mapupd, Q122, Int.reduceBEq, Q0, Q1, Q2, Q3, Q4, Q5, Q6, Q7, Q8, Q9, Q10, Q11, Q12, Q13, Q14, Q15, Q16, Q17, Q18, Q19, Q20, Q21, Q22, Q23, Q24, Q25, Q26, Q27, Q28, Q29, Q30, Q31, Q32, Q33, Q35, Q36, Q37, Q38, Q39, Q40, Q41, Q42, Q43, Q44, Q45, Q46, Q47, Q48, Q49, Q50, Q51, Q52, Q53, Q54, Q55, Q56, Q57, Q58, Q59, Q60, Q61, Q62, Q63, Q64, Q65, Q66, Q67, Q68, Q69, Q70, Q71, Q72, Q73, Q99, Q100, Q101, Q102, Q103, Q74, Q75, Q77, Q78, Q79, Q80, Q81, Q82, Q83, Q84, clr, List.length_nil, List.length_cons, List.getElem?_cons_zero, List.getElem?_cons_succ, Nat.reduceAdd, Nat.zero_add, Nat.add_zero, Nat.reduceLeDiff, Nat.reduceSub, ↓reduceIte, List.drop_succ_cons, List.drop_zero, List.take_succ_cons, List.take_zero, Bool.false_eq_true, List.nil_append, List.cons_append, Bool.not_true, Bool.not_false, cond_true, cond_false, bne, Q85, Q86, Q87, Q88, Q89, Q90, Q91, Q92, Q93, Q94, Q95, Q96, Q97, Q98, Q110, Q111, Q116, Q117, Q118, Q119, Q120, Q121, Q122, Q123, Option.map_some, Option.map_none, hz]
     exact v_leave0 h0 h3 hT rfl _ (by first | exact .inr rfl | exact .inl rfl)
    ·
     rw [show doesT ⟨S, Q, p, o, u, true, ov⟩ 1 2 i = ⟨S, Q, (IntKind.i64.wrap (p - 1)), o, u, true, ov⟩ from by simp [doesT, headOff]]
     refine ⟨R, N, hR, hN, callW_own (c := c16) rfl rfl 0 ?_⟩
     rw [v_app, v_len]
     simp only [c16, start, List.replicate, c16_0, c16_1, c16_2, c16_3, c16_4, c16_5, c16_6, c16_7, c16_8, c16_9, c16_10, c16_11, c16_12, c16_13, c16_14, c16_15, c16_16, c16_17, c16_18, c16_19, c16_20, cl, v_bx, v_ld4, v_ld5, v_ld6, v_ld8, v_ld9, v_l0, v_l1, v_l2, v_l4, v_st6, v_st7, v_st8, v_st9, v_st10, v_clr, v_up1, v_up2, ap, x_region_ap, apR_t, e_clrmap, e_mapupd, Q122, Int.reduceBEq, Q0, Q1, Q2, Q3, Q4, Q5, Q6, Q7, Q8, Q9, Q10, Q11, Q12, Q13, Q14, Q15, Q16, Q17, Q18, Q19, Q20, Q21, Q22, Q23, Q24, Q25, Q26, Q27, Q28, Q29, Q30, Q31, Q32, Q33, Q35, Q36, Q37, Q38, Q39, Q40, Q41, Q42, Q43, Q44, Q45, Q46, Q47, Q48, Q49, Q50, Q51, Q52, Q53, Q54, Q55, Q56, Q57, Q58, Q59, Q60, Q61, Q62, Q63, Q64, Q65, Q66, Q67, Q68, Q69, Q70, Q71, Q72, Q73, Q99, Q100, Q101, Q102, Q103, Q74, Q75, Q77, Q78, Q79, Q80, Q81, Q82, Q83, Q84, clr, List.length_nil, List.length_cons, List.getElem?_cons_zero, List.getElem?_cons_succ, Nat.reduceAdd, Nat.zero_add, Nat.add_zero, Nat.reduceLeDiff, Nat.reduceSub, ↓reduceIte, List.drop_succ_cons, List.drop_zero, List.take_succ_cons, List.take_zero, Bool.false_eq_true, List.nil_append, List.cons_append, Bool.not_true, Bool.not_false, cond_true, cond_false, bne, Q85, Q86, Q87, Q88, Q89, Q90, Q91, Q92, Q93, Q94, Q95, Q96, Q97, Q98, Q110, Q111, Q116, Q117, Q118, Q119, Q120, Q121, Q122, Q123, Option.map_some, Option.map_none, hz]
     exact v_leave0 h0 h3 hT rfl _ (by first | exact .inr rfl | exact .inl rfl)
   ·cases hz : (IntKind.i64.wrap (p - 1) == 0) <;> cases hd
    ·
     rw [show doesT ⟨S, Q, p, o, u, false, ov⟩ 1 3 i = ⟨S, Q, (IntKind.i64.wrap (p - 1)), o, u, false, ov⟩ from by simp [doesT, headOff]]
     refine ⟨R, N, hR, hN, callW_own (c := c16) rfl rfl 0 ?_⟩
     rw [v_app, v_len]
     simp only [c16, start, List.replicate, c16_0, c16_1, c16_2, c16_3, c16_4, c16_5, c16_6, c16_7, c16_8, c16_9, c16_10, c16_11, c16_12, c16_13, c16_14, c16_15, c16_16, c16_17, c16_18, c16_19, c16_20, cl, v_bx, v_ld4, v_ld5, v_ld6, v_ld8, v_ld9, v_l0, v_l1, v_l2, v_l4, v_st6, v_st7, v_st8, v_st9, v_st10, v_clr, v_up1, v_up2, ap, x_region_ap, apR_t, e_clrmap, e_mapupd, Q122, Int.reduceBEq, Q0, Q1, Q2, Q3, Q4, Q5, Q6, Q7, Q8, Q9, Q10, Q11, Q12, Q13, Q14, Q15, Q16, Q17, Q18, Q19, Q20, Q21, Q22, Q23, Q24, Q25, Q26, Q27, Q28, Q29, Q30, Q31, Q32, Q33, Q35, Q36, Q37, Q38, Q39, Q40, Q41, Q42, Q43, Q44, Q45, Q46, Q47, Q48, Q49, Q50, Q51, Q52, Q53, Q54, Q55, Q56, Q57, Q58, Q59, Q60, Q61, Q62, Q63, Q64, Q65, Q66, Q67, Q68, Q69, Q70, Q71, Q72, Q73, Q99, Q100, Q101, Q102, Q103, Q74, Q75, Q77, Q78, Q79, Q80, Q81, Q82, Q83, Q84, clr, List.length_nil, List.length_cons, List.getElem?_cons_zero, List.getElem?_cons_succ, Nat.reduceAdd, Nat.zero_add, Nat.add_zero, Nat.reduceLeDiff, Nat.reduceSub, ↓reduceIte, List.drop_succ_cons, List.drop_zero, List.take_succ_cons, List.take_zero, Bool.false_eq_true, List.nil_append, List.cons_append, Bool.not_true, Bool.not_false, cond_true, cond_false, bne, Q85, Q86, Q87, Q88, Q89, Q90, Q91, Q92, Q93, Q94, Q95, Q96, Q97, Q98, Q110, Q111, Q116, Q117, Q118, Q119, Q120, Q121, Q122, Q123, Option.map_some, Option.map_none, hz]
     exact v_leave0 h0 h3 hT rfl _ (by first | exact .inr rfl | exact .inl rfl)
    ·
     rw [show doesT ⟨S, Q, p, o, u, true, ov⟩ 1 3 i = ⟨S, Q, (IntKind.i64.wrap (p - 1)), o, u, true, ov⟩ from by simp [doesT, headOff]]
     refine ⟨R, N, hR, hN, callW_own (c := c16) rfl rfl 0 ?_⟩
     rw [v_app, v_len]
     simp only [c16, start, List.replicate, c16_0, c16_1, c16_2, c16_3, c16_4, c16_5, c16_6, c16_7, c16_8, c16_9, c16_10, c16_11, c16_12, c16_13, c16_14, c16_15, c16_16, c16_17, c16_18, c16_19, c16_20, cl, v_bx, v_ld4, v_ld5, v_ld6, v_ld8, v_ld9, v_l0, v_l1, v_l2, v_l4, v_st6, v_st7, v_st8, v_st9, v_st10, v_clr, v_up1, v_up2, ap, x_region_ap, apR_t, e_clrmap, e_mapupd, Q122, Int.reduceBEq, Q0, Q1, Q2, Q3, Q4, Q5, Q6, Q7, Q8, Q9, Q10, Q11, Q12, Q13, Q14, Q15, Q16, Q17, Q18, Q19, Q20, Q21, Q22, Q23, Q24, Q25, Q26, Q27, Q28, Q29, Q30, Q31, Q32, Q33, Q35, Q36, Q37, Q38, Q39, Q40, Q41, Q42, Q43, Q44, Q45, Q46, Q47, Q48, Q49, Q50, Q51, Q52, Q53, Q54, Q55, Q56, Q57, Q58, Q59, Q60, Q61, Q62, Q63, Q64, Q65, Q66, Q67, Q68, Q69, Q70, Q71, Q72, Q73, Q99, Q100, Q101, Q102, Q103, Q74, Q75, Q77, Q78, Q79, Q80, Q81, Q82, Q83, Q84, clr, List.length_nil, List.length_cons, List.getElem?_cons_zero, List.getElem?_cons_succ, Nat.reduceAdd, Nat.zero_add, Nat.add_zero, Nat.reduceLeDiff, Nat.reduceSub, ↓reduceIte, List.drop_succ_cons, List.drop_zero, List.take_succ_cons, List.take_zero, Bool.false_eq_true, List.nil_append, List.cons_append, Bool.not_true, Bool.not_false, cond_true, cond_false, bne, Q85, Q86, Q87, Q88, Q89, Q90, Q91, Q92, Q93, Q94, Q95, Q96, Q97, Q98, Q110, Q111, Q116, Q117, Q118, Q119, Q120, Q121, Q122, Q123, Option.map_some, Option.map_none, hz]
     exact v_leave0 h0 h3 hT rfl _ (by first | exact .inr rfl | exact .inl rfl)
    ·
     rw [show doesT ⟨S, Q, p, o, u, false, ov⟩ 1 3 i = ⟨S, Q, (IntKind.i64.wrap (p - 1)), o, u, false, ov⟩ from by simp [doesT, headOff]]
     refine ⟨R, N, hR, hN, callW_own (c := c16) rfl rfl 0 ?_⟩
     rw [v_app, v_len]
     simp only [c16, start, List.replicate, c16_0, c16_1, c16_2, c16_3, c16_4, c16_5, c16_6, c16_7, c16_8, c16_9, c16_10, c16_11, c16_12, c16_13, c16_14, c16_15, c16_16, c16_17, c16_18, c16_19, c16_20, cl, v_bx, v_ld4, v_ld5, v_ld6, v_ld8, v_ld9, v_l0, v_l1, v_l2, v_l4, v_st6, v_st7, v_st8, v_st9, v_st10, v_clr, v_up1, v_up2, ap, x_region_ap, apR_t, e_clrmap, e_mapupd, Q122, Int.reduceBEq, Q0, Q1, Q2, Q3, Q4, Q5, Q6, Q7, Q8, Q9, Q10, Q11, Q12, Q13, Q14, Q15, Q16, Q17, Q18, Q19, Q20, Q21, Q22, Q23, Q24, Q25, Q26, Q27, Q28, Q29, Q30, Q31, Q32, Q33, Q35, Q36, Q37, Q38, Q39, Q40, Q41, Q42, Q43, Q44, Q45, Q46, Q47, Q48, Q49, Q50, Q51, Q52, Q53, Q54, Q55, Q56, Q57, Q58, Q59, Q60, Q61, Q62, Q63, Q64, Q65, Q66, Q67, Q68, Q69, Q70, Q71, Q72, Q73, Q99, Q100, Q101, Q102, Q103, Q74, Q75, Q77, Q78, Q79, Q80, Q81, Q82, Q83, Q84, clr, List.length_nil, List.length_cons, List.getElem?_cons_zero, List.getElem?_cons_succ, Nat.reduceAdd, Nat.zero_add, Nat.add_zero, Nat.reduceLeDiff, Nat.reduceSub, ↓reduceIte, List.drop_succ_cons, List.drop_zero, List.take_succ_cons, List.take_zero, Bool.false_eq_true, List.nil_append, List.cons_append, Bool.not_true, Bool.not_false, cond_true, cond_false, bne, Q85, Q86, Q87, Q88, Q89, Q90, Q91, Q92, Q93, Q94, Q95, Q96, Q97, Q98, Q110, Q111, Q116, Q117, Q118, Q119, Q120, Q121, Q122, Q123, Option.map_some, Option.map_none, hz]
     exact v_leave0 h0 h3 hT rfl _ (by first | exact .inr rfl | exact .inl rfl)
    ·
     rw [show doesT ⟨S, Q, p, o, u, true, ov⟩ 1 3 i = ⟨S, Q, (IntKind.i64.wrap (p - 1)), o, u, true, ov⟩ from by simp [doesT, headOff]]
     refine ⟨R, N, hR, hN, callW_own (c := c16) rfl rfl 0 ?_⟩
     rw [v_app, v_len]
     simp only [c16, start, List.replicate, c16_0, c16_1, c16_2, c16_3, c16_4, c16_5, c16_6, c16_7, c16_8, c16_9, c16_10, c16_11, c16_12, c16_13, c16_14, c16_15, c16_16, c16_17, c16_18, c16_19, c16_20, cl, v_bx, v_ld4, v_ld5, v_ld6, v_ld8, v_ld9, v_l0, v_l1, v_l2, v_l4, v_st6, v_st7, v_st8, v_st9, v_st10, v_clr, v_up1, v_up2, ap, x_region_ap, apR_t, e_clrmap, e_mapupd, Q122, Int.reduceBEq, Q0, Q1, Q2, Q3, Q4, Q5, Q6, Q7, Q8, Q9, Q10, Q11, Q12, Q13, Q14, Q15, Q16, Q17, Q18, Q19, Q20, Q21, Q22, Q23, Q24, Q25, Q26, Q27, Q28, Q29, Q30, Q31, Q32, Q33, Q35, Q36, Q37, Q38, Q39, Q40, Q41, Q42, Q43, Q44, Q45, Q46, Q47, Q48, Q49, Q50, Q51, Q52, Q53, Q54, Q55, Q56, Q57, Q58, Q59, Q60, Q61, Q62, Q63, Q64, Q65, Q66, Q67, Q68, Q69, Q70, Q71, Q72, Q73, Q99, Q100, Q101, Q102, Q103, Q74, Q75, Q77, Q78, Q79, Q80, Q81, Q82, Q83, Q84, clr, List.length_nil, List.length_cons, List.getElem?_cons_zero, List.getElem?_cons_succ, Nat.reduceAdd, Nat.zero_add, Nat.add_zero, Nat.reduceLeDiff, Nat.reduceSub, ↓reduceIte, List.drop_succ_cons, List.drop_zero, List.take_succ_cons, List.take_zero, Bool.false_eq_true, List.nil_append, List.cons_append, Bool.not_true, Bool.not_false, cond_true, cond_false, bne, Q85, Q86, Q87, Q88, Q89, Q90, Q91, Q92, Q93, Q94, Q95, Q96, Q97, Q98, Q110, Q111, Q116, Q117, Q118, Q119, Q120, Q121, Q122, Q123, Option.map_some, Option.map_none, hz]
     exact v_leave0 h0 h3 hT rfl _ (by first | exact .inr rfl | exact .inl rfl)
   ·cases hz : (IntKind.i64.wrap (p - 1) == 0) <;> cases hd
    ·
     rw [show doesT ⟨S, Q, p, o, u, false, ov⟩ 1 4 i = ⟨(i.b :: S), Q, (IntKind.i64.wrap (p - 1)), o, u, false, ov⟩ from by simp [doesT, headOff]]
     refine ⟨(upd (.int .i64 i.b) (.v (.bool true)) R), N, hR.add _, hN, callW_own (c := c16) rfl rfl 0 ?_⟩
     rw [v_app, v_len]
     simp only [c16, start, List.replicate, c16_0, c16_1, c16_2, c16_3, c16_4, c16_5, c16_6, c16_7, c16_8, c16_9, c16_10, c16_11, c16_12, c16_13, c16_14, c16_15, c16_16, c16_17, c16_18, c16_19, c16_20, cl, v_bx, v_ld4, v_ld5, v_ld6, v_ld8, v_ld9, v_l0, v_l1, v_l2, v_l4, v_st6, v_st7, v_st8, v_st9, v_st10, v_clr, v_up1, v_up2, ap, x_region_ap, apR_t, e_clrmap, e_mapupd, Q122, Int.reduceBEq, Q0, Q1, Q2, Q3, Q4, Q5, Q6, Q7, Q8, Q9, Q10, Q11, Q12, Q13, Q14, Q15, Q16, Q17, Q18, Q19, Q20, Q21, Q22, Q23, Q24, Q25, Q26, Q27, Q28, Q29, Q30, Q31, Q32, Q33, Q35, Q36, Q37, Q38, Q39, Q40, Q41, Q42, Q43, Q44, Q45, Q46, Q47, Q48, Q49, Q50, Q51, Q52, Q53, Q54, Q55, Q56, Q57, Q58, Q59, Q60, Q61, Q62, Q63, Q64, Q65, Q66, Q67, Q68, Q69, Q70, Q71, Q72, Q73, Q99, Q100, Q101, Q102, Q103, Q74, Q75, Q77, Q78, Q79, Q80, Q81, Q82, Q83, Q84, clr, List.length_nil, List.length_cons, List.getElem?_cons_zero, List.getElem?_cons_succ, Nat.reduceAdd, Nat.zero_add, Nat.add_zero, Nat.reduceLeDiff, Nat.reduceSub, ↓reduceIte, List.drop_succ_cons, List.drop_zero, List.take_succ_cons, List.take_zero, Bool.false_eq_true, List.nil_append, List.cons_append, Bool.not_true, Bool.not_false, cond_true, cond_false, bne, Q85, Q86, Q87, Q88, Q89, Q90, Q91, Q92, Q93, Q94, Q95, Q96, Q97, Q98, Q110, Q111, Q116, Q117, Q118, Q119, Q120, Q121, Q122, Q123, Option.map_some, Option.map_none, hz]
     exact v_leave0 h0 h3 hT rfl _ (by first | exact .inr rfl | exact .inl rfl)
    ·
     rw [show doesT ⟨S, Q, p, o, u, true, ov⟩ 1 4 i = ⟨(i.b :: S), Q, (IntKind.i64.wrap (p - 1)), o, u, true, ov⟩ from by simp [doesT, headOff]]
     refine ⟨(upd (.int .i64 i.b) (.v (.bool true)) R), N, hR.add _, hN, callW_own (c := c16) rfl rfl 0 ?_⟩
     rw [v_app, v_len]
     simp only [c16, start, List.replicate, c16_0, c16_1, c16_2, c16_3, c16_4, c16_5, c16_6, c16_7, c16_8, c16_9, c16_10, c16_11, c16_12, c16_13, c16_14, c16_15, c16_16, c16_17, c16_18, c16_19, c16_20, cl, v_bx, v_ld4, v_ld5, v_ld6, v_ld8, v_ld9, v_l0, v_l1, v_l2, v_l4, v_st6, v_st7, v_st8, v_st9, v_st10, v_clr, v_up1, v_up2, ap, x_region_ap, apR_t, e_clrmap, e_mapupd, Q122, Int.reduceBEq, Q0, Q1, Q2, Q3, Q4, Q5, Q6, Q7, Q8, Q9, Q10, Q11, Q12, Q13, Q14, Q15, Q16, Q17, Q18, Q19, Q20, Q21, Q22, Q23, Q24, Q25, Q26, Q27, Q28, Q29, Q30, Q31, Q32, Q33, Q35, Q36, Q37, Q38, Q39, Q40, Q41, Q42, Q43, Q44, Q45, Q46, Q47, Q48, Q49, Q50, Q51, Q52, Q53, Q54, Q55, Q56, Q57, Q58, Q59, Q60, Q61, Q62, Q63, Q64, Q65, Q66, Q67, Q68, Q69, Q70, Q71, Q72, Q73, Q99, Q100, Q101, Q102, Q103, Q74, Q75, Q77, Q78, Q79, Q80, Q81, Q82, Q83, Q84, clr, List.length_nil, List.length_cons, List.getElem?_cons_zero, List.getElem?_cons_succ, Nat.reduceAdd, Nat.zero_add, Nat.add_zero, Nat.reduceLeDiff, Nat.reduceSub, ↓reduceIte, List.drop_succ_cons, List.drop_zero, List.take_succ_cons, List.take_zero, Bool.false_eq_true, List.nil_append, List.cons_append, Bool.not_true, Bool.not_false, cond_true, cond_false, bne, Q85, Q86, Q87, Q88, Q89, Q90, Q91, Q92, Q93, Q94, Q95, Q96, Q97, Q98, Q110, Q111, Q116, Q117, Q118, Q119, Q120, Q121, Q122, Q123, Option.map_some, Option.map_none, hz]
     exact v_leave0 h0 h3 hT rfl _ (by first | exact .inr rfl | exact .inl rfl)
    ·
     rw [show doesT ⟨S, Q, p, o, u, false, ov⟩ 1 4 i = ⟨(i.b :: S), Q, (IntKind.i64.wrap (p - 1)), o, u, false, ov⟩ from by simp [doesT, headOff]]
     refine ⟨(upd (.int .i64 i.b) (.v (.bool true)) R), N, hR.add _, hN, callW_own (c := c16) rfl rfl 0 ?_⟩
     rw [v_app, v_len]
     simp only [c16, start, List.replicate, c16_0, c16_1, c16_2, c16_3, c16_4, c16_5, c16_6, c16_7, c16_8, c16_9, c16_10, c16_11, c16_12, c16_13, c16_14, c16_15, c16_16, c16_17, c16_18, c16_19, c16_20, cl, v_bx, v_ld4, v_ld5, v_ld6, v_ld8, v_ld9, v_l0, v_l1, v_l2, v_l4, v_st6, v_st7, v_st8, v_st9, v_st10, v_clr, v_up1, v_up2, ap, x_region_ap, apR_t, e_clrmap, e_mapupd, Q122, Int.reduceBEq, Q0, Q1, Q2, Q3, Q4, Q5, Q6, Q7, Q8, Q9, Q10, Q11, Q12, Q13, Q14, Q15, Q16, Q17, Q18, Q19, Q20, Q21, Q22, Q23, Q24, Q25, Q26, Q27, Q28, Q29, Q30, Q31, Q32, Q33, Q35, Q36, Q37, Q38, Q39, Q40, Q41, Q42, Q43, Q44, Q45, Q46, Q47, Q48, Q49, Q50, Q51, Q52, Q53, Q54, Q55, Q56, Q57, Q58, Q59, Q60, Q61, Q62, Q63, Q64, Q65, Q66, Q67, Q68, Q69, Q70, Q71, Q72, Q73, Q99, Q100, Q101, Q102, Q103, Q74, Q75, Q77, Q78, Q79, Q80, Q81, Q82, Q83, Q84, clr, List.length_nil, List.length_cons, List.getElem?_cons_zero, List.getElem?_cons_succ, Nat.reduceAdd, Nat.zero_add, Nat.add_zero, Nat.reduceLeDiff, Nat.reduceSub, ↓reduceIte, List.drop_succ_cons, List.drop_zero, List.take_succ_cons, List.take_zero, Bool.false_eq_true, List.nil_append, List.cons_append, Bool.not_true, Bool.not_false, cond_true, cond_false, bne, Q85, Q86, Q87, Q88, Q89, Q90, Q91, Q92, Q93, Q94, Q95, Q96, Q97, Q98, Q110, Q111, Q116, Q117, Q118, Q119, Q120, Q121, Q122, Q123, Option.map_some, Option.map_none, hz]
     exact v_leave0 h0 h3 hT rfl _ (by first | exact .inr rfl | exact .inl rfl)
    ·
     rw [show doesT ⟨S, Q, p, o, u, true, ov⟩ 1 4 i = ⟨(i.b :: S), Q, (IntKind.i64.wrap (p - 1)), o, u, true, ov⟩ from by simp [doesT, headOff]]
     refine ⟨(upd (.int .i64 i.b) (.v (.bool true)) R), N, hR.add _, hN, callW_own (c := c16) rfl rfl 0 ?_⟩
     rw [v_app, v_len]
     simp only [c16, start, List.replicate, c16_0, c16_1, c16_2, c16_3, c16_4, c16_5, c16_6, c16_7, c16_8, c16_9, c16_10, c16_11, c16_12, c16_13, c16_14, c16_15, c16_16, c16_17, c16_18, c16_19, c16_20, cl, v_bx, v_ld4, v_ld5, v_ld6, v_ld8, v_ld9, v_l0, v_l1, v_l2, v_l4, v_st6, v_st7, v_st8, v_st9, v_st10, v_clr, v_up1, v_up2, ap, x_region_ap, apR_t, e_clrmap, e_mapupd, Q122, Int.reduceBEq, Q0, Q1, Q2, Q3, Q4, Q5, Q6, Q7, Q8, Q9, Q10, Q11, Q12, Q13, Q14, Q15, Q16, Q17, Q18, Q19, Q20, Q21, Q22, Q23, Q24, Q25, Q26, Q27, Q28, Q29, Q30, Q31, Q32, Q33, Q35, Q36, Q37, Q38, Q39, Q40, Q41, Q42, Q43, Q44, Q45, Q46, Q47, Q48, Q49, Q50, Q51, Q52, Q53, Q54, Q55, Q56, Q57, Q58, Q59, Q60, Q61, Q62, Q63, Q64, Q65, Q66, Q67, Q68, Q69, Q70, Q71, Q72, Q73, Q99, Q100, Q101, Q102, Q103, Q74, Q75, Q77, Q78, Q79, Q80, Q81, Q82, Q83, Q84, clr, List.length_nil, List.length_cons, List.getElem?_cons_zero, List.getElem?_cons_succ, Nat.reduceAdd, Nat.zero_add, Nat.add_zero, Nat.reduceLeDiff, Nat.reduceSub, ↓reduceIte, List.drop_succ_cons, List.drop_zero, List.take_succ_cons, List.take_zero, Bool.false_eq_true, List.nil_append, List.cons_append, Bool.not_true, Bool.not_false, cond_true, cond_false, bne, Q85, Q86, Q87, Q88, Q89, Q90, Q91, Q92, Q93, Q94, Q95, Q96, Q97, Q98, Q110, Q111, Q116, Q117, Q118, Q119, Q120, Q121, Q122, Q123, Option.map_some, Option.map_none, hz]
     exact v_leave0 h0 h3 hT rfl _ (by first | exact .inr rfl | exact .inl rfl)
  ·rcases hk5 with rfl | rfl | rfl | rfl | rfl
   ·cases hd with
    | false =>
     rw [show doesT ⟨S, Q, p, o, u, false, ov⟩ 2 0 i = ⟨(i.a :: S), (i.b :: Q), p, o, u, false, ov⟩ from by simp [doesT, headOff]]
     refine ⟨(upd (.int .i64 i.a) (.v (.bool true))  R), (upd (.int .i64 i.b) (.v (.bool true)) N), hR.add _, hN.add _, callW_own (c := c16) rfl rfl 0 ?_⟩
     rw [v_app, v_len]
     simp only [c16, start, List.replicate, c16_0, c16_1, c16_2, c16_3, c16_4, c16_5, c16_6, c16_7, c16_8, c16_9, c16_10, c16_11, c16_12, c16_13, c16_14, c16_15, c16_16, c16_17, c16_18, c16_19, c16_20, cl, v_bx, v_ld4, v_ld5, v_ld6, v_ld8, v_ld9, v_l0, v_l1, v_l2, v_l4, v_st6, v_st7, v_st8, v_st9, v_st10, v_clr, v_up1, v_up2, ap, x_region_ap, apR_t, e_clrmap, e_mapupd, Q122, Int.reduceBEq, Q0, Q1, Q2, Q3, Q4, Q5, Q6, Q7, Q8, Q9, Q10, Q11, Q12, Q13, Q14, Q15, Q16, Q17, Q18, Q19, Q20, Q21, Q22, Q23, Q24, Q25, Q26, Q27, Q28, Q29, Q30, Q31, Q32, Q33, Q35, Q36, Q37, Q38, Q39, Q40, Q41, Q42, Q43, Q44, Q45, Q46, Q47, Q48, Q49, Q50, Q51, Q52, Q53, Q54, Q55, Q56, Q57, Q58, Q59, Q60, Q61, Q62, Q63, Q64, Q65, Q66, Q67, Q68, Q69, Q70, Q71, Q72, Q73, Q99, Q100, Q101, Q102, Q103, Q74, Q75, Q77, Q78, Q79, Q80, Q81, Q82, Q83, Q84, clr, List.length_nil, List.length_cons, List.getElem?_cons_zero, List.getElem?_cons_succ, Nat.reduceAdd, Nat.zero_add, Nat.add_zero, Nat.reduceLeDiff, Nat.reduceSub, ↓reduceIte, List.drop_succ_cons, List.drop_zero, List.take_succ_cons, List.take_zero, Bool.false_eq_true, List.nil_append, List.cons_append, Bool.not_true, Bool.not_false, cond_true, cond_false, bne, Q85, Q86, Q87, Q88, Q89, Q90, Q91, Q92, Q93, Q94, Q95, Q96, Q97, Q98, Q110, Q111, Q116, Q117, Q118, Q119, Q120, Q121, Q122, Q123, Option.map_some, Option.map_none]
     exact v_leave0 h0 h3 hT rfl _ (by first | exact .inr rfl | exact .inl rfl)
    | true =>
     rw [show doesT ⟨S, Q, p, o, u, true, ov⟩ 2 0 i = ⟨(i.a :: []), (i.b :: Q), p, o, u, false, ov⟩ from by simp [doesT, headOff]]
     refine ⟨(upd (.int .i64 i.a) (.v (.bool true))  (clrR R)), (upd (.int .i64 i.b) (.v (.bool true)) N), (Seen.clr _).add _, hN.add _, callW_own (c := c16) rfl rfl 0 ?_⟩
     rw [v_app, v_len]
     simp only [c16, start, List.replicate, c16_0, c16_1, c16_2, c16_3, c16_4, c16_5, c16_6, c16_7, c16_8, c16_9, c16_10, c16_11, c16_12, c16_13, c16_14, c16_15, c16_16, c16_17, c16_18, c16_19, c16_20, cl, v_bx, v_ld4, v_ld5, v_ld6, v_ld8, v_ld9, v_l0, v_l1, v_l2, v_l4, v_st6, v_st7, v_st8, v_st9, v_st10, v_clr, v_up1, v_up2, ap, x_region_ap, apR_t, e_clrmap, e_mapupd, Q122, Int.reduceBEq, Q0, Q1, Q2, Q3, Q4, Q5, Q6, Q7, Q8, Q9, Q10, Q11, Q12, Q13, Q14, Q15, Q16, Q17, Q18, Q19, Q20, Q21, Q22, Q23, Q24, Q25, Q26, Q27, Q28, Q29, Q30, Q31, Q32, Q33, Q35, Q36, Q37, Q38, Q39, Q40, Q41, Q42, Q43, Q44, Q45, Q46, Q47, Q48, Q49, Q50, Q51, Q52, Q53, Q54, Q55, Q56, Q57, Q58, Q59, Q60, Q61, Q62, Q63, Q64, Q65, Q66, Q67, Q68, Q69, Q70, Q71, Q72, Q73, Q99, Q100, Q101, Q102, Q103, Q74, Q75, Q77, Q78, Q79, Q80, Q81, Q82, Q83, Q84, clr, List.length_nil, List.length_cons, List.getElem?_cons_zero, List.getElem?_cons_succ, Nat.reduceAdd, Nat.zero_add, Nat.add_zero, Nat.reduceLeDiff, Nat.reduceSub, ↓reduceIte, List.drop_succ_cons, List.drop_zero, List.take_succ_cons, List.take_zero, Bool.false_eq_true, List.nil_append, List.cons_append, Bool.not_true, Bool.not_false, cond_true, cond_false, bne, Q85, Q86, Q87, Q88, Q89, Q90, Q91, Q92, Q93, Q94, Q95, Q96, Q97, Q98, Q110, Q111, Q116, Q117, Q118, Q119, Q120, Q121, Q122, Q123, Option.map_some, Option.map_none]
     exact v_leave0 h0 h3 hT rfl _ (by first | exact .inr rfl | exact .inl rfl)
   ·cases hd with
    | false =>
     rw [show doesT ⟨S, Q, p, o, u, false, ov⟩ 2 1 i = ⟨(i.a :: S), Q, p, o, u, false, ov⟩ from by simp [doesT, headOff]]
     refine ⟨(upd (.int .i64 i.a) (.v (.bool true))  R), N, hR.add _, hN, callW_own (c := c16) rfl rfl 0 ?_⟩
     rw [v_app, v_len]
     simp only [c16, start, List.replicate, c16_0, c16_1, c16_2, c16_3, c16_4, c16_5, c16_6, c16_7, c16_8, c16_9, c16_10, c16_11, c16_12, c16_13, c16_14, c16_15, c16_16, c16_17, c16_18, c16_19, c16_20, cl, v_bx, v_ld4, v_ld5, v_ld6, v_ld8, v_ld9, v_l0, v_l1, v_l2, v_l4, v_st6, v_st7, v_st8, v_st9, v_st10, v_clr, v_up1, v_up2, ap, x_region_ap, apR_t, e_clrmap, e_mapupd, Q122, Int.reduceBEq, Q0, Q1, Q2, Q3, Q4, Q5, Q6, Q7, Q8, Q9, Q10, Q11, Q12, Q13, Q14, Q15, Q16, Q17, Q18, Q19, Q20, Q21, Q22, Q23, Q24, Q25, Q26, Q27, Q28, Q29, Q30, Q31, Q32, Q33, Q35, Q36, Q37, Q38, Q39, Q40, Q41, Q42, Q43, Q44, Q45, Q46, Q47, Q48, Q49, Q50, Q51, Q52, Q53, Q54, Q55, Q56, Q57, Q58, Q59, Q60, Q61, Q62, Q63, Q64, Q65, Q66, Q67, Q68, Q69, Q70, Q71, Q72, Q73, Q99, Q100, Q101, Q102, Q103, Q74, Q75, Q77, Q78, Q79, Q80, Q81, Q82, Q83, Q84, clr, List.length_nil, List.length_cons, List.getElem?_cons_zero, List.getElem?_cons_succ, Nat.reduceAdd, Nat.zero_add, Nat.add_zero, Nat.reduceLeDiff, Nat.reduceSub, ↓reduceIte, List.drop_succ_cons, List.drop_zero, List.take_succ_cons, List.take_zero, Bool.false_eq_true, List.nil_append, List.cons_append, Bool.not_true, Bool.not_false, cond_true, cond_false, bne, Q85, Q86, Q87, Q88, Q89, Q90, Q91, Q92, Q93, Q94, Q95, Q96, Q97, Q98, Q110, Q111, Q116, Q117, Q118, Q119, Q120, Q121, Q122, Q123, Option.map_some, Option.map_none]
     exact v_leave0 h0 h3 hT rfl _ (by first | exact .inr rfl | exact .inl rfl)
    | true =>
     rw [show doesT ⟨S, Q, p, o, u, true, ov⟩ 2 1 i = ⟨(i.a :: []), Q, p, o, u, false, ov⟩ from by simp [doesT, headOff]]
     refine ⟨(upd (.int .i64 i.a) (.v (.bool true))  (clrR R)), N, (Seen.clr _).add _, hN, callW_own (c := c16) rfl rfl 0 ?_⟩
     rw [v_app, v_len]
     simp only [c16, start, List.replicate, c16_0, c16_1, c16_2, c16_3, c16_4, c16_5, c16_6, c16_7, c16_8, c16_9, c16_10, c16_11, c16_12, c16_13, c16_14, c16_15, c16_16, c16_17, c16_18, c16_19, c16_20, cl, v_bx, v_ld4, v_ld5, v_ld6, v_ld8, v_ld9, v_l0, v_l1, v_l2, v_l4, v_st6, v_st7, v_st8, v_st9, v_st10, v_clr, v_up1, v_up2, ap, x_region_ap, apR_t, e_clrmap, e_mapupd, Q122, Int.reduceBEq, Q0, Q1, Q2, Q3, Q4, Q5, Q6, Q7, Q8, Q9, Q10, Q11, Q12, Q13, Q14, Q15, Q16, Q17, Q18, Q19, Q20, Q21, Q22, Q23, Q24, Q25, Q26, Q27, Q28, Q29, Q30, Q31, Q32, Q33, Q35, Q36, Q37, Q38, Q39, Q40, Q41, Q42, Q43, Q44, Q45, Q46, Q47, Q48, Q49, Q50, Q51, Q52, Q53, Q54, Q55, Q56, Q57, Q58, Q59, Q60, Q61, Q62, Q63, Q64, Q65, Q66, Q67, Q68, Q69, Q70, Q71, Q72, Q73, Q99, Q100, Q101, Q102, Q103, Q74, Q75, Q77, Q78, Q79, Q80, Q81, Q82, Q83, Q84, clr, List.length_nil, List.length_cons, List.getElem?_cons_zero, List.getElem?_cons_succ, Nat.reduceAdd, Nat.zero_add, Nat.add_zero, Nat.reduceLeDiff, Nat.reduceSub, ↓reduceIte, List.drop_succ_cons, List.drop_zero, List.take_succ_cons, List.take_zero, Bool.false_eq_true, List.nil_append, List.cons_append, Bool.not_true, Bool.not_false, cond_true, cond_false, bne, Q85, Q86, Q87, Q88, Q89, Q90, Q91, Q92, Q93, Q94, Q95, Q96, Q97, Q98, Q110, Q111, Q116, Q117, Q118, Q119, Q120, Q121, Q122, Q123, Option.map_some, Option.map_none]
     exact v_leave0 h0 h3 hT rfl _ (by first | exact .inr rfl | exact .inl rfl)
   ·cases hd with
    | false =>
     rw [show doesT ⟨S, Q, p, o, u, false, ov⟩ 2 2 i = ⟨(i.a :: S), Q, p, o, u, false, ov⟩ from by simp [doesT, headOff]]
     refine ⟨(upd (.int .i64 i.a) (.v (.bool true))  R), N, hR.add _, hN, callW_own (c := c16) rfl rfl 0 ?_⟩
     rw [v_app, v_len]
     simp only [c16, start, List.replicate, c16_0, c16_1, c16_2, c16_3, c16_4, c16_5, c16_6, c16_7, c16_8, c16_9, c16_10, c16_11, c16_12, c16_13, c16_14, c16_15, c16_16, c16_17, c16_18, c16_19, c16_20, cl, v_bx, v_ld4, v_ld5, v_ld6, v_ld8, v_ld9, v_l0, v_l1, v_l2, v_l4, v_st6, v_st7, v_st8, v_st9, v_st10, v_clr, v_up1, v_up2, ap, x_region_ap, apR_t, e_clrmap, e_mapupd, Q122, Int.reduceBEq, Q0, Q1, Q2, Q3, Q4, Q5, Q6, Q7, Q8, Q9, Q10, Q11, Q12, Q13, Q14, Q15, Q16, Q17, Q18, Q19, Q20, Q21, Q22, Q23, Q24, Q25, Q26, Q27, Q28, Q29, Q30, Q31, Q32, Q33, Q35, Q36, Q37, Q38, Q39, Q40, Q41, Q42, Q43, Q44, Q45, Q46, Q47, Q48, Q49, Q50, Q51, Q52, Q53, Q54, Q55, Q56, Q57, Q58, Q59, Q60, Q61, Q62, Q63, Q64, Q65, Q66, Q67, Q68, Q69, Q70, Q71, Q72, Q73, Q99, Q100, Q101, Q102, Q103, Q74, Q75, Q77, Q78, Q79, Q80, Q81, Q82, Q83, Q84, clr, List.length_nil, List.length_cons, List.getElem?_cons_zero, List.getElem?_cons_succ, Nat.reduceAdd, Nat.zero_add, Nat.add_zero, Nat.reduceLeDiff, Nat.reduceSub, ↓reduceIte, List.drop_succ_cons, List.drop_zero, List.take_succ_cons, List.take_zero, Bool.false_eq_true, List.nil_append, List.cons_append, Bool.not_true, Bool.not_false, cond_true, cond_false, bne, Q85, Q86, Q87, Q88, Q89, Q90, Q91, Q92, Q93, Q94, Q95, Q96, Q97, Q98, Q110, Q111, Q116, Q117, Q118, Q119, Q120, Q121, Q122, Q123, Option.map_some, Option.map_none]
     exact v_leave0 h0 h3 hT rfl _ (by first | exact .inr rfl | exact .inl rfl)
    | true =>
     rw [show doesT ⟨S, Q, p, o, u, true, ov⟩ 2 2 i = ⟨(i.a :: []), Q, p, o, u, false, ov⟩ from by simp [doesT, headOff]]
     refine ⟨(upd (.int .i64 i.a) (.v (.bool true))  (clrR R)), N, (Seen.clr _).add _, hN, callW_own (c := c16) rfl rfl 0 ?_⟩
     rw [v_app, v_len]
     simp only [c16, start, List.replicate, c16_0, c16_1, c16_2, c16_3, c16_4, c16_5, c16_6, c16_7, c16_8, c16_9, c16_10, c16_11, c16_12, c16_13, c16_14, c16_15, c16_16, c16_17, c16_18, c16_19, c16_20, cl, v_bx, v_ld4, v_ld5, v_ld6, v_ld8, v_ld9, v_l0, v_l1, v_l2, v_l4, v_st6, v_st7, v_st8, v_st9, v_st10, v_clr, v_up1, v_up2, ap, x_region_ap, apR_t, e_clrmap, e_mapupd, Q122, Int.reduceBEq, Q0, Q1, Q2, Q3, Q4, Q5, Q6, Q7, Q8, Q9, Q10, Q11, Q12, Q13, Q14, Q15, Q16, Q17, Q18, Q19, Q20, Q21, Q22, Q23, Q24, Q25, Q26, Q27, Q28, Q29, Q30, Q31, Q32, Q33, Q35, Q36, Q37, Q38, Q39, Q40, Q41, Q42, Q43, Q44, Q45, Q46, Q47, Q48, Q49, Q50, Q51, Q52, Q53, Q54, Q55, Q56, Q57, Q58, Q59, Q60, Q61, Q62, Q63, Q64, Q65, Q66, Q67, Q68, Q69, Q70, Q71, Q72, Q73, Q99, Q100, Q101, Q102, Q103, Q74, Q75, Q77, Q78, Q79, Q80, Q81, Q82, Q83, Q84, clr, List.length_nil, List.length_cons, List.getElem?_cons_zero, List.getElem?_cons_succ, Nat.reduceAdd, Nat.zero_add, Nat.add_zero, Nat.reduceLeDiff, Nat.reduceSub, ↓reduceIte, List.drop_succ_cons, List.drop_zero, List.take_succ_cons, List.take_zero, Bool.false_eq_true, List.nil_append, List.cons_append, Bool.not_true, Bool.not_false, cond_true, cond_false, bne, Q85, Q86, Q87, Q88, Q89, Q90, Q91, Q92, Q93, Q94, Q95, Q96, Q97, Q98, Q110, Q111, Q116, Q117, Q118, Q119, Q120, Q121, Q122, Q123, Option.map_some, Option.map_none]
     exact v_leave0 h0 h3 hT rfl _ (by first | exact .inr rfl | exact .inl rfl)
   ·cases hd with
    | false =>
     rw [show doesT ⟨S, Q, p, o, u, false, ov⟩ 2 3 i = ⟨(i.a :: S), Q, p, o, u, false, ov⟩ from by simp [doesT, headOff]]
     refine ⟨(upd (.int .i64 i.a) (.v (.bool true))  R), N, hR.add _, hN, callW_own (c := c16) rfl rfl 0 ?_⟩
     rw [v_app, v_len]
     simp only [c16, start, List.replicate, c16_0, c16_1, c16_2, c16_3, c16_4, c16_5, c16_6, c16_7, c16_8, c16_9, c16_10, c16_11, c16_12, c16_13, c16_14, c16_15, c16_16, c16_17, c16_18, c16_19, c16_20, cl, v_bx, v_ld4, v_ld5, v_ld6, v_ld8, v_ld9, v_l0, v_l1, v_l2, v_l4, v_st6, v_st7, v_st8, v_st9, v_st10, v_clr, v_up1, v_up2, ap, x_region_ap, apR_t, e_clrmap, e_mapupd, Q122, Int.reduceBEq, Q0, Q1, Q2, Q3, Q4, Q5, Q6, Q7, Q8, Q9, Q10, Q11, Q12, Q13, Q14, Q15, Q16, Q17, Q18, Q19, Q20, Q21, Q22, Q23, Q24, Q25, Q26, Q27, Q28, Q29, Q30, Q31, Q32, Q33, Q35, Q36, Q37, Q38, Q39, Q40, Q41, Q42, Q43, Q44, Q45, Q46, Q47, Q48, Q49, Q50, Q51, Q52, Q53, Q54, Q55, Q56, Q57, Q58, Q59, Q60, Q61, Q62, Q63, Q64, Q65, Q66, Q67, Q68, Q69, Q70, Q71, Q72, Q73, Q99, Q100, Q101, Q102, Q103, Q74, Q75, Q77, Q78, Q79, Q80, Q81, Q82, Q83, Q84, clr, List.length_nil, List.length_cons, List.getElem?_cons_zero, List.getElem?_cons_succ, Nat.reduceAdd, Nat.zero_add, Nat.add_zero, Nat.reduceLeDiff, Nat.reduceSub, ↓reduceIte, List.drop_succ_cons, List.drop_zero, List.take_succ_cons, List.take_zero, Bool.false_eq_true, List.nil_append, List.cons_append, Bool.not_true, Bool.not_false, cond_true, cond_false, bne, Q85, Q86, Q87, Q88, Q89, Q90, Q91, Q92, Q93, Q94, Q95, Q96, Q97, Q98, Q110, Q111, Q116, Q117, Q118, Q119, Q120, Q121, Q122, Q123, Option.map_some, Option.map_none]
     exact v_leave0 h0 h3 hT rfl _ (by first | exact .inr rfl | exact .inl rfl)
    | true =>
     rw [show doesT ⟨S, Q, p, o, u, true, ov⟩ 2 3 i = ⟨(i.a :: []), Q, p, o, u, false, ov⟩ from by simp [doesT, headOff]]
     refine ⟨(upd (.int .i64 i.a) (.v (.bool true))  (clrR R)), N, (Seen.clr _).add _, hN, callW_own (c := c16) rfl rfl 0 ?_⟩
     rw [v_app, v_len]
     simp only [c16, start, List.replicate, c16_0, c16_1, c16_2, c16_3, c16_4, c16_5, c16_6, c16_7, c16_8, c16_9, c16_10, c16_11, c16_12, c16_13, c16_14, c16_15, c16_16, c16_17, c16_18, c16_19, c16_20, cl, v_bx, v_ld4, v_ld5, v_ld6, v_ld8, v_ld9, v_l0, v_l1, v_l2, v_l4, v_st6, v_st7, v_st8, v_st9, v_st10, v_clr, v_up1, v_up2, ap, x_region_ap, apR_t, e_clrmap, e_mapupd, Q122, Int.reduceBEq, Q0, Q1, Q2, Q3, Q4, Q5, Q6, Q7, Q8, Q9, Q10, Q11, Q12, Q13, Q14, Q15, Q16, Q17, Q18, Q19, Q20, Q21, Q22, Q23, Q24, Q25, Q26, Q27, Q28, Q29, Q30, Q31, Q32, Q33, Q35, Q36, Q37, Q38, Q39, Q40, Q41, Q42, Q43, Q44, Q45, Q46, Q47, Q48, Q49, Q50, Q51, Q52, Q53, Q54, Q55, Q56, Q57, Q58, Q59, Q60, Q61, Q62, Q63, Q64, Q65, Q66, Q67, Q68, Q69, Q70, Q71, Q72, Q73, Q99, Q100, Q101, Q102, Q103, Q74, Q75, Q77, Q78, Q79, Q80, Q81, Q82, Q83, Q84, clr, List.length_nil, List.length_cons, List.getElem?_cons_zero, List.getElem?_cons_succ, Nat.reduceAdd, Nat.zero_add, Nat.add_zero, Nat.reduceLeDiff, Nat.reduceSub, ↓reduceIte, List.drop_succ_cons, List.drop_zero, List.take_succ_cons, List.take_zero, Bool.false_eq_true, List.nil_append, List.cons_append, Bool.not_true, Bool.not_false, cond_true, cond_false, bne, Q85, Q86, Q87, Q88, Q89, Q90, Q91, Q92, Q93, Q94, Q95, Q96, Q97, Q98, Q110, Q111, Q116, Q117, Q118, Q119, Q120, Q121, Q122, Q123, Option.map_some, Option.map_none]
     exact v_leave0 h0 h3 hT rfl _ (by first | exact .inr rfl | exact .inl rfl)
   ·cases hd with
    | false =>
     rw [show doesT ⟨S, Q, p, o, u, false, ov⟩ 2 4 i = ⟨S, Q, i.n, 2, i.a, false, ov⟩ from by simp [doesT, headOff]]
     refine ⟨R, N, hR, hN, callW_own (c := c16) rfl rfl 0 ?_⟩
     rw [v_app, v_len]
     simp only [c16, start, List.replicate, c16_0, c16_1, c16_2, c16_3, c16_4, c16_5, c16_6, c16_7, c16_8, c16_9, c16_10, c16_11, c16_12, c16_13, c16_14, c16_15, c16_16, c16_17, c16_18, c16_19, c16_20, cl, v_bx, v_ld4, v_ld5, v_ld6, v_ld8, v_ld9, v_l0, v_l1, v_l2, v_l4, v_st6, v_st7, v_st8, v_st9, v_st10, v_clr, v_up1, v_up2, ap, x_region_ap, apR_t, e_clrmap, e_mapupd, Q122, Int.reduceBEq, Q0, Q1, Q2, Q3, Q4, Q5, Q6, Q7, Q8, Q9, Q10, Q11, Q12, Q13, Q14, Q15, Q16, Q17, Q18, Q19, Q20, Q21, Q22, Q23, Q24, Q25, Q26, Q27, Q28, Q29, Q30, Q31, Q32, Q33, Q35, Q36, Q37, Q38, Q39, Q40, Q41, Q42, Q43, Q44, Q45, Q46, Q47, Q48, Q49, Q50, Q51, Q52, Q53, Q54, Q55, Q56, Q57, Q58, Q59, Q60, Q61, Q62, Q63, Q64, Q65, Q66, Q67, Q68, Q69, Q70, Q71, Q72, Q73, Q99, Q100, Q101, Q102, Q103, Q74, Q75, Q77, Q78, Q79, Q80, Q81, Q82, Q83, Q84, clr, List.length_nil, List.length_cons, List.getElem?_cons_zero, List.getElem?_cons_succ, Nat.reduceAdd, Nat.zero_add, Nat.add_zero, Nat.reduceLeDiff, Nat.reduceSub, ↓reduceIte, List.drop_succ_cons, List.drop_zero, List.take_succ_cons, List.take_zero, Bool.false_eq_true, List.nil_append, List.cons_append, Bool.not_true, Bool.not_false, cond_true, cond_false, bne, Q85, Q86, Q87, Q88, Q89, Q90, Q91, Q92, Q93, Q94, Q95, Q96, Q97, Q98, Q110, Q111, Q116, Q117, Q118, Q119, Q120, Q121, Q122, Q123, Option.map_some, Option.map_none]
     exact v_leave0 h0 h3 hT rfl _ (by first | exact .inr rfl | exact .inl rfl)
    | true =>
     rw [show doesT ⟨S, Q, p, o, u, true, ov⟩ 2 4 i = ⟨[], Q, i.n, 2, i.a, false, ov⟩ from by simp [doesT, headOff]]
     refine ⟨clrR R, N, (Seen.clr _), hN, callW_own (c := c16) rfl rfl 0 ?_⟩
     rw [v_app, v_len]
     simp only [c16, start, List.replicate, c16_0, c16_1, c16_2, c16_3, c16_4, c16_5, c16_6, c16_7, c16_8, c16_9, c16_10, c16_11, c16_12, c16_13, c16_14, c16_15, c16_16, c16_17, c16_18, c16_19, c16_20, cl, v_bx, v_ld4, v_ld5, v_ld6, v_ld8, v_ld9, v_l0, v_l1, v_l2, v_l4, v_st6, v_st7, v_st8, v_st9, v_st10, v_clr, v_up1, v_up2, ap, x_region_ap, apR_t, e_clrmap, e_mapupd, Q122, Int.reduceBEq, Q0, Q1, Q2, Q3, Q4, Q5, Q6, Q7, Q8, Q9, Q10, Q11, Q12, Q13, Q14, Q15, Q16, Q17, Q18, Q19, Q20, Q21, Q22, Q23, Q24, Q25, Q26, Q27, Q28, Q29, Q30, Q31, Q32, Q33, Q35, Q36, Q37, Q38, Q39, Q40, Q41, Q42, Q43, Q44, Q45, Q46, Q47, Q48, Q49, Q50, Q51, Q52, Q53, Q54, Q55, Q56, Q57, Q58, Q59, Q60, Q61, Q62, Q63, Q64, Q65, Q66, Q67, Q68, Q69, Q70, Q71, Q72, Q73, Q99, Q100, Q101, Q102, Q103, Q74, Q75, Q77, Q78, Q79, Q80, Q81, Q82, Q83, Q84, clr, List.length_nil, List.length_cons, List.getElem?_cons_zero, List.getElem?_cons_succ, Nat.reduceAdd, Nat.zero_add, Nat.add_zero, Nat.reduceLeDiff, Nat.reduceSub, ↓reduceIte, List.drop_succ_cons, List.drop_zero, List.take_succ_cons, List.take_zero, Bool.false_eq_true, List.nil_append, List.cons_append, Bool.not_true, Bool.not_false, cond_true, cond_false, bne, Q85, Q86, Q87, Q88, Q89, Q90, Q91, Q92, Q93, Q94, Q95, Q96, Q97, Q98, Q110, Q111, Q116, Q117, Q118, Q119, Q120, Q121, Q122, Q123, Option.map_some, Option.map_none]
     exact v_leave0 h0 h3 hT rfl _ (by first | exact .inr rfl | exact .inl rfl)
  ·rcases hk5 with rfl | rfl | rfl | rfl | rfl
   ·by_cases hz' : IntKind.i64.wrap (p - 1) = 0
    ·have hz : (IntKind.i64.wrap (p - 1) == 0) = true := by simp [hz']
     cases hd with
     | false =>
      rw [show doesT ⟨S, Q, p, o, u, false, ov⟩ 3 0 i = ⟨(u :: S), (i.b :: Q), (IntKind.i64.wrap (p - 1)), o, u, false, ov⟩ from by simp [doesT, headOff, hz']]
      refine ⟨(upd (.int .i64 u) (.v (.bool true)) R), (upd (.int .i64 i.b) (.v (.bool true)) N), hR.add _, hN.add _, callW_own (c := c16) rfl rfl 0 ?_⟩
      rw [v_app, v_len]
      simp only [c16, start, List.replicate, c16_0, c16_1, c16_2, c16_3, c16_4, c16_5, c16_6, c16_7, c16_8, c16_9, c16_10, c16_11, c16_12, c16_13, c16_14, c16_15, c16_16, c16_17, c16_18, c16_19, c16_20, cl, v_bx, v_ld4, v_ld5, v_ld6, v_ld8, v_ld9, v_l0, v_l1, v_l2, v_l4, v_st6, v_st7, v_st8, v_st9, v_st10, v_clr, v_up1, v_up2, ap, x_region_ap, apR_t, e_clrmap, e_mapupd, Q122, Int.reduceBEq, Q0, Q1, Q2, Q3, Q4, Q5, Q6, Q7, Q8, Q9, Q10, Q11, Q12, Q13, Q14, Q15, Q16, Q17, Q18, Q19, Q20, Q21, Q22, Q23, Q24, Q25, Q26, Q27, Q28, Q29, Q30, Q31, Q32, Q33, Q35, Q36, Q37, Q38, Q39, Q40, Q41, Q42, Q43, Q44, Q45, Q46, Q47, Q48, Q49, Q50, Q51, Q52, Q53, Q54, Q55, Q56, Q57, Q58, Q59, Q60, Q61, Q62, Q63, Q64, Q65, Q66, Q67, Q68, Q69, Q70, Q71, Q72, Q73, Q99, Q100, Q101, Q102, Q103, Q74, Q75, Q77, Q78, Q79, Q80, Q81, Q82, Q83, Q84, clr, List.length_nil, List.length_cons, List.getElem?_cons_zero, List.getElem?_cons_succ, Nat.reduceAdd, Nat.zero_add, Nat.add_zero, Nat.reduceLeDiff, Nat.reduceSub, ↓reduceIte, List.drop_succ_cons, List.drop_zero, List.take_succ_cons, List.take_zero, Bool.false_eq_true, List.nil_append, List.cons_append, Bool.not_true, Bool.not_false, cond_true, cond_false, bne, Q85, Q86, Q87, Q88, Q89, Q90, Q91, Q92, Q93, Q94, Q95, Q96, Q97, Q98, Q110, Q111, Q116, Q117, Q118, Q119, Q120, Q121, Q122, Q123, Option.map_some, Option.map_none, hz]
      exact v_leave0 h0 h3 hT rfl _ (by first | exact .inr rfl | exact .inl rfl)
     | true =>
      rw [show doesT ⟨S, Q, p, o, u, true, ov⟩ 3 0 i = ⟨(u :: S), (i.b :: Q), (IntKind.i64.wrap (p - 1)), o, u, true, ov⟩ from by simp [doesT, headOff, hz']]
      refine ⟨(upd (.int .i64 u) (.v (.bool true)) R), (upd (.int .i64 i.b) (.v (.bool true)) N), hR.add _, hN.add _, callW_own (c := c16) rfl rfl 0 ?_⟩
      rw [v_app, v_len]
      simp only [c16, start, List.replicate, c16_0, c16_1, c16_2, c16_3, c16_4, c16_5, c16_6, c16_7, c16_8, c16_9, c16_10, c16_11, c16_12, c16_13, c16_14, c16_15, c16_16, c16_17, c16_18, c16_19, c16_20, cl, v_bx, v_ld4, v_ld5, v_ld6, v_ld8, v_ld9, v_l0, v_l1, v_l2, v_l4, v_st6, v_st7, v_st8, v_st9, v_st10, v_clr, v_up1, v_up2, ap, x_region_ap, apR_t, e_clrmap, e_mapupd, Q122, Int.reduceBEq, Q0, Q1, Q2, Q3, Q4, Q5, Q6, Q7, Q8, Q9, Q10, Q11, Q12, Q13, Q14, Q15, Q16, Q17, Q18, Q19, Q20, Q21, Q22, Q23, Q24, Q25, Q26, Q27, Q28, Q29, Q30, Q31, Q32, Q33, Q35, Q36, Q37, Q38, Q39, Q40, Q41, Q42, Q43, Q44, Q45, Q46, Q47, Q48, Q49, Q50, Q51, Q52, Q53, Q54, Q55, Q56, Q57, Q58, Q59, Q60, Q61, Q62, Q63, Q64, Q65, Q66, Q67, Q68, Q69, Q70, Q71, Q72, Q73, Q99, Q100, Q101, Q102, Q103, Q74, Q75, Q77, Q78, Q79, Q80, Q81, Q82, Q83, Q84, clr, List.length_nil, List.length_cons, List.getElem?_cons_zero, List.getElem?_cons_succ, Nat.reduceAdd, Nat.zero_add, Nat.add_zero, Nat.reduceLeDiff, Nat.reduceSub, ↓reduceIte, List.drop_succ_cons, List.drop_zero, List.take_succ_cons, List.take_zero, Bool.false_eq_true, List.nil_append, List.cons_append, Bool.not_true, Bool.not_false, cond_true, cond_false, bne, Q85, Q86, Q87, Q88, Q89, Q90, Q91, Q92, Q93, Q94, Q95, Q96, Q97, Q98, Q110, Q111, Q116, Q117, Q118, Q119, Q120, Q121, Q122, Q123, Option.map_some, Option.map_none, hz]
      exact v_leave0 h0 h3 hT rfl _ (by first | exact .inr rfl | exact .inl rfl)
    ·have hz : (IntKind.i64.wrap (p - 1) == 0) = false := by simp [hz']
     cases hd with
     | false =>
      rw [show doesT ⟨S, Q, p, o, u, false, ov⟩ 3 0 i = ⟨S, (i.b :: Q), (IntKind.i64.wrap (p - 1)), o, u, false, ov⟩ from by simp [doesT, headOff, hz']]
      refine ⟨R, (upd (.int .i64 i.b) (.v (.bool true)) N), hR, hN.add _, callW_own (c := c16) rfl rfl 0 ?_⟩
      rw [v_app, v_len]
      simp only [c16, start, List.replicate, c16_0, c16_1, c16_2, c16_3, c16_4, c16_5, c16_6, c16_7, c16_8, c16_9, c16_10, c16_11, c16_12, c16_13, c16_14, c16_15, c16_16, c16_17, c16_18, c16_19, c16_20, cl, v_bx, v_ld4, v_ld5, v_ld6, v_ld8, v_ld9, v_l0, v_l1, v_l2, v_l4, v_st6, v_st7, v_st8, v_st9, v_st10, v_clr, v_up1, v_up2, ap, x_region_ap, apR_t, e_clrmap, e_mapupd, Q122, Int.reduceBEq, Q0, Q1, Q2, Q3, Q4, Q5, Q6, Q7, Q8, Q9, Q10, Q11, Q12, Q13, Q14, Q15, Q16, Q17, Q18, Q19, Q20, Q21, Q22, Q23, Q24, Q25, Q26, Q27, Q28, Q29, Q30, Q31, Q32, Q33, Q35, Q36, Q37, Q38, Q39, Q40, Q41, Q42, Q43, Q44, Q45, Q46, Q47, Q48, Q49, Q50, Q51, Q52, Q53, Q54, Q55, Q56, Q57, Q58, Q59, Q60, Q61, Q62, Q63, Q64, Q65, Q66, Q67, Q68, Q69, Q70, Q71, Q72, Q73, Q99, Q100, Q101, Q102, Q103, Q74, Q75, Q77, Q78, Q79, Q80, Q81, Q82, Q83, Q84, clr, List.length_nil, List.length_cons, List.getElem?_cons_zero, List.getElem?_cons_succ, Nat.reduceAdd, Nat.zero_add, Nat.add_zero, Nat.reduceLeDiff, Nat.reduceSub, ↓reduceIte, List.drop_succ_cons, List.drop_zero, List.take_succ_cons, List.take_zero, Bool.false_eq_true, List.nil_append, List.cons_append, Bool.not_true, Bool.not_false, cond_true, cond_false, bne, Q85, Q86, Q87, Q88, Q89, Q90, Q91, Q92, Q93, Q94, Q95, Q96, Q97, Q98, Q110, Q111, Q116, Q117, Q118, Q119, Q120, Q121, Q122, Q123, Option.map_some, Option.map_none, hz]
      exact v_leave0 h0 h3 hT rfl _ (by first | exact .inr rfl | exact .inl rfl)
     | true =>
      rw [show doesT ⟨S, Q, p, o, u, true, ov⟩ 3 0 i = ⟨S, (i.b :: Q), (IntKind.i64.wrap (p - 1)), o, u, true, ov⟩ from by simp [doesT, headOff, hz']]
      refine ⟨R, (upd (.int .i64 i.b) (.v (.bool true)) N), hR, hN.add _, callW_own (c := c16) rfl rfl 0 ?_⟩
      rw [v_app, v_len]
      simp only [c16, start, List.replicate, c16_0, c16_1, c16_2, c16_3, c16_4, c16_5, c16_6, c16_7, c16_8, c16_9, c16_10, c16_11, c16_12, c16_13, c16_14, c16_15, c16_16, c16_17, c16_18, c16_19, c16_20, cl, v_bx, v_ld4, v_ld5, v_ld6, v_ld8, v_ld9, v_l0, v_l1, v_l2, v_l4, v_st6, v_st7, v_st8, v_st9, v_st10, v_clr, v_up1, v_up2, ap, x_region_ap, apR_t, e_clrmap, e_mapupd, Q122, Int.reduceBEq, Q0, Q1, Q2, Q3, Q4, Q5, Q6, Q7, Q8, Q9, Q10, Q11, Q12, Q13, Q14, Q15, Q16, Q17, Q18, Q19, Q20, Q21, Q22, Q23, Q24, Q25, Q26, Q27, Q28, Q29, Q30, Q31, Q32, Q33, Q35, Q36, Q37, Q38, Q39, Q40, Q41, Q42, Q43, Q44, Q45, Q46, Q47, Q48, Q49, Q50, Q51, Q52, Q53, Q54, Q55, Q56, Q57, Q58, Q59, Q60, Q61, Q62, Q63, Q64, Q65, Q66, Q67, Q68, Q69, Q70, Q71, Q72, Q73, Q99, Q100, Q101, Q102, Q103, Q74, Q75, Q77, Q78, Q79, Q80, Q81, Q82, Q83, Q84, clr, List.length_nil, List.length_cons, List.getElem?_cons_zero, List.getElem?_cons_succ, Nat.reduceAdd, Nat.zero_add, Nat.add_zero, Nat.reduceLeDiff, Nat.reduceSub, ↓reduceIte, List.drop_succ_cons, List.drop_zero, List.take_succ_cons, List.take_zero, Bool.false_eq_true, List.nil_append, List.cons_append, Bool.not_true, Bool.not_false, cond_true, cond_false, bne, Q85, Q86, Q87, Q88, Q89, Q90, Q91, Q92, Q93, Q94, Q95, Q96, Q97, Q98, Q110, Q111, Q116, Q117, Q118, Q119, Q120, Q121, Q122, Q123, Option.map_some, Option.map_none, hz]
      exact v_leave0 h0 h3 hT rfl _ (by first | exact .inr rfl | exact .inl rfl)
   ·by_cases hz' : IntKind.i64.wrap (p - 1) = 0
    ·have hz : (IntKind.i64.wrap (p - 1) == 0) = true := by simp [hz']
     cases hd with
     | false =>
      rw [show doesT ⟨S, Q, p, o, u, false, ov⟩ 3 1 i = ⟨(u :: S), Q, (IntKind.i64.wrap (p - 1)), o, u, false, ov⟩ from by simp [doesT, headOff, hz']]
      refine ⟨(upd (.int .i64 u) (.v (.bool true)) R), N, hR.add _, hN, callW_own (c := c16) rfl rfl 0 ?_⟩
      rw [v_app, v_len]
      simp only [c16, start, List.replicate, c16_0, c16_1, c16_2, c16_3, c16_4, c16_5, c16_6, c16_7, c16_8, c16_9, c16_10, c16_11, c16_12, c16_13, c16_14, c16_15, c16_16, c16_17, c16_18, c16_19, c16_20, cl, v_bx, v_ld4, v_ld5, v_ld6, v_ld8, v_ld9, v_l0, v_l1, v_l2, v_l4, v_st6, v_st7, v_st8, v_st9, v_st10, v_clr, v_up1, v_up2, ap, x_region_ap, apR_t, e_clrmap, e_mapupd, Q122, Int.reduceBEq, Q0, Q1, Q2, Q3, Q4, Q5, Q6, Q7, Q8, Q9, Q10, Q11, Q12, Q13, Q14, Q15, Q16, Q17, Q18, Q19, Q20, Q21, Q22, Q23, Q24, Q25, Q26, Q27, Q28, Q29, Q30, Q31, Q32, Q33, Q35, Q36, Q37, Q38, Q39, Q40, Q41, Q42, Q43, Q44, Q45, Q46, Q47, Q48, Q49, Q50, Q51, Q52, Q53, Q54, Q55, Q56, Q57, Q58, Q59, Q60, Q61, Q62, Q63, Q64, Q65, Q66, Q67, Q68, Q69, Q70, Q71, Q72, Q73, Q99, Q100, Q101, Q102, Q103, Q74, Q75, Q77, Q78, Q79, Q80, Q81, Q82, Q83, Q84, clr, List.length_nil, List.length_cons, List.getElem?_cons_zero, List.getElem?_cons_succ, Nat.reduceAdd, Nat.zero_add, Nat.add_zero, Nat.reduceLeDiff, Nat.reduceSub, ↓reduceIte, List.drop_succ_cons, List.drop_zero, List.take_succ_cons, List.take_zero, Bool.false_eq_true, List.nil_append, List.cons_append, Bool.not_true, Bool.not_false, cond_true, cond_false, bne, Q85, Q86, Q87, Q88, Q89, Q90, Q91, Q92, Q93, Q94, Q95, Q96, Q97, Q98, Q110, Q111, Q116, Q117, Q118, Q119, Q120, Q121, Q122, Q123, Option.map_some, Option.map_none, hz]
      exact v_leave0 h0 h3 hT rfl _ (by first | exact .inr rfl | exact .inl rfl)
     | true =>
      rw [show doesT ⟨S, Q, p, o, u, true, ov⟩ 3 1 i = ⟨(u :: S), Q, (IntKind.i64.wrap (p - 1)), o, u, true, ov⟩ from by simp [doesT, headOff, hz']]
      refine ⟨(upd (.int .i64 u) (.v (.bool true)) R), N, hR.add _, hN, callW_own (c := c16) rfl rfl 0 ?_⟩
      rw [v_app, v_len]
      simp only [c16, start, List.replicate, c16_0, c16_1, c16_2, c16_3, c16_4, c16_5, c16_6, c16_7, c16_8, c16_9, c16_10, c16_11, c16_12, c16_13, c16_14, c16_15, c16_16, c16_17, c16_18, c16_19, c16_20, cl, v_bx, v_ld4, v_ld5, v_ld6, v_ld8, v_ld9, v_l0, v_l1, v_l2, v_l4, v_st6, v_st7, v_st8, v_st9, v_st10, v_clr, v_up1, v_up2, ap, x_region_ap, apR_t, e_clrmap, e_mapupd, Q122, Int.reduceBEq, Q0, Q1, Q2, Q3, Q4, Q5, Q6, Q7, Q8, Q9, Q10, Q11, Q12, Q13, Q14, Q15, Q16, Q17, Q18, Q19, Q20, Q21, Q22, Q23, Q24, Q25, Q26, Q27, Q28, Q29, Q30, Q31, Q32, Q33, Q35, Q36, Q37, Q38, Q39, Q40, Q41, Q42, Q43, Q44, Q45, Q46, Q47, Q48, Q49, Q50, Q51, Q52, Q53, Q54, Q55, Q56, Q57, Q58, Q59, Q60, Q61, Q62, Q63, Q64, Q65, Q66, Q67, Q68, Q69, Q70, Q71, Q72, Q73, Q99, Q100, Q101, Q102, Q103, Q74, Q75, Q77, Q78, Q79, Q80, Q81, Q82, Q83, Q84, clr, List.length_nil, List.length_cons, List.getElem?_cons_zero, List.getElem?_cons_succ, Nat.reduceAdd, Nat.zero_add, Nat.add_zero, Nat.reduceLeDiff, Nat.reduceSub, ↓reduceIte, List.drop_succ_cons, List.drop_zero, List.take_succ_cons, List.take_zero, Bool.false_eq_true, List.nil_append, List.cons_append, Bool.not_true, Bool.not_false, cond_true, cond_false, bne, Q85, Q86, Q87, Q88, Q89, Q90, Q91, Q92, Q93, Q94, Q95, Q96, Q97, Q98, Q110, Q111, Q116, Q117, Q118, Q119, Q120, Q121, Q122, Q123, Option.map_some, Option.map_none, hz]
      exact v_leave0 h0 h3 hT rfl _ (by first | exact .inr rfl | exact .inl rfl)
    ·have hz : (IntKind.i64.wrap (p - 1) == 0) = false := by simp [hz']
     cases hd with
     | false =>
      rw [show doesT ⟨S, Q, p, o, u, false, ov⟩ 3 1 i = ⟨S, Q, (IntKind.i64.wrap (p - 1)), o, u, false, ov⟩ from by simp [doesT, headOff, hz']]
      refine ⟨R, N, hR, hN, callW_own (c := c16) rfl rfl 0 ?_⟩
      rw [v_app, v_len]
      simp only [c16, start, List.replicate, c16_0, c16_1, c16_2, c16_3, c16_4, c16_5, c16_6, c16_7, c16_8, c16_9, c16_10, c16_11, c16_12, c16_13, c16_14, c16_15, c16_16, c16_17, c16_18, c16_19, c16_20, cl, v_bx, v_ld4, v_ld5, v_ld6, v_ld8, v_ld9, v_l0, v_l1, v_l2, v_l4, v_st6, v_st7, v_st8, v_st9, v_st10, v_clr, v_up1, v_up2, ap, x_region_ap, apR_t, e_clrmap, e_mapupd, Q122, Int.reduceBEq, Q0, Q1, Q2, Q3, Q4, Q5, Q6, Q7, Q8, Q9, Q10, Q11, Q12, Q13, Q14, Q15, Q16, Q17, Q18, Q19, Q20, Q21, Q22, Q23, Q24, Q25, Q26, Q27, Q28, Q29, Q30, Q31, Q32, Q33, Q35, Q36, Q37, Q38, Q39, Q40, Q41, Q42, Q43, Q44, Q45, Q46, Q47, Q48, Q49, Q50, Q51, Q52, Q53, Q54, Q55, Q56, Q57, Q58, Q59, Q60, Q61, Q62, Q63, Q64, Q65, Q66, Q67, Q68, Q69, Q70, Q71, Q72, Q73, Q99, Q100, Q101, Q102, Q103, Q74, Q75, Q77, Q78, Q79, Q80, Q81, Q82, Q83, Q84, clr, List.length_nil, List.length_cons, List.getElem?_cons_zero, List.getElem?_cons_succ, Nat.reduceAdd, Nat.zero_add, Nat.add_zero, Nat.reduceLeDiff, Nat.reduceSub, ↓reduceIte, List.drop_succ_cons, List.drop_zero, List.take_succ_cons, List.take_zero, Bool.false_eq_true, List.nil_append, List.cons_append, Bool.not_true, Bool.not_false, cond_true, cond_false, bne, Q85, Q86, Q87, Q88, Q89, Q90, Q91, Q92, Q93, Q94, Q95, Q96, Q97, Q98, Q110, Q111, Q116, Q117, Q118, Q119, Q120, Q121, Q122, Q123, Option.map_some, Option.map_none, hz]
      exact v_leave0 h0 h3 hT rfl _ (by first | exact .inr rfl | exact .inl rfl)
     | true =>
      rw [show doesT ⟨S, Q, p, o, u, true, ov⟩ 3 1 i = ⟨S, Q, (IntKind.i64.wrap (p - 1)), o, u, true, ov⟩ from by simp [doesT, headOff, hz']]
      refine ⟨R, N, hR, hN, callW_own (c := c16) rfl rfl 0 ?_⟩
      rw [v_app, v_len]
      simp only [c16, start, List.replicate, c16_0, c16_1, c16_2, c16_3, c16_4, c16_5, c16_6, c16_7, c16_8, c16_9, c16_10, c16_11, c16_12, c16_13, c16_14, c16_15, c16_16, c16_17, c16_18, c16_19, c16_20, cl, v_bx, v_ld4, v_ld5, v_ld6, v_ld8, v_ld9, v_l0, v_l1, v_l2, v_l4, v_st6, v_st7, v_st8, v_st9, v_st10, v_clr, v_up1, v_up2, ap, x_region_ap, apR_t, e_clrmap, e_mapupd, Q122, Int.reduceBEq, Q0, Q1, Q2, Q3, Q4, Q5, Q6, Q7, Q8, Q9, Q10, Q11, Q12, Q13, Q14, Q15, Q16, Q17, Q18, Q19, Q20, Q21, Q22, Q23, Q24, Q25, Q26, Q27, Q28, Q29, Q30, Q31, Q32, Q33, Q35, Q36, Q37, Q38, Q39, Q40, Q41, Q42, Q43, Q44, Q45, Q46, Q47, Q48, Q49, Q50, Q51, Q52, Q53, Q54, Q55, Q56, Q57, Q58, Q59, Q60, Q61, Q62, Q63, Q64, Q65, Q66, Q67, Q68, Q69, Q70, Q71, Q72, Q73, Q99, Q100, Q101, Q102, Q103, Q74, Q75, Q77, Q78, Q79, Q80, Q81, Q82, Q83, Q84, clr, List.length_nil, List.length_cons, List.getElem?_cons_zero, List.getElem?_cons_succ, Nat.reduceAdd, Nat.zero_add, Nat.add_zero, Nat.reduceLeDiff, Nat.reduceSub, ↓reduceIte, List.drop_succ_cons, List.drop_zero, List.take_succ_cons, List.take_zero, Bool.false_eq_true, List.nil_append, List.cons_append, Bool.not_true, Bool.not_false, cond_true, cond_false, bne, Q85, Q86, Q87, Q88, Q89, Q90, Q91, Q92, Q93, Q94, Q95, Q96, Q97, Q98, Q110, Q111, Q116, Q117, Q118, Q119, Q120, Q121, Q122, Q123, Option.map_some, Option.map_none, hz]
      exact v_leave0 h0 h3 hT rfl _ (by first | exact .inr rfl | exact .inl rfl)
   ·by_cases hz' : IntKind.i64.wrap (p - 1) = 0
    ·have hz : (IntKind.i64.wrap (p - 1) == 0) = true := by simp [hz']
     cases hd with
     | false =>
      rw [show doesT ⟨S, Q, p, o, u, false, ov⟩ 3 2 i = ⟨(u :: S), Q, (IntKind.i64.wrap (p - 1)), o, u, false, ov⟩ from by simp [doesT, headOff, hz']]
      refine ⟨(upd (.int .i64 u) (.v (.bool true)) R), N, hR.add _, hN, callW_own (c := c16) rfl rfl 0 ?_⟩
      rw [v_app, v_len]
      simp only [c16, start, List.replicate, c16_0, c16_1, c16_2, c16_3, c16_4, c16_5, c16_6, c16_7, c16_8, c16_9, c16_10, c16_11, c16_12, c16_13, c16_14, c16_15, c16_16, c16_17, c16_18, c16_19, c16_20, cl, v_bx, v_ld4, v_ld5, v_ld6, v_ld8, v_ld9, v_l0, v_l1, v_l2, v_l4, v_st6, v_st7, v_st8, v_st9, v_st10, v_clr, v_up1, v_up2, ap, x_region_ap, apR_t, e_clrmap, e_mapupd, Q122, Int.reduceBEq, Q0, Q1, Q2, Q3, Q4, Q5, Q6, Q7, Q8, Q9, Q10, Q11, Q12, Q13, Q14, Q15, Q16, Q17, Q18, Q19, Q20, Q21, Q22, Q23, Q24, Q25, Q26, Q27, Q28, Q29, Q30, Q31, Q32, Q33, Q35, Q36, Q37, Q38, Q39, Q40, Q41, Q42, Q43, Q44, Q45, Q46, Q47, Q48, Q49, Q50, Q51, Q52, Q53, Q54, Q55, Q56, Q57, Q58, Q59, Q60, Q61, Q62, Q63, Q64, Q65, Q66, Q67, Q68, Q69, Q70, Q71, Q72, Q73, Q99, Q100, Q101, Q102, Q103, Q74, Q75, Q77, Q78, Q79, Q80, Q81, Q82, Q83, Q84, clr, List.length_nil, List.length_cons, List.getElem?_cons_zero, List.getElem?_cons_succ, Nat.reduceAdd, Nat.zero_add, Nat.add_zero, Nat.reduceLeDiff, Nat.reduceSub, ↓reduceIte, List.drop_succ_cons, List.drop_zero, List.take_succ_cons, List.take_zero, Bool.false_eq_true, List.nil_append, List.cons_append, Bool.not_true, Bool.not_false, cond_true, cond_false, bne, Q85, Q86, Q87, Q88, Q89, Q90, Q91, Q92, Q93, Q94, Q95, Q96, Q97, Q98, Q110, Q111, Q116, Q117, Q118, Q119, Q120, Q121, Q122, Q123, Option.map_some, Option.map_none, hz]
      exact v_leave0 h0 h3 hT rfl _ (by first | exact .inr rfl | exact .inl rfl)
     | true =>
      rw [show doesT ⟨S, Q, p, o, u, true, ov⟩ 3 2 i = ⟨(u :: S), Q, (IntKind.i64.wrap (p - 1)), o, u, true, ov⟩ from by simp [doesT, headOff, hz']]
      refine ⟨(upd (.int .i64 u) (.v (.bool true)) R), N, hR.add _, hN, callW_own (c := c16) rfl rfl 0 ?_⟩
      rw [v_app, v_len]
      simp only [c16, start, List.replicate, c16_0, c16_1, c16_2, c16_3, c16_4, c16_5, c16_6, c16_7, c16_8, c16_9, c16_10, c16_11, c16_12, c16_13, c16_14, c16_15, c16_16, c16_17, c16_18, c16_19, c16_20, cl, v_bx, v_ld4, v_ld5, v_ld6, v_ld8, v_ld9, v_l0, v_l1, v_l2, v_l4, v_st6, v_st7, v_st8, v_st9, v_st10, v_clr, v_up1, v_up2, ap, x_region_ap, apR_t, e_clrmap, e_mapupd, Q122, Int.reduceBEq, Q0, Q1, Q2, Q3, Q4, Q5, Q6, Q7, Q8, Q9, Q10, Q11, Q12, Q13, Q14, Q15, Q16, Q17, Q18, Q19, Q20, Q21, Q22, Q23, Q24, Q25, Q26, Q27, Q28, Q29, Q30, Q31, Q32, Q33, Q35, Q36, Q37, Q38, Q39, Q40, Q41, Q42, Q43, Q44, Q45, Q46, Q47, Q48, Q49, Q50, Q51, Q52, Q53, Q54, Q55, Q56, Q57, Q58, Q59, Q60, Q61, Q62, Q63, Q64, Q65, Q66, Q67, Q68, Q69, Q70, Q71, Q72, Q73, Q99, Q100, Q101, Q102, Q103, Q74, Q75, Q77, Q78, Q79, Q80, Q81, Q82, Q83, Q84, clr, List.length_nil, List.length_cons, List.getElem?_cons_zero, List.getElem?_cons_succ, Nat.reduceAdd, Nat.zero_add, Nat.add_zero, Nat.reduceLeDiff, Nat.reduceSub, ↓reduceIte, List.drop_succ_cons, List.drop_zero, List.take_succ_cons, List.take_zero, Bool.false_eq_true, List.nil_append, List.cons_append, Bool.not_true, Bool.not_false, cond_true, cond_false, bne, Q85, Q86, Q87, Q88, Q89, Q90, Q91, Q92, Q93, Q94, Q95, Q96, Q97, Q98, Q110, Q111, Q116, Q117, Q118, Q119, Q120, Q121, Q122, Q123, Option.map_some, Option.map_none, hz]
      exact v_leave0 h0 h3 hT rfl _ (by first | exact .inr rfl | exact .inl rfl)
    ·have hz : (IntKind.i64.wrap (p - 1) == 0) = false := by simp [hz']
     cases hd with
     | false =>
      rw [show doesT ⟨S, Q, p, o, u, false, ov⟩ 3 2 i = ⟨S, Q, (IntKind.i64.wrap (p - 1)), o, u, false, ov⟩ from by simp [doesT, headOff, hz']]
      refine ⟨R, N, hR, hN, callW_own (c := c16) rfl rfl 0 ?_⟩
      rw [v_app, v_len]
      simp only [c16, start, List.replicate, c16_0, c16_1, c16_2, c16_3, c16_4, c16_5, c16_6, c16_7, c16_8, c16_9, c16_10, c16_11, c16_12, c16_13, c16_14, c16_15, c16_16, c16_17, c16_18, c16_19, c16_20, cl, v_bx, v_ld4, v_ld5, v_ld6, v_ld8, v_ld9, v_l0, v_l1, v_l2, v_l4, v_st6, v_st7, v_st8, v_st9, v_st10, v_clr, v_up1, v_up2, ap, x_region_ap, apR_t, e_clrmap, e_mapupd, Q122, Int.reduceBEq, Q0, Q1, Q2, Q3, Q4, Q5, Q6, Q7, Q8, Q9, Q10, Q11, Q12, Q13, Q14, Q15, Q16, Q17, Q18, Q19, Q20, Q21, Q22, Q23, Q24, Q25, Q26, Q27, Q28, Q29, Q30, Q31, Q32, Q33, Q35, Q36, Q37, Q38, Q39, Q40, Q41, Q42, Q43, Q44, Q45, Q46, Q47, Q48, Q49, Q50, Q51, Q52, Q53, Q54, Q55, Q56, Q57, Q58, Q59, Q60, Q61, Q62, Q63, Q64, Q65, Q66, Q67, Q68, Q69, Q70, Q71, Q72, Q73, Q99, Q100, Q101, Q102, Q103, Q74, Q75, Q77, Q78, Q79, Q80, Q81, Q82, Q83, Q84, clr, List.length_nil, List.length_cons, List.getElem?_cons_zero, List.getElem?_cons_succ, Nat.reduceAdd, Nat.zero_add, Nat.add_zero, Nat.reduceLeDiff, Nat.reduceSub, ↓reduceIte, List.drop_succ_cons, List.drop_zero, List.take_succ_cons, List.take_zero, Bool.false_eq_true, List.nil_append, List.cons_append, Bool.not_true, Bool.not_false, cond_true, cond_false, bne, Q85, Q86, Q87, Q88, Q89, Q90, Q91, Q92, Q93, Q94, Q95, Q96, Q97, Q98, Q110, Q111, Q116, Q117, Q118, Q119, Q120, Q121, Q122, Q123, Option.map_some, Option.map_none, hz]
      exact v_leave0 h0 h3 hT rfl _ (by first | exact .inr rfl | exact .inl rfl)
     | true =>
      rw [show doesT ⟨S, Q, p, o, u, true, ov⟩ 3 2 i = ⟨S, Q, (IntKind.i64.wrap (p - 1)), o, u, true, ov⟩ from by simp [doesT, headOff, hz']]
      refine ⟨R, N, hR, hN, callW_own (c := c16) rfl rfl 0 ?_⟩
      rw [v_app, v_len]
      simp only [c16, start, List.replicate, c16_0, c16_1, c16_2, c16_3, c16_4, c16_5, c16_6, c16_7, c16_8, c16_9, c16_10, c16_11, c16_12, c16_13, c16_14, c16_15, c16_16, c16_17, c16_18, c16_19, c16_20, cl, v_bx, v_ld4, v_ld5, v_ld6, v_ld8, v_ld9, v_l0, v_l1, v_l2, v_l4, v_st6, v_st7, v_st8, v_st9, v_st10, v_clr, v_up1, v_up2, ap, x_region_ap, apR_t, e_clrmap, e_mapupd, Q122, Int.reduceBEq, Q0, Q1, Q2, Q3, Q4, Q5, Q6, Q7, Q8, Q9, Q10, Q11, Q12, Q13, Q14, Q15, Q16, Q17, Q18, Q19, Q20, Q21, Q22, Q23, Q24, Q25, Q26, Q27, Q28, Q29, Q30, Q31, Q32, Q33, Q35, Q36, Q37, Q38, Q39, Q40, Q41, Q42, Q43, Q44, Q45, Q46, Q47, Q48, Q49, Q50, Q51, Q52, Q53, Q54, Q55, Q56, Q57, Q58, Q59, Q60, Q61, Q62, Q63, Q64, Q65, Q66, Q67, Q68, Q69, Q70, Q71, Q72, Q73, Q99, Q100, Q101, Q102, Q103, Q74, Q75, Q77, Q78, Q79, Q80, Q81, Q82, Q83, Q84, clr, List.length_nil, List.length_cons, List.getElem?_cons_zero, List.getElem?_cons_succ, Nat.reduceAdd, Nat.zero_add, Nat.add_zero, Nat.reduceLeDiff, Nat.reduceSub, ↓reduceIte, List.drop_succ_cons, List.drop_zero, List.take_succ_cons, List.take_zero, Bool.false_eq_true, List.nil_append, List.cons_append, Bool.not_true, Bool.not_false, cond_true, cond_false, bne, Q85, Q86, Q87, Q88, Q89, Q90, Q91, Q92, Q93, Q94, Q95, Q96, Q97, Q98, Q110, Q111, Q116, Q117, Q118, Q119, Q120, Q121, Q122, Q123, Option.map_some, Option.map_none, hz]
      exact v_leave0 h0 h3 hT rfl _ (by first | exact .inr rfl | exact .inl rfl)
   ·by_cases hz' : IntKind.i64.wrap (p - 1) = 0
    ·have hz : (IntKind.i64.wrap (p - 1) == 0) = true := by simp [hz']
     cases hd with
     | false =>
      rw [show doesT ⟨S, Q, p, o, u, false, ov⟩ 3 3 i = ⟨(u :: S), Q, (IntKind.i64.wrap (p - 1)), o, u, false, ov⟩ from by simp [doesT, headOff, hz']]
      refine ⟨(upd (.int .i64 u) (.v (.bool true)) R), N, hR.add _, hN, callW_own (c := c16) rfl rfl 0 ?_⟩
      rw [v_app, v_len]
      simp only [c16, start, List.replicate, c16_0, c16_1, c16_2, c16_3, c16_4, c16_5, c16_6, c16_7, c16_8, c16_9, c16_10, c16_11, c16_12, c16_13, c16_14, c16_15, c16_16, c16_17, c16_18, c16_19, c16_20, cl, v_bx, v_ld4, v_ld5, v_ld6, v_ld8, v_ld9, v_l0, v_l1, v_l2, v_l4, v_st6, v_st7, v_st8, v_st9, v_st10, v_clr, v_up1, v_up2, ap, x_region_ap, apR_t, e_clrmap, e_mapupd, Q122, Int.reduceBEq, Q0, Q1, Q2, Q3, Q4, Q5, Q6, Q7, Q8, Q9, Q10, Q11, Q12, Q13, Q14, Q15, Q16, Q17, Q18, Q19, Q20, Q21, Q22, Q23, Q24, Q25, Q26, Q27, Q28, Q29, Q30, Q31, Q32, Q33, Q35, Q36, Q37, Q38, Q39, Q40, Q41, Q42, Q43, Q44, Q45, Q46, Q47, Q48, Q49, Q50, Q51, Q52, Q53, Q54, Q55, Q56, Q57, Q58, Q59, Q60, Q61, Q62, Q63, Q64, Q65, Q66, Q67, Q68, Q69, Q70, Q71, Q72, Q73, Q99, Q100, Q101, Q102, Q103, Q74, Q75, Q77, Q78, Q79, Q80, Q81, Q82, Q83, Q84, clr, List.length_nil, List.length_cons, List.getElem?_cons_zero, List.getElem?_cons_succ, Nat.reduceAdd, Nat.zero_add, Nat.add_zero, Nat.reduceLeDiff, Nat.reduceSub, ↓reduceIte, List.drop_succ_cons, List.drop_zero, List.take_succ_cons, List.take_zero, Bool.false_eq_true, List.nil_append, List.cons_append, Bool.not_true, Bool.not_false, cond_true, cond_false, bne, Q85, Q86, Q87, Q88, Q89, Q90, Q91, Q92, Q93, Q94, Q95, Q96, Q97, Q98, Q110, Q111, Q116, Q117, Q118, Q119, Q120, Q121, Q122, Q123, Option.map_some, Option.map_none, hz]
      exact v_leave0 h0 h3 hT rfl _ (by first | exact .inr rfl | exact .inl rfl)
     | true =>
      rw [show doesT ⟨S, Q, p, o, u, true, ov⟩ 3 3 i = ⟨(u :: S), Q, (IntKind.i64.wrap (p - 1)), o, u, true, ov⟩ from by simp [doesT, headOff, hz']]
      refine ⟨(upd (.int .i64 u) (.v (.bool true)) R), N, hR.add _, hN, callW_own (c := c16) rfl rfl 0 ?_⟩
      rw [v_app, v_len]
      simp only [c16, start, List.replicate, c16_0, c16_1, c16_2, c16_3, c16_4, c16_5, c16_6, c16_7, c16_8, c16_9, c16_10, c16_11, c16_12, c16_13, c16_14, c16_15, c16_16, c16_17, c16_18, c16_19, c16_20, cl, v_bx, v_ld4, v_ld5, v_ld6, v_ld8, v_ld9, v_l0, v_l1, v_l2, v_l4, v_st6, v_st7, v_st8, v_st9, v_st10, v_clr, v_up1, v_up2, ap, x_region_ap, apR_t, e_clrmap, e_mapupd, Q122, Int.reduceBEq, Q0, Q1, Q2, Q3, Q4, Q5, Q6, Q7, Q8, Q9, Q10, Q11, Q12, Q13, Q14, Q15, Q16, Q17, Q18, Q19, Q20, Q21, Q22, Q23, Q24, Q25, Q26, Q27, Q28, Q29, Q30, Q31, Q32, Q33, Q35, Q36, Q37, Q38, Q39, Q40, Q41, Q42, Q43, Q44, Q45, Q46, Q47, Q48, Q49, Q50, Q51, Q52, Q53, Q54, Q55, Q56, Q57, Q58, Q59, Q60, Q61, Q62, Q63, Q64, Q65, Q66, Q67, Q68, Q69, Q70, Q71, Q72, Q73, Q99, Q100, Q101, Q102, Q103, Q74, Q75, Q77, Q78, Q79, Q80, Q81, Q82, Q83, Q84, clr, List.length_nil, List.length_cons, List.getElem?_cons_zero, List.getElem?_cons_succ, Nat.reduceAdd, Nat.zero_add, Nat.add_zero, Nat.reduceLeDiff, Nat.reduceSub, ↓reduceIte, List.drop_succ_cons, List.drop_zero, List.take_succ_cons, List.take_zero, Bool.false_eq_true, List.nil_append, List.cons_append, Bool.not_true, Bool.not_false, cond_true, cond_false, bne, Q85, Q86, Q87, Q88, Q89, Q90, Q91, Q92, Q93, Q94, Q95, Q96, Q97, Q98, Q110, Q111, Q116, Q117, Q118, Q119, Q120, Q121, Q122, Q123, Option.map_some, Option.map_none, hz]
      exact v_leave0 h0 h3 hT rfl _ (by first | exact .inr rfl | exact .inl rfl)
    ·have hz : (IntKind.i64.wrap (p - 1) == 0) = false := by simp [hz']
     cases hd with
     | false =>
      rw [show doesT ⟨S, Q, p, o, u, false, ov⟩ 3 3 i = ⟨S, Q, (IntKind.i64.wrap (p - 1)), o, u, false, ov⟩ from by simp [doesT, headOff, hz']]
      refine ⟨R, N, hR, hN, callW_own (c := c16) rfl rfl 0 ?_⟩
      rw [v_app, v_len]
      simp only [c16, start, List.replicate, c16_0, c16_1, c16_2, c16_3, c16_4, c16_5, c16_6, c16_7, c16_8, c16_9, c16_10, c16_11, c16_12, c16_13, c16_14, c16_15, c16_16, c16_17, c16_18, c16_19, c16_20, cl, v_bx, v_ld4, v_ld5, v_ld6, v_ld8, v_ld9, v_l0, v_l1, v_l2, v_l4, v_st6, v_st7, v_st8, v_st9, v_st10, v_clr, v_up1, v_up2, ap, x_region_ap, apR_t, e_clrmap, e_mapupd, Q122, Int.reduceBEq, Q0, Q1, Q2, Q3, Q4, Q5, Q6, Q7, Q8, Q9, Q10, Q11, Q12, Q13, Q14, Q15, Q16, Q17, Q18, Q19, Q20, Q21, Q22, Q23, Q24, Q25, Q26, Q27, Q28, Q29, Q30, Q31, Q32, Q33, Q35, Q36, Q37, Q38, Q39, Q40, Q41, Q42, Q43, Q44, Q45, Q46, Q47, Q48, Q49, Q50, Q51, Q52, Q53, Q54, Q55, Q56, Q57, Q58, Q59, Q60, Q61, Q62, Q63, Q64, Q65, Q66, Q67, Q68, Q69, Q70, Q71, Q72, Q73, Q99, Q100, Q101, Q102, Q103, Q74, Q75, Q77, Q78, Q79, Q80, Q81, Q82, Q83, Q84, clr, List.length_nil, List.length_cons, List.getElem?_cons_zero, List.getElem?_cons_succ, Nat.reduceAdd, Nat.zero_add, Nat.add_zero, Nat.reduceLeDiff, Nat.reduceSub, ↓reduceIte, List.drop_succ_cons, List.drop_zero, List.take_succ_cons, List.take_zero, Bool.false_eq_true, List.nil_append, List.cons_append, Bool.not_true, Bool.not_false, cond_true, cond_false, bne, Q85, Q86, Q87, Q88, Q89, Q90, Q91, Q92, Q93, Q94, Q95, Q96, Q97, Q98, Q110, Q111, Q116, Q117, Q118, Q119, Q120, Q121, Q122, Q123, Option.map_some, Option.map_none, hz]
      exact v_leave0 h0 h3 hT rfl _ (by first | exact .inr rfl | exact .inl rfl)
     | true =>
      rw [show doesT ⟨S, Q, p, o, u, true, ov⟩ 3 3 i = ⟨S, Q, (IntKind.i64.wrap (p - 1)), o, u, true, ov⟩ from by simp [doesT, headOff, hz']]
      refine ⟨R, N, hR, hN, callW_own (c := c16) rfl rfl 0 ?_⟩
      rw [v_app, v_len]
      simp only [c16, start, List.replicate, c16_0, c16_1, c16_2, c16_3, c16_4, c16_5, c16_6, c16_7, c16_8, c16_9, c16_10, c16_11, c16_12, c16_13, c16_14, c16_15, c16_16, c16_17, c16_18, c16_19, c16_20, cl, v_bx, v_ld4, v_ld5, v_ld6, v_ld8, v_ld9, v_l0, v_l1, v_l2, v_l4, v_st6, v_st7, v_st8, v_st9, v_st10, v_clr, v_up1, v_up2, ap, x_region_ap, apR_t, e_clrmap, e_mapupd, Q122, Int.reduceBEq, Q0, Q1, Q2, Q3, Q4, Q5, Q6, Q7, Q8, Q9, Q10, Q11, Q12, Q13, Q14, Q15, Q16, Q17, Q18, Q19, Q20, Q21, Q22, Q23, Q24, Q25, Q26, Q27, Q28, Q29, Q30, Q31, Q32, Q33, Q35, Q36, Q37, Q38, Q39, Q40, Q41, Q42, Q43, Q44, Q45, Q46, Q47, Q48, Q49, Q50, Q51, Q52, Q53, Q54, Q55, Q56, Q57, Q58, Q59, Q60, Q61, Q62, Q63, Q64, Q65, Q66, Q67, Q68, Q69, Q70, Q71, Q72, Q73, Q99, Q100, Q101, Q102, Q103, Q74, Q75, Q77, Q78, Q79, Q80, Q81, Q82, Q83, Q84, clr, List.length_nil, List.length_cons, List.getElem?_cons_zero, List.getElem?_cons_succ, Nat.reduceAdd, Nat.zero_add, Nat.add_zero, Nat.reduceLeDiff, Nat.reduceSub, ↓reduceIte, List.drop_succ_cons, List.drop_zero, List.take_succ_cons, List.take_zero, Bool.false_eq_true, List.nil_append, List.cons_append, Bool.not_true, Bool.not_false, cond_true, cond_false, bne, Q85, Q86, Q87, Q88, Q89, Q90, Q91, Q92, Q93, Q94, Q95, Q96, Q97, Q98, Q110, Q111, Q116, Q117, Q118, Q119, Q120, Q121, Q122, Q123, Option.map_some, Option.map_none, hz]
      exact v_leave0 h0 h3 hT rfl _ (by first | exact .inr rfl | exact .inl rfl)
   ·by_cases hz' : IntKind.i64.wrap (p - 1) = 0
    ·have hz : (IntKind.i64.wrap (p - 1) == 0) = true := by simp [hz']
     cases hd with
     | false =>
      rw [show doesT ⟨S, Q, p, o, u, false, ov⟩ 3 4 i = ⟨(u :: S), Q, (IntKind.i64.wrap (p - 1)), o, u, false, ov⟩ from by simp [doesT, headOff, hz']]
      refine ⟨(upd (.int .i64 u) (.v (.bool true)) R), N, hR.add _, hN, callW_own (c := c16) rfl rfl 0 ?_⟩
      rw [v_app, v_len]
      simp only [c16, start, List.replicate, c16_0, c16_1, c16_2, c16_3, c16_4, c16_5, c16_6, c16_7, c16_8, c16_9, c16_10, c16_11, c16_12, c16_13, c16_14, c16_15, c16_16, c16_17, c16_18, c16_19, c16_20, cl, v_bx, v_ld4, v_ld5, v_ld6, v_ld8, v_ld9, v_l0, v_l1, v_l2, v_l4, v_st6, v_st7, v_st8, v_st9, v_st10, v_clr, v_up1, v_up2, ap, x_region_ap, apR_t, e_clrmap, e_mapupd, Q122, Int.reduceBEq, Q0, Q1, Q2, Q3, Q4, Q5, Q6, Q7, Q8, Q9, Q10, Q11, Q12, Q13, Q14, Q15, Q16, Q17, Q18, Q19, Q20, Q21, Q22, Q23, Q24, Q25, Q26, Q27, Q28, Q29, Q30, Q31, Q32, Q33, Q35, Q36, Q37, Q38, Q39, Q40, Q41, Q42, Q43, Q44, Q45, Q46, Q47, Q48, Q49, Q50, Q51, Q52, Q53, Q54, Q55, Q56, Q57, Q58, Q59, Q60, Q61, Q62, Q63, Q64, Q65, Q66, Q67, Q68, Q69, Q70, Q71, Q72, Q73, Q99, Q100, Q101, Q102, Q103, Q74, Q75, Q77, Q78, Q79, Q80, Q81, Q82, Q83, Q84, clr, List.length_nil, List.length_cons, List.getElem?_cons_zero, List.getElem?_cons_succ, Nat.reduceAdd, Nat.zero_add, Nat.add_zero, Nat.reduceLeDiff, Nat.reduceSub, ↓reduceIte, List.drop_succ_cons, List.drop_zero, List.take_succ_cons, List.take_zero, Bool.false_eq_true, List.nil_append, List.cons_append, Bool.not_true, Bool.not_false, cond_true, cond_false, bne, Q85, Q86, Q87, Q88, Q89, Q90, Q91, Q92, Q93, Q94, Q95, Q96, Q97, Q98, Q110, Q111, Q116, Q117, Q118, Q119, Q120, Q121, Q122, Q123, Option.map_some, Option.map_none, hz]
      exact v_leave0 h0 h3 hT rfl _ (by first | exact .inr rfl | exact .inl rfl)
     | true =>
      rw [show doesT ⟨S, Q, p, o, u, true, ov⟩ 3 4 i = ⟨(u :: S), Q, (IntKind.i64.wrap (p - 1)), o, u, true, ov⟩ from by simp [doesT, headOff, hz']]
      refine ⟨(upd (.int .i64 u) (.v (.bool true)) R), N, hR.add _, hN, callW_own (c := c16) rfl rfl 0 ?_⟩
      rw [v_app, v_len]
      simp only [c16, start, List.replicate, c16_0, c16_1, c16_2, c16_3, c16_4, c16_5, c16_6, c16_7, c16_8, c16_9, c16_10, c16_11, c16_12, c16_13, c16_14, c16_15, c16_16, c16_17, c16_18, c16_19, c16_20, cl, v_bx, v_ld4, v_ld5, v_ld6, v_ld8, v_ld9, v_l0, v_l1, v_l2, v_l4, v_st6, v_st7, v_st8, v_st9, v_st10, v_clr, v_up1, v_up2, ap, x_region_ap, apR_t, e_clrmap, e_mapupd, Q122, Int.reduceBEq, Q0, Q1, Q2, Q3, Q4, Q5, Q6, Q7, Q8, Q9, Q10, Q11, Q12, Q13, Q14, Q15, Q16, Q17, Q18, Q19, Q20, Q21, Q22, Q23, Q24, Q25, Q26, Q27, Q28, Q29, Q30, Q31, Q32, Q33, Q35, Q36, Q37, Q38, Q39, Q40, Q41, Q42, Q43, Q44, Q45, Q46, Q47, Q48, Q49, Q50, Q51, Q52, Q53, Q54, Q55, Q56, Q57, Q58, Q59, Q60, Q61, Q62, Q63, Q64, Q65, Q66, Q67, Q68, Q69, Q70, Q71, Q72, Q73, Q99, Q100, Q101, Q102, Q103, Q74, Q75, Q77, Q78, Q79, Q80, Q81, Q82, Q83, Q84, clr, List.length_nil, List.length_cons, List.getElem?_cons_zero, List.getElem?_cons_succ, Nat.reduceAdd, Nat.zero_add, Nat.add_zero, Nat.reduceLeDiff, Nat.reduceSub, ↓reduceIte, List.drop_succ_cons, List.drop_zero, List.take_succ_cons, List.take_zero, Bool.false_eq_true, List.nil_append, List.cons_append, Bool.not_true, Bool.not_false, cond_true, cond_false, bne, Q85, Q86, Q87, Q88, Q89, Q90, Q91, Q92, Q93, Q94, Q95, Q96, Q97, Q98, Q110, Q111, Q116, Q117, Q118, Q119, Q120, Q121, Q122, Q123, Option.map_some, Option.map_none, hz]
      exact v_leave0 h0 h3 hT rfl _ (by first | exact .inr rfl | exact .inl rfl)
    ·have hz : (IntKind.i64.wrap (p - 1) == 0) = false := by simp [hz']
     cases hd with
     | false =>
      rw [show doesT ⟨S, Q, p, o, u, false, ov⟩ 3 4 i = ⟨S, Q, (IntKind.i64.wrap (p - 1)), o, u, false, ov⟩ from by simp [doesT, headOff, hz']]
      refine ⟨R, N, hR, hN, callW_own (c := c16) rfl rfl 0 ?_⟩
      rw [v_app, v_len]
      simp only [c16, start, List.replicate, c16_0, c16_1, c16_2, c16_3, c16_4, c16_5, c16_6, c16_7, c16_8, c16_9, c16_10, c16_11, c16_12, c16_13, c16_14, c16_15, c16_16, c16_17, c16_18, c16_19, c16_20, cl, v_bx, v_ld4, v_ld5, v_ld6, v_ld8, v_ld9, v_l0, v_l1, v_l2, v_l4, v_st6, v_st7, v_st8, v_st9, v_st10, v_clr, v_up1, v_up2, ap, x_region_ap, apR_t, e_clrmap, e_mapupd, Q122, Int.reduceBEq, Q0, Q1, Q2, Q3, Q4, Q5, Q6, Q7, Q8, Q9, Q10, Q11, Q12, Q13, Q14, Q15, Q16, Q17, Q18, Q19, Q20, Q21, Q22, Q23, Q24, Q25, Q26, Q27, Q28, Q29, Q30, Q31, Q32, Q33, Q35, Q36, Q37, Q38, Q39, Q40, Q41, Q42, Q43, Q44, Q45, Q46, Q47, Q48, Q49, Q50, Q51, Q52, Q53, Q54, Q55, Q56, Q57, Q58, Q59, Q60, Q61, Q62, Q63, Q64, Q65, Q66, Q67, Q68, Q69, Q70, Q71, Q72, Q73, Q99, Q100, Q101, Q102, Q103, Q74, Q75, Q77, Q78, Q79, Q80, Q81, Q82, Q83, Q84, clr, List.length_nil, List.length_cons, List.getElem?_cons_zero, List.getElem?_cons_succ, Nat.reduceAdd, Nat.zero_add, Nat.add_zero, Nat.reduceLeDiff, Nat.reduceSub, ↓reduceIte, List.drop_succ_cons, List.drop_zero, List.take_succ_cons, List.take_zero, Bool.false_eq_true, List.nil_append, List.cons_append, Bool.not_true, Bool.not_false, cond_true, cond_false, bne, Q85, Q86, Q87, Q88, Q89, Q90, Q91, Q92, Q93, Q94, Q95, Q96, Q97, Q98, Q110, Q111, Q116, Q117, Q118, Q119, Q120, Q121, Q122, Q123, Option.map_some, Option.map_none, hz]
      exact v_leave0 h0 h3 hT rfl _ (by first | exact .inr rfl | exact .inl rfl)
     | true =>
      rw [show doesT ⟨S, Q, p, o, u, true, ov⟩ 3 4 i = ⟨S, Q, (IntKind.i64.wrap (p - 1)), o, u, true, ov⟩ from by simp [doesT, headOff, hz']]
      refine ⟨R, N, hR, hN, callW_own (c := c16) rfl rfl 0 ?_⟩
      rw [v_app, v_len]
      simp only [c16, start, List.replicate, c16_0, c16_1, c16_2, c16_3, c16_4, c16_5, c16_6, c16_7, c16_8, c16_9, c16_10, c16_11, c16_12, c16_13, c16_14, c16_15, c16_16, c16_17, c16_18, c16_19, c16_20, cl, v_bx, v_ld4, v_ld5, v_ld6, v_ld8, v_ld9, v_l0, v_l1, v_l2, v_l4, v_st6, v_st7, v_st8, v_st9, v_st10, v_clr, v_up1, v_up2, ap, x_region_ap, apR_t, e_clrmap, e_mapupd, Q122, Int.reduceBEq, Q0, Q1, Q2, Q3, Q4, Q5, Q6, Q7, Q8, Q9, Q10, Q11, Q12, Q13, Q14, Q15, Q16, Q17, Q18, Q19, Q20, Q21, Q22, Q23, Q24, Q25, Q26, Q27, Q28, Q29, Q30, Q31, Q32, Q33, Q35, Q36, Q37, Q38, Q39, Q40, Q41, Q42, Q43, Q44, Q45, Q46, Q47, Q48, Q49, Q50, Q51, Q52, Q53, Q54, Q55, Q56, Q57, Q58, Q59, Q60, Q61, Q62, Q63, Q64, Q65, Q66, Q67, Q68, Q69, Q70, Q71, Q72, Q73, Q99, Q100, Q101, Q102, Q103, Q74, Q75, Q77, Q78, Q79, Q80, Q81, Q82, Q83, Q84, clr, List.length_nil, List.length_cons, List.getElem?_cons_zero, List.getElem?_cons_succ, Nat.reduceAdd, Nat.zero_add, Nat.add_zero, Nat.reduceLeDiff, Nat.reduceSub, ↓reduceIte, List.drop_succ_cons, List.drop_zero, List.take_succ_cons, List.take_zero, Bool.false_eq_true, List.nil_append, List.cons_append, Bool.not_true, Bool.not_false, cond_true, cond_false, bne, Q85, Q86, Q87, Q88, Q89, Q90, Q91, Q92, Q93, Q94, Q95, Q96, Q97, Q98, Q110, Q111, Q116, Q117, Q118, Q119, Q120, Q121, Q122, Q123, Option.map_some, Option.map_none, hz]
      exact v_leave0 h0 h3 hT rfl _ (by first | exact .inr rfl | exact .inl rfl)
end
end Go.AE.YtghgbbiklkpbnaaDoor.Chk
end

section
namespace Go.AE.YtghgbbiklkpbnaaDoor.Chk
open Go Go.AE Go.Proofs.YtghgbbiklkpbnaaDoor

def charT (s : ByteArray) : Bool := decide ((s.size : Int) ≤ 255) && Lib.validD s.data.toList
theorem char_ok (s : ByteArray) : callW F 12 [.v (.string s)] [] = some (.v (.bool (charT s)), []) := by
 refine callW_pure (c := c12) rfl rfl 0 ?_
 have ln : ∀ h : List AO, evLen h .string (.v (.string s)) = some s.size := fun _ => rfl
 cases h1 : decide ((s.size : Int) ≤ 255) with
 | false => simp only [charT, c12, start, List.replicate, c12_0, c12_1, ln, h1, Q122, Bool.false_and, Q0, Q1, Q2, Q3, Q4, Q5, Q6, Q7, Q8, Q9, Q10, Q11, Q12, Q13, Q14, Q15, Q16, Q17, Q18, Q19, Q20, Q21, Q22, Q23, Q24, Q25, Q26, Q27, Q28, Q29, Q30, Q31, Q32, Q33, Q35, Q36, Q37, Q38, Q39, Q40, Q41, Q42, Q43, Q44, Q45, Q46, Q47, Q48, Q49, Q50, Q51, Q52, Q53, Q54, Q55, Q56, Q57, Q58, Q59, Q60, Q61, Q62, Q63, Q64, Q65, Q66, Q67, Q68, Q69, Q70, Q71, Q72, Q73, Q99, Q100, Q101, Q102, Q103, Q74, Q75, Q77, Q78, Q79, Q80, Q81, Q82, Q83, Q84, clr, List.length_nil, List.length_cons, List.getElem?_cons_zero, List.getElem?_cons_succ, Nat.reduceAdd, Nat.zero_add, Nat.add_zero, Nat.reduceLeDiff, Nat.reduceSub, ↓reduceIte, List.drop_succ_cons, List.drop_zero, List.take_succ_cons, List.take_zero, Bool.false_eq_true, List.nil_append, List.cons_append, Bool.not_true, Bool.not_false, cond_true, cond_false, bne, Q85, Q86, Q87, Q88, Q89, Q90, Q91, Q92, Q93, Q94, Q95, Q96, Q97, Q98, Q110, Q111, Q116, Q117, Q118, Q119, Q120, Q121, Q122, Q123, Option.map_some, Option.map_none]
 | true =>
  have hs : s.size ≤ 9223372036854775807 := by simp at h1; omega
  have hv : callW F 32 [.v (.string s)] [] = some (.v (.bool (Lib.validD s.data.toList)), []) := by
   refine callW_iff.2 ⟨1, ?_⟩
   have : F 32 = some (.oracle validG) := rfl
   simp only [callN, this, validG, if_pos hs]
  have sn : ∀ h : List AO, (AV.v (.string s)).snap1 h = some (.v (.string s)) := fun _ => rfl
  simp only [charT, c12, start, List.replicate, c12_0, c12_1, ln, h1, hv, sn, Q122, Bool.true_and, Q0, Q1, Q2, Q3, Q4, Q5, Q6, Q7, Q8, Q9, Q10, Q11, Q12, Q13, Q14, Q15, Q16, Q17, Q18, Q19, Q20, Q21, Q22, Q23, Q24, Q25, Q26, Q27, Q28, Q29, Q30, Q31, Q32, Q33, Q35, Q36, Q37, Q38, Q39, Q40, Q41, Q42, Q43, Q44, Q45, Q46, Q47, Q48, Q49, Q50, Q51, Q52, Q53, Q54, Q55, Q56, Q57, Q58, Q59, Q60, Q61, Q62, Q63, Q64, Q65, Q66, Q67, Q68, Q69, Q70, Q71, Q72, Q73, Q99, Q100, Q101, Q102, Q103, Q74, Q75, Q77, Q78, Q79, Q80, Q81, Q82, Q83, Q84, clr, List.length_nil, List.length_cons, List.getElem?_cons_zero, List.getElem?_cons_succ, Nat.reduceAdd, Nat.zero_add, Nat.add_zero, Nat.reduceLeDiff, Nat.reduceSub, ↓reduceIte, List.drop_succ_cons, List.drop_zero, List.take_succ_cons, List.take_zero, Bool.false_eq_true, List.nil_append, List.cons_append, Bool.not_true, Bool.not_false, cond_true, cond_false, bne, Q85, Q86, Q87, Q88, Q89, Q90, Q91, Q92, Q93, Q94, Q95, Q96, Q97, Q98, Q110, Q111, Q116, Q117, Q118, Q119, Q120, Q121, Q122, Q123, Option.map_some, Option.map_none]
theorem rowT_bd (op : Int) : (0 ≤ (rowT op).1 ∧ (rowT op).1 ≤ 4) ∧ (0 ≤ (rowT op).2.1 ∧ (rowT op).2.1 ≤ 4) := by
 unfold rowT
 split
 ·exact ⟨⟨by decide, by decide⟩, by decide, by decide⟩
 ·split
  ·refine ⟨⟨?_, ?_⟩, ?_, ?_⟩ <;> dsimp only <;> omega
  ·refine ⟨⟨?_, ?_⟩, ?_, ?_⟩ <;> dsimp only <;> omega
def stepT (vs : Int) (s : VS) (i : In) : Option VS :=
 if (rowT i.op).2.2 && (!s.over && (charT i.nm && (standsT s.regs s.parts s.of s.head (rowT i.op).1 (rowT i.op).2.1 i && wholeT s.regs s.known vs s.head (rowT i.op).1 (rowT i.op).2.1 i))) then some (doesT s (rowT i.op).1 (rowT i.op).2.1 i) else none
def runT (vs : Int) : Nat → VS → List In → Int × Int
 | n, s, [] => if s.over then (0, 0) else (n, 150)
 | n, s, i :: l => match stepT vs s i with
  | none => (n, 150)
  | some s' => runT vs (n + 1) s' l
def upTo (n : Nat) : List Int := ((List.range n).map fun (i : Nat) => (i : Int)).reverse
theorem upTo_succ (n : Nat) : upTo (n + 1) = (n : Int) :: upTo n := by simp [upTo, List.range_succ]
def beginT (ar : Int) : VS := ⟨upTo ar.toNat, [], 0, 0, 0, true, false⟩
def okT (nm : ByteArray) (ar vs : Int) : Bool := !(decide (ar < 0) || (decide (ar > 16) || (decide (vs < 0) || !(charT nm))))
def checkT (nm : ByteArray) (ar vs : Int) (l : List In) : Int × Int := if okT nm ar vs then runT vs 0 (beginT ar) l else (0, 150)

def K9a : List Bool := [false, true, false, false, true, false, false, false, false, false, false, false, true, true, false, false, false, false, false, false, false]
def V9a (ar j : Int) (x5 x14 : AV) : List AV := [.junk, .ptr 0 0, .junk, .junk, .ptr 3 0, x5, .junk, .junk, .junk, .junk, .junk, .junk, .v (.int .i64 ar), .v (.int .i64 j), x14, .junk, .junk, .junk, .junk, .junk, .junk]
def K9b : List Bool := [false, true, false, false, true, false, false, false, false, false, false, false, false, false, false, true, true, true, false, false, false]
def V9b (c : AV) (len n : Int) : List AV := [.junk, .ptr 0 0, .junk, .junk, .ptr 3 0, .junk, .junk, .junk, .junk, .junk, .junk, .junk, .junk, .junk, .junk, c, .v (.int .i64 len), .v (.int .i64 n), .junk, .junk, .junk]
section
variable {c0 c3 : AV} {c1 c2 : Int}
theorem regs_loop {K n : Nat} (hn : n ≤ 16) (hK : n < K) {p o u : Int} {hd ov : Bool} (v : List AV) (hv : clr K9a v = V9a n 0 .junk .junk) :
  ∃ x5 R, Seen .i64 R (upTo n) ∧ loopN (exec (callW F) K c7_9) K9a K v (vH c0 c1 c2 c3 m0 m0 p o u hd ov []) = some (.exit 0, V9a n n x5 (.v (.bool false)), vH c0 c1 c2 c3 R m0 p o u hd ov []) := by
 obtain ⟨e, v', h', g1, g2, g3⟩ := loop_rule0 (call := callW F) (K := K) (b := c7_9) (keep := K9a) (fun j v h' => v = V9a n j .junk .junk ∧ ∃ R, Seen .i64 R (upTo j) ∧ h' = vH c0 c1 c2 c3 R m0 p o u hd ov [])
  (fun e v h' => e = .exit 0 ∧ (∃ x5, v = V9a n n x5 (.v (.bool false))) ∧ ∃ R, Seen .i64 R (upTo n) ∧ h' = vH c0 c1 c2 c3 R m0 p o u hd ov []) n (m := K) (v := v) (h := vH c0 c1 c2 c3 m0 m0 p o u hd ov []) hK ⟨hv, m0, Seen.nil _, rfl⟩ (by
   rintro j v h' hj ⟨rfl, R, hR, rfl⟩
   by_cases hjn : j < n
   ·have hlt := lt_t hjn
    have hw := wrap_succ hjn (by have : maxLen = 9223372036854775807 := rfl; omega)
    refine ⟨.normal, V9a n ((j + 1 : Nat) : Int) (.v (.int .i64 j)) (.v (.bool true)), _, ?_, hjn, rfl, _, (by rw [upTo_succ]; exact hR.add _), rfl⟩
    simp only [V9a, c7_9, c7_5, c7_6, c7_7, c7_8, hlt, hw, v_ld4, v_up1, e_mapupd, Q0, Q1, Q2, Q3, Q4, Q5, Q6, Q7, Q8, Q9, Q10, Q11, Q12, Q13, Q14, Q15, Q16, Q17, Q18, Q19, Q20, Q21, Q22, Q23, Q24, Q25, Q26, Q27, Q28, Q29, Q30, Q31, Q32, Q33, Q35, Q36, Q37, Q38, Q39, Q40, Q41, Q42, Q43, Q44, Q45, Q46, Q47, Q48, Q49, Q50, Q51, Q52, Q53, Q54, Q55, Q56, Q57, Q58, Q59, Q60, Q61, Q62, Q63, Q64, Q65, Q66, Q67, Q68, Q69, Q70, Q71, Q72, Q73, Q99, Q100, Q101, Q102, Q103, Q74, Q75, Q77, Q78, Q79, Q80, Q81, Q82, Q83, Q84, clr, List.length_nil, List.length_cons, List.getElem?_cons_zero, List.getElem?_cons_succ, Nat.reduceAdd, Nat.zero_add, Nat.add_zero, Nat.reduceLeDiff, Nat.reduceSub, ↓reduceIte, List.drop_succ_cons, List.drop_zero, List.take_succ_cons, List.take_zero, Bool.false_eq_true, List.nil_append, List.cons_append, Bool.not_true, Bool.not_false, cond_true, cond_false, bne, Q85, Q86, Q87, Q88, Q89, Q90, Q91, Q92, Q93, Q94, Q95, Q96, Q97, Q98, Q110, Q111, Q116, Q117, Q118, Q119, Q120, Q121, Q122, Q123, Option.map_some, Option.map_none]
   ·have hje : j = n := by omega
    subst hje
    have hlt := lt_f (n := j)
    refine ⟨.exit 0, V9a j j .junk (.v (.bool false)), _, ?_, rfl, ⟨_, rfl⟩, R, hR, rfl⟩
    simp only [V9a, c7_9, c7_5, hlt, Q0, Q1, Q2, Q3, Q4, Q5, Q6, Q7, Q8, Q9, Q10, Q11, Q12, Q13, Q14, Q15, Q16, Q17, Q18, Q19, Q20, Q21, Q22, Q23, Q24, Q25, Q26, Q27, Q28, Q29, Q30, Q31, Q32, Q33, Q35, Q36, Q37, Q38, Q39, Q40, Q41, Q42, Q43, Q44, Q45, Q46, Q47, Q48, Q49, Q50, Q51, Q52, Q53, Q54, Q55, Q56, Q57, Q58, Q59, Q60, Q61, Q62, Q63, Q64, Q65, Q66, Q67, Q68, Q69, Q70, Q71, Q72, Q73, Q99, Q100, Q101, Q102, Q103, Q74, Q75, Q77, Q78, Q79, Q80, Q81, Q82, Q83, Q84, clr, List.length_nil, List.length_cons, List.getElem?_cons_zero, List.getElem?_cons_succ, Nat.reduceAdd, Nat.zero_add, Nat.add_zero, Nat.reduceLeDiff, Nat.reduceSub, ↓reduceIte, List.drop_succ_cons, List.drop_zero, List.take_succ_cons, List.take_zero, Bool.false_eq_true, List.nil_append, List.cons_append, Bool.not_true, Bool.not_false, cond_true, cond_false, bne, Q85, Q86, Q87, Q88, Q89, Q90, Q91, Q92, Q93, Q94, Q95, Q96, Q97, Q98, Q110, Q111, Q116, Q117, Q118, Q119, Q120, Q121, Q122, Q123, Option.map_some, Option.map_none])
 obtain ⟨rfl, ⟨x5, rfl⟩, R, hR, rfl⟩ := g3
 exact ⟨x5, R, hR, g1⟩
theorem all_box {T : List AO} {i : In} (hT : T.all (AO.below 0) = true) : (T ++ [AO.box 41 (inC i)]).all (AO.below 0) = true := by
 rw [List.all_append, hT]; rfl
theorem check_loop (h0 : c0.below1 0 = true) (h3 : c3.below1 0 = true) {K : Nat} {c : AV} {l : List In} {es : List AV} (hs : Sl 5 c es) (hes : AllR IsIn es l) (hm : l.length ≤ maxLen) (hK : l.length < K) {R N : MR} {s : VS} (hR : Seen .i64 R s.regs) (hN : Seen .i64 N s.known) (v : List AV) (hv : clr K9b v = V9b c l.length 0) :
    ∃ e v' h', loopN (exec (callW F) K c7_18) K9b K v (vS c0 c1 c2 c3 R N s []) = some (e, v', h') ∧
      ((e = .ret ∧ getO v' [] (.var 2) = .v (.int .i64 (runT c2 0 s l).1) ∧ getO v' [] (.var 3) = .v (.int .i64 (runT c2 0 s l).2)) ∨
       (e = .exit 2 ∧ (∃ x18, v' = [.junk, .ptr 0 0, .junk, .junk, .ptr 3 0, .junk, .junk, .junk, .junk, .junk, .junk, .junk, .junk, .junk, .junk, c, .v (.int .i64 l.length), .v (.int .i64 l.length), x18, .junk, .junk]) ∧ ∃ R N s' T, h' = vS c0 c1 c2 c3 R N s' T ∧ runT c2 0 s l = if s'.over then (0, 0) else ((l.length : Int), 150))) := by
  obtain ⟨e, v', h', g1, g2, g3⟩ := loop_rule0 (call := callW F) (K := K) (b := c7_18) (keep := K9b) (fun n v h' => v = V9b c l.length n ∧ ∃ R N s' T, Seen .i64 R s'.regs ∧ Seen .i64 N s'.known ∧ T.all (AO.below 0) = true ∧ h' = vS c0 c1 c2 c3 R N s' T ∧ runT c2 0 s l = runT c2 n s' (l.drop n))
    (fun e v' h' => (e = .ret ∧ getO v' [] (.var 2) = .v (.int .i64 (runT c2 0 s l).1) ∧ getO v' [] (.var 3) = .v (.int .i64 (runT c2 0 s l).2)) ∨
       (e = .exit 2 ∧ (∃ x18, v' = [.junk, .ptr 0 0, .junk, .junk, .ptr 3 0, .junk, .junk, .junk, .junk, .junk, .junk, .junk, .junk, .junk, .junk, c, .v (.int .i64 l.length), .v (.int .i64 l.length), x18, .junk, .junk]) ∧ ∃ R N s' T, h' = vS c0 c1 c2 c3 R N s' T ∧ runT c2 0 s l = if s'.over then (0, 0) else ((l.length : Int), 150))) l.length (m := K) (v := v) (h := vS c0 c1 c2 c3 R N s []) hK ⟨hv, R, N, s, [], hR, hN, rfl, rfl, by simp⟩ (by
      rintro n v h' hn ⟨rfl, R, N, s', T, hR, hN, hT, rfl, hrun⟩
      by_cases hnl : n < l.length
      · have hlt := lt_t hnl
        have hw := wrap_succ hnl hm
        have hd : l.drop n = l[n] :: l.drop (n + 1) := List.drop_eq_getElem_cons hnl
        obtain ⟨x, hx⟩ : ∃ x, l[n]? = some x := ⟨_, List.getElem?_eq_getElem hnl⟩
        have hxe : l[n] = x := by rw [List.getElem?_eq_getElem hnl] at hx; exact Option.some.inj hx
        rw [hd, hxe] at hrun
        obtain ⟨e, he, hin⟩ := hes.get' hx
        have hei := hin.eq
        subst hei
        have q1 := fun h : List AO => hs.ia he h
        have q3 : ∀ h : List AO, Q76 h true 5 (.ip (inV x).cells) = some (inV x) := fun _ => rfl
        have z : (ofVal (.agg #[(.int .i64 0), (.int .i64 0), (.int .i64 0), (.string ⟨#[]⟩), (.int .i64 0)])).cl = some [.v (.int .i64 0), .v (.int .i64 0), .v (.int .i64 0), .v (.string ⟨#[]⟩), .v (.int .i64 0)] := by kernel_rfl
        have st := v_sti (c0 := c0) (c1 := c1) (c2 := c2) (c3 := c3) (R := R) (N := N) (p := s'.parts) (o := s'.of) (u := s'.under) (hd := s'.head) (ov := s'.over) (T := T) (i := x) (z := [.v (.int .i64 0), .v (.int .i64 0), .v (.int .i64 0), .v (.string ⟨#[]⟩), .v (.int .i64 0)]) rfl
        have hrow := row_ok x.op
        obtain ⟨hr, hk⟩ := rowT_bd x.op
        have hch := char_ok x.nm
        have sx : ∀ h : List AO, (AV.v (.string x.nm)).snap1 h = some (.v (.string x.nm)) := fun _ => rfl
        have so : ∀ h : List AO, (AV.v (.int .i64 x.op)).snap1 h = some (.v (.int .i64 x.op)) := fun _ => rfl
        have hT' := all_box (i := x) hT
        have hst := stands_ok (c0 := c0) (c1 := c1) (c2 := c2) (c3 := c3) (R := R) (N := N) (p := s'.parts) (o := s'.of) (u := s'.under) (hd := s'.head) (ov := s'.over) (k := (rowT x.op).2.1) h0 h3 hT' hR hr x
        have hwh := whole_ok (c0 := c0) (c1 := c1) (c2 := c2) (c3 := c3) (R := R) (N := N) (p := s'.parts) (o := s'.of) (u := s'.under) (hd := s'.head) (ov := s'.over) h0 h3 hT' hR hN hr hk x
        obtain ⟨R', N', hR', hN', hdo⟩ := does_ok (c0 := c0) (c1 := c1) (c2 := c2) (c3 := c3) h0 h3 hT' hR hN hr hk x
        have hstep : stepT c2 s' x = if (rowT x.op).2.2 && (!s'.over && (charT x.nm && (standsT s'.regs s'.parts s'.of s'.head (rowT x.op).1 (rowT x.op).2.1 x && wholeT s'.regs s'.known c2 s'.head (rowT x.op).1 (rowT x.op).2.1 x))) then some (doesT s' (rowT x.op).1 (rowT x.op).2.1 x) else none := rfl
        have hrun2 : runT c2 n s' (x :: l.drop (n + 1)) = match stepT c2 s' x with
          | none => ((n : Int), 150)
          | some s' => runT c2 (n + 1) s' (l.drop (n + 1)) := rfl
        have fa : ∀ (vars env : List AV), callW F 14 = callW F 14 := fun _ _ => rfl
        simp only [vS] at hdo ⊢
        generalize rowT x.op = rw at *
        obtain ⟨r, k, is⟩ := rw
        dsimp only at *
        have no : stepT c2 s' x = none → runT c2 0 s l = ((n : Int), 150) := fun h => by rw [hrun, hrun2, h]
        simp only [rowV] at hrow
        generalize hst0 : standsT s'.regs s'.parts s'.of s'.head r k x = bst at *
        generalize hwh0 : wholeT s'.regs s'.known c2 s'.head r k x = bwh at *
        generalize hch0 : charT x.nm = bch at *
        have ap := fun T => v_ld10 (c0 := c0) (c1 := c1) (c2 := c2) (c3 := c3) (R := R) (N := N) (p := s'.parts) (o := s'.of) (u := s'.under) (hd := s'.head) (ov := s'.over) (T := T)
        generalize hov : s'.over = ov at *
        by_cases good : (is && (!ov && (bch && (bst && bwh)))) = true
        · rw [if_pos good] at hstep
          simp only [Bool.and_eq_true, Bool.not_eq_true'] at good
          obtain ⟨rfl, rfl, rfl, rfl, rfl⟩ := good
          refine ⟨.normal, [.junk, .ptr 0 0, .junk, .junk, .ptr 3 0, .junk, .v (.int .i64 n), .ptr (T.length + 4) 0, .v (.int .i64 r), .v (.int .i64 k), .v (.bool true), .junk, .junk, .junk, .junk, c, .v (.int .i64 l.length), .v (.int .i64 ((n + 1 : Nat) : Int)), .v (.bool true), .v (.bool false), .junk], _, ?_, hnl, rfl, R', N', _, _, hR', hN', hT', rfl, by rw [hrun, hrun2, hstep]⟩
          simp only [V9b, c7_18, c7_11, c7_12, c7_13, c7_14, c7_16, c7_17, hlt, hw, q1, q3, z, v_bx, st, v_l0, v_l3, v_la, hrow, hch, sx, so, ap, hst, hwh, hdo, ex_2, e_callh, List.map_cons, List.map_nil, Q0, Q1, Q2, Q3, Q4, Q5, Q6, Q7, Q8, Q9, Q10, Q11, Q12, Q13, Q14, Q15, Q16, Q17, Q18, Q19, Q20, Q21, Q22, Q23, Q24, Q25, Q26, Q27, Q28, Q29, Q30, Q31, Q32, Q33, Q35, Q36, Q37, Q38, Q39, Q40, Q41, Q42, Q43, Q44, Q45, Q46, Q47, Q48, Q49, Q50, Q51, Q52, Q53, Q54, Q55, Q56, Q57, Q58, Q59, Q60, Q61, Q62, Q63, Q64, Q65, Q66, Q67, Q68, Q69, Q70, Q71, Q72, Q73, Q99, Q100, Q101, Q102, Q103, Q74, Q75, Q77, Q78, Q79, Q80, Q81, Q82, Q83, Q84, clr, List.length_nil, List.length_cons, List.getElem?_cons_zero, List.getElem?_cons_succ, Nat.reduceAdd, Nat.zero_add, Nat.add_zero, Nat.reduceLeDiff, Nat.reduceSub, ↓reduceIte, List.drop_succ_cons, List.drop_zero, List.take_succ_cons, List.take_zero, Bool.false_eq_true, List.nil_append, List.cons_append, Bool.not_true, Bool.not_false, cond_true, cond_false, bne, Q85, Q86, Q87, Q88, Q89, Q90, Q91, Q92, Q93, Q94, Q95, Q96, Q97, Q98, Q110, Q111, Q116, Q117, Q118, Q119, Q120, Q121, Q122, Q123, Option.map_some, Option.map_none]
        · rw [if_neg good] at hstep
          have hno := no hstep
          simp only [Bool.not_eq_true] at good
          cases is with
          | false =>
            refine ⟨.ret, [.junk, .ptr 0 0, .v (.int .i64 n), .v (.int .i64 150), .ptr 3 0, .junk, .v (.int .i64 n), .ptr (T.length + 4) 0, .v (.int .i64 r), .v (.int .i64 k), .v (.bool false), .junk, .junk, .junk, .junk, c, .v (.int .i64 l.length), .v (.int .i64 n), .v (.bool true), .v (.bool true), .junk], vH c0 c1 c2 c3 R N s'.parts s'.of s'.under s'.head ov (T ++ [.box 41 (inC x)]), ?_, .inl ⟨rfl, by rw [hno]; rfl, by rw [hno]; rfl⟩⟩
            simp only [V9b, c7_18, c7_11, c7_12, c7_13, c7_14, c7_15, hlt, hw, q1, q3, z, v_bx, st, v_l0, v_l3, v_la, hrow, hch, sx, so, ap, hst, hwh, ex_2, Q122, e_callh, List.map_cons, List.map_nil, Q0, Q1, Q2, Q3, Q4, Q5, Q6, Q7, Q8, Q9, Q10, Q11, Q12, Q13, Q14, Q15, Q16, Q17, Q18, Q19, Q20, Q21, Q22, Q23, Q24, Q25, Q26, Q27, Q28, Q29, Q30, Q31, Q32, Q33, Q35, Q36, Q37, Q38, Q39, Q40, Q41, Q42, Q43, Q44, Q45, Q46, Q47, Q48, Q49, Q50, Q51, Q52, Q53, Q54, Q55, Q56, Q57, Q58, Q59, Q60, Q61, Q62, Q63, Q64, Q65, Q66, Q67, Q68, Q69, Q70, Q71, Q72, Q73, Q99, Q100, Q101, Q102, Q103, Q74, Q75, Q77, Q78, Q79, Q80, Q81, Q82, Q83, Q84, clr, List.length_nil, List.length_cons, List.getElem?_cons_zero, List.getElem?_cons_succ, Nat.reduceAdd, Nat.zero_add, Nat.add_zero, Nat.reduceLeDiff, Nat.reduceSub, ↓reduceIte, List.drop_succ_cons, List.drop_zero, List.take_succ_cons, List.take_zero, Bool.false_eq_true, List.nil_append, List.cons_append, Bool.not_true, Bool.not_false, cond_true, cond_false, bne, Q85, Q86, Q87, Q88, Q89, Q90, Q91, Q92, Q93, Q94, Q95, Q96, Q97, Q98, Q110, Q111, Q116, Q117, Q118, Q119, Q120, Q121, Q122, Q123, Option.map_some, Option.map_none]
          | true =>
            cases ov with
            | true =>
              refine ⟨.ret, [.junk, .ptr 0 0, .v (.int .i64 n), .v (.int .i64 150), .ptr 3 0, .junk, .v (.int .i64 n), .ptr (T.length + 4) 0, .v (.int .i64 r), .v (.int .i64 k), .v (.bool true), .junk, .junk, .junk, .junk, c, .v (.int .i64 l.length), .v (.int .i64 n), .v (.bool true), .v (.bool true), .junk], vH c0 c1 c2 c3 R N s'.parts s'.of s'.under s'.head true (T ++ [.box 41 (inC x)]), ?_, .inl ⟨rfl, by rw [hno]; rfl, by rw [hno]; rfl⟩⟩
              simp only [V9b, c7_18, c7_11, c7_12, c7_13, c7_14, c7_15, hlt, hw, q1, q3, z, v_bx, st, v_l0, v_l3, v_la, hrow, hch, sx, so, ap, hst, hwh, ex_2, Q122, e_callh, List.map_cons, List.map_nil, Q0, Q1, Q2, Q3, Q4, Q5, Q6, Q7, Q8, Q9, Q10, Q11, Q12, Q13, Q14, Q15, Q16, Q17, Q18, Q19, Q20, Q21, Q22, Q23, Q24, Q25, Q26, Q27, Q28, Q29, Q30, Q31, Q32, Q33, Q35, Q36, Q37, Q38, Q39, Q40, Q41, Q42, Q43, Q44, Q45, Q46, Q47, Q48, Q49, Q50, Q51, Q52, Q53, Q54, Q55, Q56, Q57, Q58, Q59, Q60, Q61, Q62, Q63, Q64, Q65, Q66, Q67, Q68, Q69, Q70, Q71, Q72, Q73, Q99, Q100, Q101, Q102, Q103, Q74, Q75, Q77, Q78, Q79, Q80, Q81, Q82, Q83, Q84, clr, List.length_nil, List.length_cons, List.getElem?_cons_zero, List.getElem?_cons_succ, Nat.reduceAdd, Nat.zero_add, Nat.add_zero, Nat.reduceLeDiff, Nat.reduceSub, ↓reduceIte, List.drop_succ_cons, List.drop_zero, List.take_succ_cons, List.take_zero, Bool.false_eq_true, List.nil_append, List.cons_append, Bool.not_true, Bool.not_false, cond_true, cond_false, bne, Q85, Q86, Q87, Q88, Q89, Q90, Q91, Q92, Q93, Q94, Q95, Q96, Q97, Q98, Q110, Q111, Q116, Q117, Q118, Q119, Q120, Q121, Q122, Q123, Option.map_some, Option.map_none]
            | false =>
              cases bch with
              | false =>
                refine ⟨.ret, [.junk, .ptr 0 0, .v (.int .i64 n), .v (.int .i64 150), .ptr 3 0, .junk, .v (.int .i64 n), .ptr (T.length + 4) 0, .v (.int .i64 r), .v (.int .i64 k), .v (.bool true), .junk, .junk, .junk, .junk, c, .v (.int .i64 l.length), .v (.int .i64 n), .v (.bool true), .v (.bool true), .junk], vH c0 c1 c2 c3 R N s'.parts s'.of s'.under s'.head false (T ++ [.box 41 (inC x)]), ?_, .inl ⟨rfl, by rw [hno]; rfl, by rw [hno]; rfl⟩⟩
                simp only [V9b, c7_18, c7_11, c7_12, c7_13, c7_14, c7_15, hlt, hw, q1, q3, z, v_bx, st, v_l0, v_l3, v_la, hrow, hch, sx, so, ap, hst, hwh, ex_2, Q122, e_callh, List.map_cons, List.map_nil, Q0, Q1, Q2, Q3, Q4, Q5, Q6, Q7, Q8, Q9, Q10, Q11, Q12, Q13, Q14, Q15, Q16, Q17, Q18, Q19, Q20, Q21, Q22, Q23, Q24, Q25, Q26, Q27, Q28, Q29, Q30, Q31, Q32, Q33, Q35, Q36, Q37, Q38, Q39, Q40, Q41, Q42, Q43, Q44, Q45, Q46, Q47, Q48, Q49, Q50, Q51, Q52, Q53, Q54, Q55, Q56, Q57, Q58, Q59, Q60, Q61, Q62, Q63, Q64, Q65, Q66, Q67, Q68, Q69, Q70, Q71, Q72, Q73, Q99, Q100, Q101, Q102, Q103, Q74, Q75, Q77, Q78, Q79, Q80, Q81, Q82, Q83, Q84, clr, List.length_nil, List.length_cons, List.getElem?_cons_zero, List.getElem?_cons_succ, Nat.reduceAdd, Nat.zero_add, Nat.add_zero, Nat.reduceLeDiff, Nat.reduceSub, ↓reduceIte, List.drop_succ_cons, List.drop_zero, List.take_succ_cons, List.take_zero, Bool.false_eq_true, List.nil_append, List.cons_append, Bool.not_true, Bool.not_false, cond_true, cond_false, bne, Q85, Q86, Q87, Q88, Q89, Q90, Q91, Q92, Q93, Q94, Q95, Q96, Q97, Q98, Q110, Q111, Q116, Q117, Q118, Q119, Q120, Q121, Q122, Q123, Option.map_some, Option.map_none]
              | true =>
                cases bst with
                | false =>
                  refine ⟨.ret, [.junk, .ptr 0 0, .v (.int .i64 n), .v (.int .i64 150), .ptr 3 0, .junk, .v (.int .i64 n), .ptr (T.length + 4) 0, .v (.int .i64 r), .v (.int .i64 k), .v (.bool true), .junk, .junk, .junk, .junk, c, .v (.int .i64 l.length), .v (.int .i64 n), .v (.bool true), .v (.bool true), .junk], vH c0 c1 c2 c3 R N s'.parts s'.of s'.under s'.head false (T ++ [.box 41 (inC x)]), ?_, .inl ⟨rfl, by rw [hno]; rfl, by rw [hno]; rfl⟩⟩
                  simp only [V9b, c7_18, c7_11, c7_12, c7_13, c7_14, c7_15, hlt, hw, q1, q3, z, v_bx, st, v_l0, v_l3, v_la, hrow, hch, sx, so, ap, hst, hwh, ex_2, Q122, e_callh, List.map_cons, List.map_nil, Q0, Q1, Q2, Q3, Q4, Q5, Q6, Q7, Q8, Q9, Q10, Q11, Q12, Q13, Q14, Q15, Q16, Q17, Q18, Q19, Q20, Q21, Q22, Q23, Q24, Q25, Q26, Q27, Q28, Q29, Q30, Q31, Q32, Q33, Q35, Q36, Q37, Q38, Q39, Q40, Q41, Q42, Q43, Q44, Q45, Q46, Q47, Q48, Q49, Q50, Q51, Q52, Q53, Q54, Q55, Q56, Q57, Q58, Q59, Q60, Q61, Q62, Q63, Q64, Q65, Q66, Q67, Q68, Q69, Q70, Q71, Q72, Q73, Q99, Q100, Q101, Q102, Q103, Q74, Q75, Q77, Q78, Q79, Q80, Q81, Q82, Q83, Q84, clr, List.length_nil, List.length_cons, List.getElem?_cons_zero, List.getElem?_cons_succ, Nat.reduceAdd, Nat.zero_add, Nat.add_zero, Nat.reduceLeDiff, Nat.reduceSub, ↓reduceIte, List.drop_succ_cons, List.drop_zero, List.take_succ_cons, List.take_zero, Bool.false_eq_true, List.nil_append, List.cons_append, Bool.not_true, Bool.not_false, cond_true, cond_false, bne, Q85, Q86, Q87, Q88, Q89, Q90, Q91, Q92, Q93, Q94, Q95, Q96, Q97, Q98, Q110, Q111, Q116, Q117, Q118, Q119, Q120, Q121, Q122, Q123, Option.map_some, Option.map_none]
                | true =>
                  cases bwh with
                  | false =>
                    refine ⟨.ret, [.junk, .ptr 0 0, .v (.int .i64 n), .v (.int .i64 150), .ptr 3 0, .junk, .v (.int .i64 n), .ptr (T.length + 4) 0, .v (.int .i64 r), .v (.int .i64 k), .v (.bool true), .junk, .junk, .junk, .junk, c, .v (.int .i64 l.length), .v (.int .i64 n), .v (.bool true), .v (.bool true), .junk], vH c0 c1 c2 c3 R N s'.parts s'.of s'.under s'.head false (T ++ [.box 41 (inC x)]), ?_, .inl ⟨rfl, by rw [hno]; rfl, by rw [hno]; rfl⟩⟩
                    simp only [V9b, c7_18, c7_11, c7_12, c7_13, c7_14, c7_15, hlt, hw, q1, q3, z, v_bx, st, v_l0, v_l3, v_la, hrow, hch, sx, so, ap, hst, hwh, ex_2, Q122, e_callh, List.map_cons, List.map_nil, Q0, Q1, Q2, Q3, Q4, Q5, Q6, Q7, Q8, Q9, Q10, Q11, Q12, Q13, Q14, Q15, Q16, Q17, Q18, Q19, Q20, Q21, Q22, Q23, Q24, Q25, Q26, Q27, Q28, Q29, Q30, Q31, Q32, Q33, Q35, Q36, Q37, Q38, Q39, Q40, Q41, Q42, Q43, Q44, Q45, Q46, Q47, Q48, Q49, Q50, Q51, Q52, Q53, Q54, Q55, Q56, Q57, Q58, Q59, Q60, Q61, Q62, Q63, Q64, Q65, Q66, Q67, Q68, Q69, Q70, Q71, Q72, Q73, Q99, Q100, Q101, Q102, Q103, Q74, Q75, Q77, Q78, Q79, Q80, Q81, Q82, Q83, Q84, clr, List.length_nil, List.length_cons, List.getElem?_cons_zero, List.getElem?_cons_succ, Nat.reduceAdd, Nat.zero_add, Nat.add_zero, Nat.reduceLeDiff, Nat.reduceSub, ↓reduceIte, List.drop_succ_cons, List.drop_zero, List.take_succ_cons, List.take_zero, Bool.false_eq_true, List.nil_append, List.cons_append, Bool.not_true, Bool.not_false, cond_true, cond_false, bne, Q85, Q86, Q87, Q88, Q89, Q90, Q91, Q92, Q93, Q94, Q95, Q96, Q97, Q98, Q110, Q111, Q116, Q117, Q118, Q119, Q120, Q121, Q122, Q123, Option.map_some, Option.map_none]
                  | true =>
                    simp at good
      · have hne : n = l.length := by omega
        subst hne
        have hlt := lt_f (n := l.length)
        refine ⟨.exit 2, [.junk, .ptr 0 0, .junk, .junk, .ptr 3 0, .junk, .junk, .junk, .junk, .junk, .junk, .junk, .junk, .junk, .junk, c, .v (.int .i64 l.length), .v (.int .i64 l.length), .v (.bool false), .junk, .junk], _, ?_, .inr ⟨rfl, ⟨_, rfl⟩, R, N, s', T, rfl, ?_⟩⟩
        · simp only [V9b, c7_18, c7_11, hlt, Q0, Q1, Q2, Q3, Q4, Q5, Q6, Q7, Q8, Q9, Q10, Q11, Q12, Q13, Q14, Q15, Q16, Q17, Q18, Q19, Q20, Q21, Q22, Q23, Q24, Q25, Q26, Q27, Q28, Q29, Q30, Q31, Q32, Q33, Q35, Q36, Q37, Q38, Q39, Q40, Q41, Q42, Q43, Q44, Q45, Q46, Q47, Q48, Q49, Q50, Q51, Q52, Q53, Q54, Q55, Q56, Q57, Q58, Q59, Q60, Q61, Q62, Q63, Q64, Q65, Q66, Q67, Q68, Q69, Q70, Q71, Q72, Q73, Q99, Q100, Q101, Q102, Q103, Q74, Q75, Q77, Q78, Q79, Q80, Q81, Q82, Q83, Q84, clr, List.length_nil, List.length_cons, List.getElem?_cons_zero, List.getElem?_cons_succ, Nat.reduceAdd, Nat.zero_add, Nat.add_zero, Nat.reduceLeDiff, Nat.reduceSub, ↓reduceIte, List.drop_succ_cons, List.drop_zero, List.take_succ_cons, List.take_zero, Bool.false_eq_true, List.nil_append, List.cons_append, Bool.not_true, Bool.not_false, cond_true, cond_false, bne, Q85, Q86, Q87, Q88, Q89, Q90, Q91, Q92, Q93, Q94, Q95, Q96, Q97, Q98, Q110, Q111, Q116, Q117, Q118, Q119, Q120, Q121, Q122, Q123, Option.map_some, Option.map_none]
        · rw [hrun, List.drop_length]; rfl)
  exact ⟨e, v', h', g1, g3⟩
end
end Go.AE.YtghgbbiklkpbnaaDoor.Chk
end

section
namespace Go.AE.YtghgbbiklkpbnaaDoor.Chk
open Go Go.AE Go.Proofs.YtghgbbiklkpbnaaDoor

structure Co where
 nm : ByteArray
 ar : Int
 vs : Int
 l : List In
inductive IsCo : AV → Co → Prop
 | mk (nm : ByteArray) (ar vs : Int) (c : AV) (l : List In) (hl : IsS 5 IsIn c l) : IsCo (.agg [.v (.string nm), .v (.int .i64 ar), .v (.int .i64 vs), c]) ⟨nm, ar, vs, l⟩
def chkT (c : Co) : Int × Int := checkT c.nm c.ar c.vs c.l
theorem lv2_two {h : List AO} {vars : List AV} {i j : Nat} {x y : Value} (hx : getO vars [] (.var i) = .v x) (hy : getO vars [] (.var j) = .v y) : lv [.var i, .var j] (some (.ret, vars, h)) = some (.tup [.v x, .v y], []) := by
 simp only [Q85]
 have h1 : resOf vars h (.var i) = some (.v x) := by rw [← hx]; rfl
 have h2 : resOf vars h (.var j) = some (.v y) := by rw [← hy]; rfl
 simp only [List.mapM_cons, List.mapM_nil, h1, h2]
 rfl
theorem check_ok {a : AV} {c : Co} (ha : IsCo a c) : callW F 7 [a] [] = some (.tup [.v (.int .i64 (chkT c).1), .v (.int .i64 (chkT c).2)], []) := by
 cases ha with
 | mk nm ar vs c3 l hl =>
 obtain ⟨es, hs, hes, hm⟩ := hl
 have hel := hes.length
 have cl := (show (AV.agg [.v (.string nm), .v (.int .i64 ar), .v (.int .i64 vs), c3]).cl = some [.v (.string nm), .v (.int .i64 ar), .v (.int .i64 vs), c3] by cases hs <;> rfl)
 have hch := char_ok nm
 have sx : ∀ h : List AO, (AV.v (.string nm)).snap1 h = some (.v (.string nm)) := fun _ => rfl
 have l0 : ∀ h, Q76 (.box 24 [.v (.string nm), .v (.int .i64 ar), .v (.int .i64 vs), c3] :: h) false 1 (.ptr 0 0) = some (.v (.string nm)) := fun _ => rfl
 have l1 : ∀ h, Q76 (.box 24 [.v (.string nm), .v (.int .i64 ar), .v (.int .i64 vs), c3] :: h) false 1 (.ptr 0 1) = some (.v (.int .i64 ar)) := fun _ => rfl
 have l2 : ∀ h, Q76 (.box 24 [.v (.string nm), .v (.int .i64 ar), .v (.int .i64 vs), c3] :: h) false 1 (.ptr 0 2) = some (.v (.int .i64 vs)) := fun _ => rfl
 have l3 : ∀ h, Q76 (.box 24 [.v (.string nm), .v (.int .i64 ar), .v (.int .i64 vs), c3] :: h) false 1 (.ptr 0 3) = some c3 := fun _ => rfl
 have la : ∀ h, Q76 (.box 24 [.v (.string nm), .v (.int .i64 ar), .v (.int .i64 vs), c3] :: h) true 4 (.ptr 0 0) = some (.agg [.v (.string nm), .v (.int .i64 ar), .v (.int .i64 vs), c3]) := fun _ => rfl
 have hres : c7.res = [.var 2, .var 3] := rfl
 have st9 : start c7 [.agg [.v (.string nm), .v (.int .i64 ar), .v (.int .i64 vs), c3]] = [.agg [.v (.string nm), .v (.int .i64 ar), .v (.int .i64 vs), c3], .v undef, .v undef, .v undef, .v undef, .v undef, .v undef, .v undef, .v undef, .v undef, .v undef, .v undef, .v undef, .v undef, .v undef, .v undef, .v undef, .v undef, .v undef, .v undef, .v undef] := rfl
 cases hok : okT nm ar vs with
 | false =>
  have e : chkT ⟨nm, ar, vs, l⟩ = (0, 150) := by simp only [chkT, checkT, hok]; rfl
  rw [e]
  refine callW_pure (c := c7) rfl rfl 0 ?_
  rw [st9]
  simp only [okT, Bool.not_eq_false'] at hok
  generalize charT nm = ch at hch hok
  cases b1 : decide (ar < 0) with
  | true => simp only [c7, c7_0, c7_1, c7_2, cl, l0, l1, l2, b1, Q122, Q0, Q1, Q2, Q3, Q4, Q5, Q6, Q7, Q8, Q9, Q10, Q11, Q12, Q13, Q14, Q15, Q16, Q17, Q18, Q19, Q20, Q21, Q22, Q23, Q24, Q25, Q26, Q27, Q28, Q29, Q30, Q31, Q32, Q33, Q35, Q36, Q37, Q38, Q39, Q40, Q41, Q42, Q43, Q44, Q45, Q46, Q47, Q48, Q49, Q50, Q51, Q52, Q53, Q54, Q55, Q56, Q57, Q58, Q59, Q60, Q61, Q62, Q63, Q64, Q65, Q66, Q67, Q68, Q69, Q70, Q71, Q72, Q73, Q99, Q100, Q101, Q102, Q103, Q74, Q75, Q77, Q78, Q79, Q80, Q81, Q82, Q83, Q84, clr, List.length_nil, List.length_cons, List.getElem?_cons_zero, List.getElem?_cons_succ, Nat.reduceAdd, Nat.zero_add, Nat.add_zero, Nat.reduceLeDiff, Nat.reduceSub, ↓reduceIte, List.drop_succ_cons, List.drop_zero, List.take_succ_cons, List.take_zero, Bool.false_eq_true, List.nil_append, List.cons_append, Bool.not_true, Bool.not_false, cond_true, cond_false, bne, Q85, Q86, Q87, Q88, Q89, Q90, Q91, Q92, Q93, Q94, Q95, Q96, Q97, Q98, Q110, Q111, Q116, Q117, Q118, Q119, Q120, Q121, Q122, Q123, Option.map_some, Option.map_none, Q34]; rfl
  | false =>
   cases b2 : decide (ar > 16) with
   | true => simp only [c7, c7_0, c7_1, c7_2, cl, l0, l1, l2, b1, b2, Q122, Q0, Q1, Q2, Q3, Q4, Q5, Q6, Q7, Q8, Q9, Q10, Q11, Q12, Q13, Q14, Q15, Q16, Q17, Q18, Q19, Q20, Q21, Q22, Q23, Q24, Q25, Q26, Q27, Q28, Q29, Q30, Q31, Q32, Q33, Q35, Q36, Q37, Q38, Q39, Q40, Q41, Q42, Q43, Q44, Q45, Q46, Q47, Q48, Q49, Q50, Q51, Q52, Q53, Q54, Q55, Q56, Q57, Q58, Q59, Q60, Q61, Q62, Q63, Q64, Q65, Q66, Q67, Q68, Q69, Q70, Q71, Q72, Q73, Q99, Q100, Q101, Q102, Q103, Q74, Q75, Q77, Q78, Q79, Q80, Q81, Q82, Q83, Q84, clr, List.length_nil, List.length_cons, List.getElem?_cons_zero, List.getElem?_cons_succ, Nat.reduceAdd, Nat.zero_add, Nat.add_zero, Nat.reduceLeDiff, Nat.reduceSub, ↓reduceIte, List.drop_succ_cons, List.drop_zero, List.take_succ_cons, List.take_zero, Bool.false_eq_true, List.nil_append, List.cons_append, Bool.not_true, Bool.not_false, cond_true, cond_false, bne, Q85, Q86, Q87, Q88, Q89, Q90, Q91, Q92, Q93, Q94, Q95, Q96, Q97, Q98, Q110, Q111, Q116, Q117, Q118, Q119, Q120, Q121, Q122, Q123, Option.map_some, Option.map_none, Q34]; rfl
   | false =>
    cases b3 : decide (vs < 0) with
    | true => simp only [c7, c7_0, c7_1, c7_2, cl, l0, l1, l2, b1, b2, b3, Q122, Q0, Q1, Q2, Q3, Q4, Q5, Q6, Q7, Q8, Q9, Q10, Q11, Q12, Q13, Q14, Q15, Q16, Q17, Q18, Q19, Q20, Q21, Q22, Q23, Q24, Q25, Q26, Q27, Q28, Q29, Q30, Q31, Q32, Q33, Q35, Q36, Q37, Q38, Q39, Q40, Q41, Q42, Q43, Q44, Q45, Q46, Q47, Q48, Q49, Q50, Q51, Q52, Q53, Q54, Q55, Q56, Q57, Q58, Q59, Q60, Q61, Q62, Q63, Q64, Q65, Q66, Q67, Q68, Q69, Q70, Q71, Q72, Q73, Q99, Q100, Q101, Q102, Q103, Q74, Q75, Q77, Q78, Q79, Q80, Q81, Q82, Q83, Q84, clr, List.length_nil, List.length_cons, List.getElem?_cons_zero, List.getElem?_cons_succ, Nat.reduceAdd, Nat.zero_add, Nat.add_zero, Nat.reduceLeDiff, Nat.reduceSub, ↓reduceIte, List.drop_succ_cons, List.drop_zero, List.take_succ_cons, List.take_zero, Bool.false_eq_true, List.nil_append, List.cons_append, Bool.not_true, Bool.not_false, cond_true, cond_false, bne, Q85, Q86, Q87, Q88, Q89, Q90, Q91, Q92, Q93, Q94, Q95, Q96, Q97, Q98, Q110, Q111, Q116, Q117, Q118, Q119, Q120, Q121, Q122, Q123, Option.map_some, Option.map_none, Q34]; rfl
    | false =>
     rw [b1, b2, b3] at hok
     simp only [Bool.false_or, Bool.not_eq_true'] at hok
     subst hok
     simp only [c7, c7_0, c7_1, c7_2, cl, l0, l1, l2, b1, b2, b3, hch, sx, Q122, Q0, Q1, Q2, Q3, Q4, Q5, Q6, Q7, Q8, Q9, Q10, Q11, Q12, Q13, Q14, Q15, Q16, Q17, Q18, Q19, Q20, Q21, Q22, Q23, Q24, Q25, Q26, Q27, Q28, Q29, Q30, Q31, Q32, Q33, Q35, Q36, Q37, Q38, Q39, Q40, Q41, Q42, Q43, Q44, Q45, Q46, Q47, Q48, Q49, Q50, Q51, Q52, Q53, Q54, Q55, Q56, Q57, Q58, Q59, Q60, Q61, Q62, Q63, Q64, Q65, Q66, Q67, Q68, Q69, Q70, Q71, Q72, Q73, Q99, Q100, Q101, Q102, Q103, Q74, Q75, Q77, Q78, Q79, Q80, Q81, Q82, Q83, Q84, clr, List.length_nil, List.length_cons, List.getElem?_cons_zero, List.getElem?_cons_succ, Nat.reduceAdd, Nat.zero_add, Nat.add_zero, Nat.reduceLeDiff, Nat.reduceSub, ↓reduceIte, List.drop_succ_cons, List.drop_zero, List.take_succ_cons, List.take_zero, Bool.false_eq_true, List.nil_append, List.cons_append, Bool.not_true, Bool.not_false, cond_true, cond_false, bne, Q85, Q86, Q87, Q88, Q89, Q90, Q91, Q92, Q93, Q94, Q95, Q96, Q97, Q98, Q110, Q111, Q116, Q117, Q118, Q119, Q120, Q121, Q122, Q123, Option.map_some, Option.map_none, Q34]; rfl
 | true =>
  have e : chkT ⟨nm, ar, vs, l⟩ = runT vs 0 (beginT ar) l := by simp only [chkT, checkT, hok]; rfl
  rw [e]
  simp only [okT, Bool.not_eq_true', Bool.or_eq_false_iff] at hok
  obtain ⟨b1, b2, b3, b4⟩ := hok
  have b4 : charT nm = true := by simpa using b4
  rw [b4] at hch
  obtain ⟨n, rfl⟩ := Int.eq_ofNat_of_zero_le (show 0 ≤ ar by simp at b1; omega)
  have hn : n ≤ 16 := by simp at b2; omega
  let K := l.length + 100
  have b0 : (AV.v (.string nm)).below1 0 = true := rfl
  have b3' : c3.below1 0 = true := by cases hs <;> rfl
  obtain ⟨x5, R, hR, g1⟩ := regs_loop (c0 := .v (.string nm)) (c1 := n) (c2 := vs) (c3 := c3) (K := K) hn (by omega) (p := 0) (o := 0) (u := 0) (hd := true) (ov := false) [.agg [.v (.string nm), .v (.int .i64 n), .v (.int .i64 vs), c3], .ptr 0 0, .v (.int .i64 0), .v (.int .i64 0), .ptr 3 0, .v undef, .v undef, .v undef, .v undef, .v undef, .v undef, .v (.bool false), .v (.int .i64 n), .v (.int .i64 0), .v undef, .v undef, .v undef, .v undef, .v undef, .v undef, .v undef] rfl
  obtain ⟨ex, v', h', g2, g3⟩ := check_loop (c0 := .v (.string nm)) (c1 := n) (c2 := vs) (c3 := c3) b0 b3' (K := K) hs hes (by omega) (by omega) (R := R) (N := m0) (s := beginT n) hR (Seen.nil _) [.junk, .ptr 0 0, .junk, .junk, .ptr 3 0, x5, .junk, .junk, .junk, .junk, .junk, .junk, .v (.int .i64 n), .v (.int .i64 n), .v (.bool false), c3, .v (.int .i64 l.length), .v (.int .i64 0), .junk, .junk, .junk] rfl
  have nl := fun h : List AO => hs.len h
  rw [hel] at nl
  have hv3 : ∀ R, Q76 (vH (.v (.string nm)) n vs c3 R m0 0 0 0 true false []) false 1 (.ptr 0 3) = some c3 := fun _ => rfl
  have hv1 : ∀ R, Q76 (vH (.v (.string nm)) n vs c3 R m0 0 0 0 true false []) false 1 (.ptr 0 1) = some (.v (.int .i64 n)) := fun _ => rfl
  have vh0 : [AO.box 24 [.v (.string nm), .v (.int .i64 n), .v (.int .i64 vs), c3], .map (.int .i64) 0 [], .map (.int .i64) 0 [], .box 46 [.v (.string nm), .v (.int .i64 n), .v (.int .i64 vs), c3, .mp 1, .mp 2, .v (.int .i64 0), .v (.int .i64 0), .v (.int .i64 0), .v (.bool true), .v (.bool false)]] = vH (.v (.string nm)) n vs c3 m0 m0 0 0 0 true false [] := rfl
  have pre : ∀ rest : CC, exec (callW F) K (.seq (.region [] [] c7_0) (.seq (.seq (.region [] [] c7_1) (.cond (.var 11) (.seq (.region [] [] c7_2) .ret) .skip)) (.seq (.region [] [] c7_3) (.seq (.seq (.region [] [] c7_4) (.block 0 (.loop K9a [] c7_9))) rest)))) [.agg [.v (.string nm), .v (.int .i64 n), .v (.int .i64 vs), c3], .v undef, .v undef, .v undef, .v undef, .v undef, .v undef, .v undef, .v undef, .v undef, .v undef, .v undef, .v undef, .v undef, .v undef, .v undef, .v undef, .v undef, .v undef, .v undef, .v undef] [] =
    exec (callW F) K rest [.junk, .ptr 0 0, .junk, .junk, .ptr 3 0, x5, .junk, .junk, .junk, .junk, .junk, .junk, .v (.int .i64 n), .v (.int .i64 n), .v (.bool false), .junk, .junk, .junk, .junk, .junk, .junk] (vH (.v (.string nm)) n vs c3 R m0 0 0 0 true false []) := by
   intro rest
   simp only [V9a] at g1
   generalize c7_9 = bb at g1 ⊢
   have clA : (AV.agg [.v (.string nm), .v (.int .i64 n), .v (.int .i64 vs), c3, .mp 1, .mp 2, .v (.int .i64 0), .v (.int .i64 0), .v (.int .i64 0), .v (.bool true), .v (.bool false)]).cl = some [.v (.string nm), .v (.int .i64 n), .v (.int .i64 vs), c3, .mp 1, .mp 2, .v (.int .i64 0), .v (.int .i64 0), .v (.int .i64 0), .v (.bool true), .v (.bool false)] := by cases hs <;> rfl
   have clm : ∀ i, (AV.mp i).cl = some [.mp i] := fun _ => rfl
   have clt : ∀ b, (AV.v (.bool b)).cl = some [.v (.bool b)] := fun _ => rfl
   simp only [c7_0, c7_1, c7_3, c7_4, cl, clA, clm, clt, l0, l1, l2, la, b1, b2, b3, hch, sx, vh0, hv1, g1, e_mkmap, Q106, Q107, Q108, Q109, bd1, toL, List.map_cons, List.map_nil, ofVal, Q112, List.set_cons_zero, List.set_cons_succ, and_self, Nat.le_refl, Q122, Q0, Q1, Q2, Q3, Q4, Q5, Q6, Q7, Q8, Q9, Q10, Q11, Q12, Q13, Q14, Q15, Q16, Q17, Q18, Q19, Q20, Q21, Q22, Q23, Q24, Q25, Q26, Q27, Q28, Q29, Q30, Q31, Q32, Q33, Q35, Q36, Q37, Q38, Q39, Q40, Q41, Q42, Q43, Q44, Q45, Q46, Q47, Q48, Q49, Q50, Q51, Q52, Q53, Q54, Q55, Q56, Q57, Q58, Q59, Q60, Q61, Q62, Q63, Q64, Q65, Q66, Q67, Q68, Q69, Q70, Q71, Q72, Q73, Q99, Q100, Q101, Q102, Q103, Q74, Q75, Q77, Q78, Q79, Q80, Q81, Q82, Q83, Q84, clr, List.length_nil, List.length_cons, List.getElem?_cons_zero, List.getElem?_cons_succ, Nat.reduceAdd, Nat.zero_add, Nat.add_zero, Nat.reduceLeDiff, Nat.reduceSub, ↓reduceIte, List.drop_succ_cons, List.drop_zero, List.take_succ_cons, List.take_zero, Bool.false_eq_true, List.nil_append, List.cons_append, Bool.not_true, Bool.not_false, cond_true, cond_false, bne, Q85, Q86, Q87, Q88, Q89, Q90, Q91, Q92, Q93, Q94, Q95, Q96, Q97, Q98, Q110, Q111, Q116, Q117, Q118, Q119, Q120, Q121, Q122, Q123, Option.map_some, Option.map_none, Q34]
  have g2' : loopN (exec (callW F) K c7_18) K9b K [.junk, .ptr 0 0, .junk, .junk, .ptr 3 0, x5, .junk, .junk, .junk, .junk, .junk, .junk, .v (.int .i64 n), .v (.int .i64 n), .v (.bool false), c3, .v (.int .i64 l.length), .v (.int .i64 0), .junk, .junk, .junk] (vH (.v (.string nm)) n vs c3 R m0 0 0 0 true false []) = some (ex, v', h') := g2
  refine callW_pure (c := c7) rfl rfl K ?_
  rw [st9, hres, show c7.body = (.seq (.region [] [] c7_0) (.seq (.seq (.region [] [] c7_1) (.cond (.var 11) (.seq (.region [] [] c7_2) .ret) .skip)) (.seq (.region [] [] c7_3) (.seq (.seq (.region [] [] c7_4) (.block 0 (.loop K9a [] c7_9))) (.seq (.seq (.region [] [] c7_10) (.block 2 (.loop K9b [] c7_18))) (.seq (.seq (.region [] [] c7_19) (.cond (.var 20) (.seq (.region [] [] c7_20) .ret) .skip)) (.seq (.region [] [] c7_21) .ret))))))) from rfl, pre]
  rcases g3 with ⟨rfl, e2, e3⟩ | ⟨rfl, ⟨x18, rfl⟩, R', N', s', T, rfl, hr⟩
  ·generalize c7_18 = bb at g2' ⊢
   simp only [c7_10, hv3, nl, g2', Q0, Q1, Q2, Q3, Q4, Q5, Q6, Q7, Q8, Q9, Q10, Q11, Q12, Q13, Q14, Q15, Q16, Q17, Q18, Q19, Q20, Q21, Q22, Q23, Q24, Q25, Q26, Q27, Q28, Q29, Q30, Q31, Q32, Q33, Q35, Q36, Q37, Q38, Q39, Q40, Q41, Q42, Q43, Q44, Q45, Q46, Q47, Q48, Q49, Q50, Q51, Q52, Q53, Q54, Q55, Q56, Q57, Q58, Q59, Q60, Q61, Q62, Q63, Q64, Q65, Q66, Q67, Q68, Q69, Q70, Q71, Q72, Q73, Q99, Q100, Q101, Q102, Q103, Q74, Q75, Q77, Q78, Q79, Q80, Q81, Q82, Q83, Q84, clr, List.length_nil, List.length_cons, List.getElem?_cons_zero, List.getElem?_cons_succ, Nat.reduceAdd, Nat.zero_add, Nat.add_zero, Nat.reduceLeDiff, Nat.reduceSub, ↓reduceIte, List.drop_succ_cons, List.drop_zero, List.take_succ_cons, List.take_zero, Bool.false_eq_true, List.nil_append, List.cons_append, Bool.not_true, Bool.not_false, cond_true, cond_false, bne, Q85, Q86, Q87, Q88, Q89, Q90, Q91, Q92, Q93, Q94, Q95, Q96, Q97, Q98, Q110, Q111, Q116, Q117, Q118, Q119, Q120, Q121, Q122, Q123, Option.map_some, Option.map_none]
   exact lv2_two e2 e3
  ·have hv3' : Q76 (vS (.v (.string nm)) n vs c3 R' N' s' T) false 1 (.ptr 0 3) = some c3 := rfl
   have hv10 : Q76 (vS (.v (.string nm)) n vs c3 R' N' s' T) false 1 (.ptr 3 10) = some (.v (.bool s'.over)) := rfl
   rw [hr]
   generalize c7_18 = bb at g2' ⊢
   cases hov : s'.over with
   | true =>
    rw [hov] at hv10
    simp only [c7_10, c7_19, c7_21, hv3, nl, g2', hv10, Q0, Q1, Q2, Q3, Q4, Q5, Q6, Q7, Q8, Q9, Q10, Q11, Q12, Q13, Q14, Q15, Q16, Q17, Q18, Q19, Q20, Q21, Q22, Q23, Q24, Q25, Q26, Q27, Q28, Q29, Q30, Q31, Q32, Q33, Q35, Q36, Q37, Q38, Q39, Q40, Q41, Q42, Q43, Q44, Q45, Q46, Q47, Q48, Q49, Q50, Q51, Q52, Q53, Q54, Q55, Q56, Q57, Q58, Q59, Q60, Q61, Q62, Q63, Q64, Q65, Q66, Q67, Q68, Q69, Q70, Q71, Q72, Q73, Q99, Q100, Q101, Q102, Q103, Q74, Q75, Q77, Q78, Q79, Q80, Q81, Q82, Q83, Q84, clr, List.length_nil, List.length_cons, List.getElem?_cons_zero, List.getElem?_cons_succ, Nat.reduceAdd, Nat.zero_add, Nat.add_zero, Nat.reduceLeDiff, Nat.reduceSub, ↓reduceIte, List.drop_succ_cons, List.drop_zero, List.take_succ_cons, List.take_zero, Bool.false_eq_true, List.nil_append, List.cons_append, Bool.not_true, Bool.not_false, cond_true, cond_false, bne, Q85, Q86, Q87, Q88, Q89, Q90, Q91, Q92, Q93, Q94, Q95, Q96, Q97, Q98, Q110, Q111, Q116, Q117, Q118, Q119, Q120, Q121, Q122, Q123, Option.map_some, Option.map_none]
    rfl
   | false =>
    rw [hov] at hv10
    simp only [c7_10, c7_19, c7_20, hv3, hv3', nl, g2', hv10, Q0, Q1, Q2, Q3, Q4, Q5, Q6, Q7, Q8, Q9, Q10, Q11, Q12, Q13, Q14, Q15, Q16, Q17, Q18, Q19, Q20, Q21, Q22, Q23, Q24, Q25, Q26, Q27, Q28, Q29, Q30, Q31, Q32, Q33, Q35, Q36, Q37, Q38, Q39, Q40, Q41, Q42, Q43, Q44, Q45, Q46, Q47, Q48, Q49, Q50, Q51, Q52, Q53, Q54, Q55, Q56, Q57, Q58, Q59, Q60, Q61, Q62, Q63, Q64, Q65, Q66, Q67, Q68, Q69, Q70, Q71, Q72, Q73, Q99, Q100, Q101, Q102, Q103, Q74, Q75, Q77, Q78, Q79, Q80, Q81, Q82, Q83, Q84, clr, List.length_nil, List.length_cons, List.getElem?_cons_zero, List.getElem?_cons_succ, Nat.reduceAdd, Nat.zero_add, Nat.add_zero, Nat.reduceLeDiff, Nat.reduceSub, ↓reduceIte, List.drop_succ_cons, List.drop_zero, List.take_succ_cons, List.take_zero, Bool.false_eq_true, List.nil_append, List.cons_append, Bool.not_true, Bool.not_false, cond_true, cond_false, bne, Q85, Q86, Q87, Q88, Q89, Q90, Q91, Q92, Q93, Q94, Q95, Q96, Q97, Q98, Q110, Q111, Q116, Q117, Q118, Q119, Q120, Q121, Q122, Q123, Option.map_some, Option.map_none]
    rfl
end Go.AE.YtghgbbiklkpbnaaDoor.Chk
end

section
namespace Go.AE.YtghgbbiklkpbnaaDoor
open Go Go.AE Go.Proofs.YtghgbbiklkpbnaaDoor

theorem run_eq (vs : Int) : ∀ (l : List Op5) (n : Nat) (s : VS), Chk.runT vs n s l = runV Chk.charT vs n s l
 | [], n, s => rfl
 | i :: l, n, s => by
  have e : Chk.stepT vs s i = stepV Chk.charT vs s i := rfl
  rw [Chk.runT, runV, e]
  cases stepV Chk.charT vs s i with
  | none => rfl
  | some s' => exact run_eq vs l (n + 1) s'
theorem allR_in : ∀ {es : List AV} {l : List Op5}, AllR (fun x i => x = o5 i) es l → AllR Chk.IsIn es l
 | _, _, .nil => .nil
 | _, _, .cons a x es xs h hs => .cons _ _ _ _ (by rw [h]; exact Chk.isIn x) (allR_in hs)
theorem isCo {a : AV} {x : Cd} (h : IsCd a x) : Chk.IsCo a ⟨x.nm, x.ar, x.vars, x.l⟩ := by
 cases h with
 | mk s ar v c l hc =>
  obtain ⟨es, h1, h2, h3⟩ := hc
  exact .mk s ar v c l ⟨es, h1, allR_in h2, h3⟩
mutual
theorem num_va (vl : List Int) : ∀ t : Tm, mayT t = true → (∀ n ∈ occT t, n ∈ vl) → vaT Chk.charT vl.length (numT vl t)
 | .mk k s n l, h, ho => by
  rw [mayT] at h
  rw [numT]
  by_cases k1 : k = 1
  ·rw [if_pos k1, vaT]
   have : n ∈ vl := ho n (by rw [occT, k1]; simp)
   have := plc_lt this
   exact .inl ⟨rfl, by omega, by omega⟩
  ·have hb1 : ¬ (k == 1) = true := by simpa using k1
   rw [if_neg hb1] at h
   rw [if_neg k1, vaT]
   by_cases k2 : (k == 2) = true
   ·rw [if_pos k2] at h
    simp only [Bool.and_eq_true, beq_iff_eq] at h k2
    exact .inr (.inl ⟨k2, h.2.2⟩)
   rw [if_neg k2] at h
   by_cases k3 : (k == 3) = true
   ·exact .inr (.inr (.inl (by simpa using k3)))
   rw [if_neg k3] at h
   by_cases k4 : (k == 4) = true
   ·rw [if_pos k4] at h
    simp only [Bool.and_eq_true, beq_iff_eq, Bool.not_eq_true', beq_eq_false_iff_ne, ne_eq, decide_eq_true_eq] at h k4
    have ho' : ∀ m ∈ occL l, m ∈ vl := fun m hm => ho m (by rw [occT]; simp [k1, hm])
    exact .inr (.inr (.inr ⟨k4, h.2.2.2.1, by rw [numL_len]; omega, by rw [numL_len]; omega, numL_va vl l h.2.2.2.2 ho'⟩))
   ·rw [if_neg k4] at h; cases h
theorem numL_va (vl : List Int) : ∀ l : List Tm, mayL l = true → (∀ n ∈ occL l, n ∈ vl) → vaL Chk.charT vl.length (numL vl l)
 | [], _, _ => by rw [numL, vaL]; trivial
 | t :: l, h, ho => by
  rw [mayL, Bool.and_eq_true] at h
  rw [numL, vaL]
  exact ⟨num_va vl t h.1 (fun m hm => ho m (by rw [occL]; simp [hm])), numL_va vl l h.2 (fun m hm => ho m (by rw [occL]; simp [hm]))⟩
end
mutual
theorem bod_va {nmB : ByteArray → Bool} {vs : Int} : ∀ {t : Tm}, vaT nmB vs t → ∀ g ∈ bodT t, vaT nmB vs g
 | .mk k s n l, h, g, hg => by
  rw [bodT] at hg
  split at hg
  ·rename_i hk
   have hv := h
   rw [vaT] at hv
   rcases hv with ⟨e, _⟩ | ⟨e, _⟩ | e | ⟨_, _, _, _, vl⟩
   ·omega
   ·omega
   ·omega
   ·exact bodL_va vl g hg
  ·simp only [List.mem_singleton] at hg
   rw [hg]; exact h
theorem bodL_va {nmB : ByteArray → Bool} {vs : Int} : ∀ {l : List Tm}, vaL nmB vs l → ∀ g ∈ bodL l, vaT nmB vs g
 | [], h, g, hg => by simp [bodL] at hg
 | t :: l, h, g, hg => by
  rw [vaL] at h
  rw [bodL] at hg
  rcases List.mem_append.1 hg with hg | hg
  ·exact bod_va h.1 g hg
  ·exact bodL_va h.2 g hg
end
theorem va_goal {nmB : ByteArray → Bool} {vs : Int} {t : Tm} (v : vaT nmB vs t) (w : wfG t) : vaG nmB vs t := by
 obtain ⟨w1, w2⟩ := w
 cases t with
 | mk k s n l =>
 simp only [Tm.k] at w2
 rw [vaT] at v
 rw [wfT] at w1
 rcases v with ⟨e, _⟩ | ⟨e, hs⟩ | e | ⟨_, hs, _, hl, vl⟩
 ·omega
 ·rcases w1 with ⟨e', _⟩ | ⟨_, _, hl⟩ | ⟨e', _⟩ | ⟨e', _⟩
  ·omega
  ·subst hl; exact ⟨hs, by simp [Tm.l], by simp [Tm.l, vaL]⟩
  ·omega
  ·omega
 ·omega
 ·exact ⟨hs, hl, vl⟩
theorem md_va {t : Tm} {M : Nat} (hz : zT t ≤ M) (h : makeE t = 0) : vaG Chk.charT (mdT t).vars (mdT t).hd ∧ (∀ g ∈ (mdT t).body, vaG Chk.charT (mdT t).vars g) ∧ (mdT t).vars = (varT t).length := by
 have hw := (made hz h).1
 have hc : checkT t = 0 := by
  by_cases hc : checkT t = 0
  ·exact hc
  ·rw [makeE, if_neg hc] at h; exact absurd h hc
 have hv := num_va (varT t) t (check_may hc) (fun n hn => (varT_mem n t).2 hn)
 have hvars : (mdT t).vars = (varT t).length := by
  rw [mdT, cutC]; split <;> rfl
 rw [hvars]
 have key : vaT Chk.charT (varT t).length (mdT t).hd ∧ ∀ g ∈ (mdT t).body, vaT Chk.charT (varT t).length g := by
  rw [mdT, cutC]
  by_cases h2 : is2 (numT (varT t) t) neck = true
  ·rw [if_pos h2]
   have h2' := is2_iff.1 h2
   generalize numT (varT t) t = u at hv h2'
   cases u with
   | mk k s n l =>
   simp only [Tm.k, Tm.l] at h2' ⊢
   obtain ⟨hk, _, hl⟩ := h2'
   rw [vaT] at hv
   rcases hv with ⟨e, _⟩ | ⟨e, _⟩ | e | ⟨_, _, _, _, vl⟩
   ·omega
   ·omega
   ·omega
   ·match l, hl with
    | [x, y], _ =>
     rw [vaL, vaL] at vl
     exact ⟨vl.1, bod_va vl.2.1⟩
  ·rw [if_neg h2]
   exact ⟨hv, by simp⟩
 exact ⟨va_goal key.1 hw.hd, fun g hg => va_goal (key.2 g hg) (hw.body g hg), rfl⟩
theorem upTo_mem (n : Nat) (x : Int) : x ∈ Chk.upTo n ↔ 0 ≤ x ∧ x < n := by
 simp only [Chk.upTo, List.mem_reverse, List.mem_map, List.mem_range]
 constructor
 ·rintro ⟨j, h1, rfl⟩; omega
 ·rintro ⟨h1, h2⟩
  exact ⟨x.toNat, by omega, by omega⟩
theorem goes {t : Tm} {M : Nat} (hz : zT t ≤ M) (h : makeE t = 0) : Chk.chkT ⟨(cdT (mdT t)).nm, (cdT (mdT t)).ar, (cdT (mdT t)).vars, (cdT (mdT t)).l⟩ = (0, 0) := by
 obtain ⟨v1, v2, v3⟩ := md_va hz h
 obtain ⟨s', g1, g2⟩ := go_code (nmB := Chk.charT) (vs := (mdT t).vars) rfl (c := mdT t) v1.2.2 v1.2.1 v2 (R := Chk.upTo (mdT t).hd.l.length)
  (fun j hj => (upTo_mem _ _).2 ⟨by omega, by omega⟩) (fun x hx => by have := (upTo_mem _ _).1 hx; have := v1.2.1; omega)
 have hok : Chk.okT (mdT t).hd.s ((mdT t).hd.l.length : Int) (mdT t).vars = true := by
  have h1 : decide (((mdT t).hd.l.length : Int) < 0) = false := decide_eq_false (by omega)
  have h2 : decide (((mdT t).hd.l.length : Int) > 16) = false := decide_eq_false (by have := v1.2.1; omega)
  have h3 : decide ((mdT t).vars < 0) = false := decide_eq_false (by rw [v3]; omega)
  simp only [Chk.okT, h1, h2, h3, v1.1]
  rfl
 have e : Chk.beginT ((mdT t).hd.l.length : Int) = ⟨Chk.upTo (mdT t).hd.l.length, [], 0, 0, 0, true, false⟩ := by
  simp only [Chk.beginT, Int.toNat_natCast]
 show Chk.checkT (mdT t).hd.s ((mdT t).hd.l.length : Int) (mdT t).vars (codeT (mdT t)) = (0, 0)
 rw [Chk.checkT, hok, if_pos rfl, e, run_eq]
 exact run_go _ _ _ _ _ s' g1 g2
theorem compilesLaw_ok {a : AV} {t : Tm} (ha : IsT a t) : callW F 4 [a] [] = some (.v (.bool true), []) := by
 refine callW_pure (c := c4) rfl rfl 0 ?_
 have hlive := live_ok
 have hf := ha.facts
 have hfew := few_ok t a 2000 ha
 have bxa : bx [] 32 (some a.cells) = some (.ptr 0 0, [.box 32 a.cells]) := rfl
 have e1 : Q76 [.box 32 a.cells] true 4 (.ptr 0 0) = some a := hf.2.2.2.1 [] 32
 have cl := hf.2.2.2.2
 have sn := hf.2.1
 cases hb : decide (fewT t 2000 ≥ 0) with
 | false =>
  rw [hb] at hfew
  simp only [c4, start, List.replicate, c4_0, c4_1, c4_2, c4_3, bxa, cl, e1, sn, snap_int, hlive, hfew, Bool.not_false, Q0, Q1, Q2, Q3, Q4, Q5, Q6, Q7, Q8, Q9, Q10, Q11, Q12, Q13, Q14, Q15, Q16, Q17, Q18, Q19, Q20, Q21, Q22, Q23, Q24, Q25, Q26, Q27, Q28, Q29, Q30, Q31, Q32, Q33, Q35, Q36, Q37, Q38, Q39, Q40, Q41, Q42, Q43, Q44, Q45, Q46, Q47, Q48, Q49, Q50, Q51, Q52, Q53, Q54, Q55, Q56, Q57, Q58, Q59, Q60, Q61, Q62, Q63, Q64, Q65, Q66, Q67, Q68, Q69, Q70, Q71, Q72, Q73, Q99, Q100, Q101, Q102, Q103, Q74, Q75, Q77, Q78, Q79, Q80, Q81, Q82, Q83, Q84, clr, List.length_nil, List.length_cons, List.getElem?_cons_zero, List.getElem?_cons_succ, Nat.reduceAdd, Nat.zero_add, Nat.add_zero, Nat.reduceLeDiff, Nat.reduceSub, ↓reduceIte, List.drop_succ_cons, List.drop_zero, List.take_succ_cons, List.take_zero, Bool.false_eq_true, List.nil_append, List.cons_append, Bool.not_true, Bool.not_false, cond_true, cond_false, bne, Q85, Q86, Q87, Q88, Q89, Q90, Q91, Q92, Q93, Q94, Q95, Q96, Q97, Q98, Q110, Q111, Q116, Q117, Q118, Q119, Q120, Q121, Q122, Q123, Option.map_some, Option.map_none]
 | true =>
  rw [hb] at hfew
  have hz := few_z (t := t) (m := 2000) (by omega) (by omega) hb
  obtain ⟨ca, h6, m1, m2⟩ := make_ok ha (by omega)
  have bx6 : bx [.box 32 a.cells] 35 (some zero6) = some (.ptr 1 0, [.box 32 a.cells, .box 35 zero6]) := rfl
  have s6 : Q113 [.box 32 a.cells, .box 35 zero6] 6 (.ptr 1 0) ca = some [.box 32 a.cells, .box 35 ca.cells] := st6 (h := [.box 32 a.cells]) h6
  have z6 := six_zero
  by_cases he : makeE t = 0
  ·have hne : ((makeE t) == 0) = true := by simp [he]
   have hcl : IsCl ca (mdT t) := m2 he
   obtain ⟨hw, _, hzz⟩ := made (M := 2000) (by omega) he
   have hwl := wfC_l hw
   have hzl : zL (mdT t).hd.l ≤ zT (mdT t).hd := by cases (mdT t).hd; simp only [Tm.l, zT]; omega
   obtain ⟨cd, g1, g2⟩ := clause2_ok hcl hwl.1 hwl.2 (by omega)
   have hchk := Chk.check_ok (isCo g2)
   rw [goes (M := 2000) (by omega) he] at hchk
   have l6 : Q76 [.box 32 a.cells, .box 35 ca.cells] true 6 (.ptr 1 0) = some ca := cl_load (h := [.box 32 a.cells]) (G := []) hcl
   have csn := cl_snap hcl
   have d1 := cd_snap g2
   have e0 : ((0 : Int) == 0) = true := rfl
   simp only [c4, start, List.replicate, c4_0, c4_1, c4_2, c4_4, c4_5, c4_7, c4_8, bxa, cl, e1, sn, snap_int, hlive, hfew, m1, z6, bx6, s6, hne, l6, csn, g1, d1, hchk, e0, Q122, Bool.not_true, Q0, Q1, Q2, Q3, Q4, Q5, Q6, Q7, Q8, Q9, Q10, Q11, Q12, Q13, Q14, Q15, Q16, Q17, Q18, Q19, Q20, Q21, Q22, Q23, Q24, Q25, Q26, Q27, Q28, Q29, Q30, Q31, Q32, Q33, Q35, Q36, Q37, Q38, Q39, Q40, Q41, Q42, Q43, Q44, Q45, Q46, Q47, Q48, Q49, Q50, Q51, Q52, Q53, Q54, Q55, Q56, Q57, Q58, Q59, Q60, Q61, Q62, Q63, Q64, Q65, Q66, Q67, Q68, Q69, Q70, Q71, Q72, Q73, Q99, Q100, Q101, Q102, Q103, Q74, Q75, Q77, Q78, Q79, Q80, Q81, Q82, Q83, Q84, clr, List.length_nil, List.length_cons, List.getElem?_cons_zero, List.getElem?_cons_succ, Nat.reduceAdd, Nat.zero_add, Nat.add_zero, Nat.reduceLeDiff, Nat.reduceSub, ↓reduceIte, List.drop_succ_cons, List.drop_zero, List.take_succ_cons, List.take_zero, Bool.false_eq_true, List.nil_append, List.cons_append, Bool.not_true, Bool.not_false, cond_true, cond_false, bne, Q85, Q86, Q87, Q88, Q89, Q90, Q91, Q92, Q93, Q94, Q95, Q96, Q97, Q98, Q110, Q111, Q116, Q117, Q118, Q119, Q120, Q121, Q122, Q123, Option.map_some, Option.map_none]
  ·have hne : ((makeE t) == 0) = false := by simp [he]
   simp only [c4, start, List.replicate, c4_0, c4_1, c4_2, c4_4, c4_5, c4_6, bxa, cl, e1, sn, snap_int, hlive, hfew, m1, z6, bx6, s6, hne, Bool.not_true, Bool.not_false, Q0, Q1, Q2, Q3, Q4, Q5, Q6, Q7, Q8, Q9, Q10, Q11, Q12, Q13, Q14, Q15, Q16, Q17, Q18, Q19, Q20, Q21, Q22, Q23, Q24, Q25, Q26, Q27, Q28, Q29, Q30, Q31, Q32, Q33, Q35, Q36, Q37, Q38, Q39, Q40, Q41, Q42, Q43, Q44, Q45, Q46, Q47, Q48, Q49, Q50, Q51, Q52, Q53, Q54, Q55, Q56, Q57, Q58, Q59, Q60, Q61, Q62, Q63, Q64, Q65, Q66, Q67, Q68, Q69, Q70, Q71, Q72, Q73, Q99, Q100, Q101, Q102, Q103, Q74, Q75, Q77, Q78, Q79, Q80, Q81, Q82, Q83, Q84, clr, List.length_nil, List.length_cons, List.getElem?_cons_zero, List.getElem?_cons_succ, Nat.reduceAdd, Nat.zero_add, Nat.add_zero, Nat.reduceLeDiff, Nat.reduceSub, ↓reduceIte, List.drop_succ_cons, List.drop_zero, List.take_succ_cons, List.take_zero, Bool.false_eq_true, List.nil_append, List.cons_append, Bool.not_true, Bool.not_false, cond_true, cond_false, bne, Q85, Q86, Q87, Q88, Q89, Q90, Q91, Q92, Q93, Q94, Q95, Q96, Q97, Q98, Q110, Q111, Q116, Q117, Q118, Q119, Q120, Q121, Q122, Q123, Option.map_some, Option.map_none]
end Go.AE.YtghgbbiklkpbnaaDoor
end

section
namespace Go.AE.YtghgbbiklkpbnaaDoor
open Go Go.AE Go.Proofs.YtghgbbiklkpbnaaDoor
theorem tmTy : TmTy T 3 9 2 32 30 := ⟨⟨_, rfl, rfl⟩, ⟨_, rfl, rfl⟩, ⟨_, rfl, rfl⟩, ⟨_, _, _, _, _, rfl, rfl, rfl, rfl, rfl, rfl, rfl, rfl⟩, ⟨_, rfl, rfl⟩⟩
theorem term_in {a : AV} (w : WT T 32 a.cells) (e : Q77 ti32.agg a.cells = some a) : ∃ p, IsT a p := by
 obtain ⟨x, hx⟩ := tmTy.term w
 rw [agg_cells e]; exact ⟨x, hx⟩
end Go.AE.YtghgbbiklkpbnaaDoor
end

section
namespace Go.Proofs.YtghgbbiklkpbnaaDoor
open Go Go.AE Go.Proofs Go.ChangeShapes Go.WideShapes Go.ChangeAt Go.RowKit
open Go.ChangeMaps (open_string shut_string)

theorem own : ownKnob Tryd.prog.godebug = none := by kernel_rfl
theorem laidOut : laidOutB Tryd.prog = true := by kernel_rfl
theorem mixed : Tryd.prog.follows .mixedOrders = true := by kernel_rfl
def G : List TypeId := [2, 3, 9, 30, 32]
theorem hG : goodB T G = true := by kernel_rfl

theorem push_ok : ∀ f, T.push f = true → (∃ g, F f = some (.oracle g) ∧ ∀ args h r h', g args h = some (r, h') → ∃ X, h' = h ++ X) ∨ ∃ c, F f = some (.pkeep c) := by
 intro f h
 have h : pushes.contains f = true := h
 simp only [pushes, List.contains_cons, List.contains_nil, Bool.or_false, beq_iff_eq] at h
 subst h
 exact .inr ⟨_, rfl⟩
theorem law_calls {f : FuncId} {args : List AV} {vals : Array Value} {W : World} (hK : K W.heap.size W) (ha : ArgsRep (AllCells W) W [] args vals) {n : Nat} (he : callN F n f args [] = some (.v (.bool true), [])) :
  Calls Tryd.prog f vals W fun e W' => e = .returned (.bool true) ∧ Below W.heap.size W W' := by
 have hI : AE.Inv W.heap.size W (AllCells W) [] W [] := ⟨Below.refl _ _, Nat.le_refl _, rfl, fun id o L h => by simp at h, fun id L h => by simp at h, fun i j Li Lj h => by simp at h, fun b x h => h⟩
 refine ((callN_ok mixed hT hKs hF push_ok n W.heap.size W hK).calls f args [] _ _ he (AllCells W) [] W vals hI ha).mono fun e W' h => ?_
 obtain ⟨v, I', σ', rfl, hI', _, hr⟩ := h
 cases hr
 exact ⟨rfl, hI'.below⟩
end Go.Proofs.YtghgbbiklkpbnaaDoor
end

section
namespace Go.Proofs.YtghgbbiklkpbnaaDoor
open Go Go.AE Go.Proofs Go.RowKit Go.Lib Go.Shelf

noncomputable def laidWorld (os : Os) : World :=
 let w0 := World.holding Tryd.prog os ⟨#[], #[], []⟩
 let put (h : Array Obj) (g : Nat) (cs : Array Value) : Array Obj := h.modify g fun
  | .cells _ t frozen => .cells cs t frozen
  | o => o
 let h1 := put w0.heap (Tryd.lays196_ren.g 3) (Lib.firstTab.map fun z => Value.int .u8 z).toArray
 let h2 := put h1 (Tryd.lays196_ren.g 4) ((List.range 16).flatMap fun i => [Value.int .u8 (Lib.accLo i), Value.int .u8 (Lib.accHi i)]).toArray
 { w0 with heap := h2 }
set_option maxRecDepth 1000000 in
theorem laid_met (os : Os) (args : Array Value) : laidMetH Tryd.prog Rows.validCompilesRow.laid ((laidWorld os).forCall (fun _ _ => 0) ⟨#[], args, []⟩).memory :=
 (LaidIn.of_run (l := [("unicode/utf8.acceptRanges", Lib.acceptData), ("unicode/utf8.first", Lib.firstData)]) [0, 1] 8 (by kernel_rfl) (by kernel_rfl) (by kernel_rfl) (by kernel_rfl)).met
set_option maxRecDepth 1000000 in
theorem tabs_of {W : World} (hL : laidMetH Tryd.prog Rows.validCompilesRow.laid W) : Lib.Utf8Tabs (Tryd.lays196_ren.g 3) (Tryd.lays196_ren.g 4) W :=
 utf8Tabs_of_readsT (U8Types.of196 Tryd.lays196) ⟨by kernel_rfl, by kernel_rfl, by kernel_rfl, by kernel_rfl, by kernel_rfl, by kernel_rfl, by kernel_rfl⟩ (Lib.laidMet.reads (l := Rows.validCompilesRow.laid) hL (.tail _ (.head _))) (Lib.laidMet.reads (l := Rows.validCompilesRow.laid) hL (.head _))
end Go.Proofs.YtghgbbiklkpbnaaDoor
end

section
namespace Go.Proofs.YtghgbbiklkpbnaaDoor
open Go Go.AE Go.Proofs Go.ChangeShapes Go.WideShapes Go.ChangeAt Go.RowKit
open Go.ChangeMaps (open_string shut_string)
namespace validCompiles
theorem args {I : Cells} {W : World} {a0 : AV} {v0 : Value} (r0 : Rep I W [] a0 v0) : ArgsRep I W [] [a0] #[v0] := by
 refine ⟨rfl, fun i a h => ?_⟩
 match i, h with
 | 0, h => cases h; exact r0
def Plain : Prop := ∀ a0 : AV, WT T 32 a0.cells → Q77 ti32.agg a0.cells = some a0 →
 ∃ n, callN F n 4 [a0] [] = some (.v (.bool true), [])

set_option maxRecDepth 100000 in
theorem lifted (plain : Plain) (os : Os) (started : os.Started) (H : Type) (enc : TypeId × Value → H) :
  ReturnsInHanded {} Tryd.checked os 4 .any (fun w args => (Rows.validCompilesSpec.pre enc Tryd.prog Tryd.f4 [] false w args ∧ laidMetH Tryd.prog Rows.validCompilesRow.laid w) ∧ sizedMet enc Tryd.prog Tryd.f4 (OpenSpec.ofChange Rows.validCompilesSpec) false w args)
   (Rows.validCompilesSpec.post enc Tryd.prog Tryd.f4 false true false false) := by
 refine returnsInHanded_of_change_and (C := Tryd.checked) (X := fun w _ => laidMetH Tryd.prog Rows.validCompilesRow.laid w) (fun _ _ _ hh h => h.of_heap hh) own started (by kernel_rfl) Tryd.func4
  (ChangeSpec.witness_at (enc := enc) (C := Tryd.checked) (os := os) (X := fun w _ => laidMetH Tryd.prog Rows.validCompilesRow.laid w) false (laidWorld os) #[ti32.zero] 8 rfl (by kernel_rfl) (by kernel_rfl) (by kernel_rfl) (by kernel_rfl) (by kernel_rfl) (laid_met os _)) ?_
 intro W base args' ds gs before hval0 hW _ _ hL _
 have hval : ∀ (j : Nat) t v, Tryd.f4.params[j]? = some t → args'[j]? = some v → Value.okWide Tryd.prog W .any base t v := hval0
 have hW' := hW
 obtain ⟨p, q, hA0, hV, rfl, hfz, hnd⟩ := hW
 have hA : DataW.TrodAll enc Tryd.prog W 0 (fun _ => true) true Tryd.f4.params.toList args'.toList ds p := hA0
 rw [Tryd.params4] at hA hval
 obtain ⟨v0, vs0, d0, ds0, p0, q0, hargs, rfl, rfl, h0, r0⟩ := trodAll_cons hA
 obtain ⟨rfl, rfl, rfl⟩ := trodAll_nil r0
 obtain rfl : args' = #[v0] := by cases args'; simp_all
 obtain ⟨rfl, rfl⟩ := trodVars_none hV
 obtain ⟨a0, w0, e0, x0⟩ := trod_arg hT hG (t := 32) (i := ti32) (by decide) rfl (hval 0 32 v0 rfl rfl) h0
 have l0 : ∀ x ∈ p0, x.block < W.heap.size := by obtain ⟨m, hm⟩ := h0; exact DataW.trod_lt m _ _ _ hm
 obtain ⟨n, hn⟩ := plain a0 w0 e0
 refine (law_calls ⟨rfl, tabs_of hL⟩ (args x0) hn).mono fun e W' ⟨he, bel⟩ => ?_
 subst he
 exact ⟨_, rfl, _, _, _, [], _, [], hW', trodAll_mk1 (shut_bool Tryd.underlying4 _),
  (trodAll_cons_mk (Below.trod laidOut (by kernel_rfl) (of_decide_eq_true (by kernel_rfl)) h0 bel l0) trodAll_mk0), rfl, bel.frame _, fun h => by cases h⟩
theorem over (plain : Plain) : Rows.validCompilesRow.holds Tryd.pinned (OpenSpec.ofChange Rows.validCompilesSpec) :=
 OpenClaim.holds_of_wide 4 Tryd.f4 rfl rfl rfl rfl rfl rfl rfl ⟨rfl, rfl, rfl, rfl, rfl⟩ rfl rfl rfl rfl rfl (by kernel_rfl) Tryd.func4 (by kernel_rfl)
  (of_decide_eq_true (by kernel_rfl)) (by unfold Func.isWrapper; first | (rw [if_pos (by decide +kernel)]; kernel_rfl) | (rw [if_neg (by decide +kernel)]; exact ⟨rfl, rfl⟩))
  (fun os started H enc _ => lifted plain os started H enc)
theorem proved (plain : Plain) : Rows.ValidCompilesCardSaid :=
 Claim7.holds_tied_plain_at .later [] Rows.validCompilesCard.laidKinds true Rows.validCompilesCard.stood.harness Rows.validCompilesCard.stood.looks
  (over plain) (fun _ h => by cases h) (by kernel_rfl) (fun _ h => by cases h) validCompiles_row_tie rfl ⟨rfl, rfl⟩ (by kernel_rfl) rfl
  (fun f fn hf hfn => by
   obtain rfl : f = 4 := Option.some.inj ((show Tryd.prog.funcNamed Rows.validCompilesRow.func = some 4 by kernel_rfl).symm.trans hf) |>.symm
   obtain rfl : fn = Tryd.f4 := (Option.some.inj (Tryd.func4.symm.trans hfn)).symm
   refine ⟨by kernel_rfl, fun j t ht => ?_⟩
   rw [Tryd.params4] at ht
   match j, ht with
   | 0, ht => cases ht; exact (show Tryd.prog.wantsStandIn 32 = false by kernel_rfl)
   | _ + 1, ht => simp at ht)
  (by kernel_rfl)
end validCompiles
end Go.Proofs.YtghgbbiklkpbnaaDoor
end
