/- Texts of this claim, put together. -/
import Derived.Test.YtghgbbiklkpbnaaDoorPart1
import Derived.Test.YtghgbbiklkpbnaaDoorEval3
set_option linter.unusedSimpArgs false
set_option linter.unusedVariables false
section
namespace Go.AE.YtghgbbiklkpbnaaDoor
open Go Go.AE Go.Proofs.YtghgbbiklkpbnaaDoor

theorem small_maxM {n m : Nat} (h : n ≤ m) (hm : m ≤ 1000000 := by decide) : n ≤ maxLen := by
 have : maxLen = 9223372036854775807 := rfl
 omega
def iv (n : Int) : AV := .v (.int .i64 n)
mutual
def placesT : Tm → List Int
 | .mk k _ n l => (if k = 1 then [n] else []) ++ placesL l
def placesL : List Tm → List Int
 | [] => []
 | t :: l => placesT t ++ placesL l
end
mutual
theorem places_len : ∀ t : Tm, (placesT t).length ≤ size t
 | .mk k s n l => by
  have := placesL_len l
  simp only [placesT, size, List.length_append]
  split <;> simp <;> omega
theorem placesL_len : ∀ l : List Tm, (placesL l).length ≤ sizeL l
 | [] => by simp [placesL, sizeL]
 | t :: l => by
  have := places_len t
  have := placesL_len l
  simp only [placesL, sizeL, List.length_append]; omega
end

def K38 : List Bool := [false, true, false, false, true, true, true, false, false]
def L38 (n : Int) (c : AV) (len i : Int) : List AV := [.junk, .v (.int .i64 n), .junk, .junk, c, .v (.int .i64 len), .v (.int .i64 i), .junk, .junk]
theorem has_loop {K : Nat} {c : AV} {es : List AV} (hs : Sl 1 c es) (hm : es.length ≤ 1000000) (n : Int) :
  ∀ (l : List Int) (i : Nat) (h : List AO) (vars : List AV), i + l.length = es.length → es.drop i = l.map iv → clr K38 vars = L38 n c es.length i →
   (l.contains n = true ∧ ∃ vs, loopN (exec (callW F) K c39_7) K38 (l.length + 1) vars h = some (.ret, vs, h) ∧ getO vs [] (.var 2) = .v (.bool true)) ∨ (l.contains n = false ∧ ∃ vs, loopN (exec (callW F) K c39_7) K38 (l.length + 1) vars h = some (.exit 0, vs, h) ∧ vs.length = 9) := by
 intro l
 induction l with
 | nil =>
  intro i h vars hi _ hv
  have hil : i = es.length := by simpa using hi
  subst hil
  have hlt : decide ((es.length : Int) < (es.length : Int)) = false := by simp
  refine .inr ⟨rfl, [.junk, .v (.int .i64 n), .junk, .junk, c, .v (.int .i64 es.length), .v (.int .i64 es.length), .v (.bool false), .junk], loop_exit ?_, rfl⟩
  rw [hv]
  simp only [L38, c39_7, c39_2, hlt, Q104, Q105, bs1, bs2, Q106, Q107, Q108, Q109, bd1, Q110, Q111, toL, List.map_cons, List.map_nil, Q112, List.set_cons_zero, List.set_cons_succ, and_self, Nat.le_refl, Q114, Q115, Q116, Q0, Q1, Q2, Q3, Q4, Q5, Q6, Q7, Q8, Q9, Q10, Q11, Q12, Q13, Q14, Q15, Q16, Q17, Q18, Q19, Q20, Q21, Q22, Q23, Q24, Q25, Q26, Q27, Q28, Q29, Q30, Q31, Q32, Q33, Q34, Q35, Q36, Q37, Q38, Q39, Q40, Q41, Q42, Q43, Q44, Q45, Q46, Q47, Q48, Q49, Q50, Q51, Q52, Q53, Q54, Q55, Q56, Q57, Q58, Q59, Q60, Q61, Q62, Q63, Q64, Q65, Q66, Q67, Q68, Q69, Q70, Q71, Q72, Q73, AV.cl, Q74, Q75, Q76, Q77, Q78, Q79, Q80, Q81, Q82, Q83, Q84, clr, List.length_nil, List.length_cons, List.getElem?_cons_zero, List.getElem?_cons_succ, Nat.reduceAdd, Nat.zero_add, Nat.add_zero, Nat.reduceLeDiff, Nat.reduceSub, ↓reduceIte, List.drop_succ_cons, List.drop_zero, List.take_succ_cons, List.take_zero, Bool.false_eq_true, List.nil_append, List.cons_append, Bool.not_true, Bool.not_false, cond_true, cond_false, bne, Q85, Q86, Q87, Q88, Q89, Q90, Q91, Q92, Q93, Q94, Q95, Q96, Q97, Q98]
 | cons k l ih =>
  intro i h vars hi hes hv
  have hil : i < es.length := by simp at hi; omega
  have he : es[i]? = some (iv k) := by
   have : (es.drop i)[0]? = some (iv k) := by rw [hes]; rfl
   simpa using this
  have hd : es.drop (i + 1) = l.map iv := by
   have h2 := congrArg List.tail hes
   simpa using h2
  have hlt : (decide ((i : Int) < (es.length : Int))) = true := by simp; omega
  have q1 := hs.ia he
  by_cases hk : n = k
  ·left
   subst hk
   have he : ((n == n) : Bool) = true := by simp
   refine ⟨by simp, [.junk, .v (.int .i64 n), .v (.bool true), .v (.int .i64 n), c, .v (.int .i64 es.length), .v (.int .i64 i), .v (.bool true), .v (.bool true)], loop_ret ?_, rfl⟩
   rw [hv]
   simp only [L38, iv, AV.cells, c39_7, c39_2, c39_3, c39_4, c39_5, hlt, he, q1, Q104, Q105, bs1, bs2, Q106, Q107, Q108, Q109, bd1, Q110, Q111, toL, List.map_cons, List.map_nil, Q112, List.set_cons_zero, List.set_cons_succ, and_self, Nat.le_refl, Q114, Q115, Q116, Q0, Q1, Q2, Q3, Q4, Q5, Q6, Q7, Q8, Q9, Q10, Q11, Q12, Q13, Q14, Q15, Q16, Q17, Q18, Q19, Q20, Q21, Q22, Q23, Q24, Q25, Q26, Q27, Q28, Q29, Q30, Q31, Q32, Q33, Q34, Q35, Q36, Q37, Q38, Q39, Q40, Q41, Q42, Q43, Q44, Q45, Q46, Q47, Q48, Q49, Q50, Q51, Q52, Q53, Q54, Q55, Q56, Q57, Q58, Q59, Q60, Q61, Q62, Q63, Q64, Q65, Q66, Q67, Q68, Q69, Q70, Q71, Q72, Q73, AV.cl, Q74, Q75, Q76, Q77, Q78, Q79, Q80, Q81, Q82, Q83, Q84, clr, List.length_nil, List.length_cons, List.getElem?_cons_zero, List.getElem?_cons_succ, Nat.reduceAdd, Nat.zero_add, Nat.add_zero, Nat.reduceLeDiff, Nat.reduceSub, ↓reduceIte, List.drop_succ_cons, List.drop_zero, List.take_succ_cons, List.take_zero, Bool.false_eq_true, List.nil_append, List.cons_append, Bool.not_true, Bool.not_false, cond_true, cond_false, bne, Q85, Q86, Q87, Q88, Q89, Q90, Q91, Q92, Q93, Q94, Q95, Q96, Q97, Q98]
  ·have he : ((k == n) : Bool) = false := by simpa using fun e => hk e.symm
   have st : exec (callW F) K c39_7 (L38 n c es.length i) h = some (.normal, [.junk, .v (.int .i64 n), .junk, .v (.int .i64 k), c, .v (.int .i64 es.length), .v (.int .i64 ((i + 1 : Nat) : Int)), .v (.bool true), .v (.bool false)], h) := by
    have : maxLen = 9223372036854775807 := rfl
    simp only [L38, iv, AV.cells, c39_7, c39_2, c39_3, c39_4, c39_6, hlt, he, wrap_succ hil (by omega), q1, Q104, Q105, bs1, bs2, Q106, Q107, Q108, Q109, bd1, Q110, Q111, toL, List.map_cons, List.map_nil, Q112, List.set_cons_zero, List.set_cons_succ, and_self, Nat.le_refl, Q114, Q115, Q116, Q0, Q1, Q2, Q3, Q4, Q5, Q6, Q7, Q8, Q9, Q10, Q11, Q12, Q13, Q14, Q15, Q16, Q17, Q18, Q19, Q20, Q21, Q22, Q23, Q24, Q25, Q26, Q27, Q28, Q29, Q30, Q31, Q32, Q33, Q34, Q35, Q36, Q37, Q38, Q39, Q40, Q41, Q42, Q43, Q44, Q45, Q46, Q47, Q48, Q49, Q50, Q51, Q52, Q53, Q54, Q55, Q56, Q57, Q58, Q59, Q60, Q61, Q62, Q63, Q64, Q65, Q66, Q67, Q68, Q69, Q70, Q71, Q72, Q73, AV.cl, Q74, Q75, Q76, Q77, Q78, Q79, Q80, Q81, Q82, Q83, Q84, clr, List.length_nil, List.length_cons, List.getElem?_cons_zero, List.getElem?_cons_succ, Nat.reduceAdd, Nat.zero_add, Nat.add_zero, Nat.reduceLeDiff, Nat.reduceSub, ↓reduceIte, List.drop_succ_cons, List.drop_zero, List.take_succ_cons, List.take_zero, Bool.false_eq_true, List.nil_append, List.cons_append, Bool.not_true, Bool.not_false, cond_true, cond_false, bne, Q85, Q86, Q87, Q88, Q89, Q90, Q91, Q92, Q93, Q94, Q95, Q96, Q97, Q98]
   rw [show (k :: l).length + 1 = (l.length + 1) + 1 from rfl, loop_normal (by rw [hv]; exact st)]
   have hc : (k :: l).contains n = l.contains n := by
    have : (n == k) = false := by simpa using hk
    rw [List.contains_cons, this, Bool.false_or]
   rw [hc]
   exact ih (i + 1) h _ (by simp at hi; omega) hd rfl
theorem has_ok {c : AV} {ns : List Int} (hs : Sl 1 c (ns.map iv)) (hm : ns.length ≤ 1000000) (n : Int) : callW F 39 [c, .v (.int .i64 n)] [] = some (.v (.bool (ns.contains n)), []) := by
 refine callW_pure (c := c39) rfl rfl (ns.length + 1) ?_
 have key := has_loop (K := ns.length + 1) hs (by simpa using hm) n ns 0 [] (L38 n c (ns.map iv).length (0 : Nat)) (by simp) rfl rfl
 show lv [.var 2] (exec (callW F) (ns.length + 1) (.seq (.region [] [] c39_0) (.seq (.seq (.region [] [] c39_1) (.block 0 (.loop K38 [] c39_7))) (.seq (.region [] [] c39_8) .ret))) _ _) = _
 generalize hrest : (CC.seq (.region [] [] c39_8) .ret) = rest
 simp only [c39, start, List.replicate, c39_0, c39_1, hs.len, Q104, Q105, bs1, bs2, Q106, Q107, Q108, Q109, bd1, Q110, Q111, toL, List.map_cons, List.map_nil, Q112, List.set_cons_zero, List.set_cons_succ, and_self, Nat.le_refl, Q114, Q115, Q116, Q0, Q1, Q2, Q3, Q4, Q5, Q6, Q7, Q8, Q9, Q10, Q11, Q12, Q13, Q14, Q15, Q16, Q17, Q18, Q19, Q20, Q21, Q22, Q23, Q24, Q25, Q26, Q27, Q28, Q29, Q30, Q31, Q32, Q33, Q34, Q35, Q36, Q37, Q38, Q39, Q40, Q41, Q42, Q43, Q44, Q45, Q46, Q47, Q48, Q49, Q50, Q51, Q52, Q53, Q54, Q55, Q56, Q57, Q58, Q59, Q60, Q61, Q62, Q63, Q64, Q65, Q66, Q67, Q68, Q69, Q70, Q71, Q72, Q73, AV.cl, Q74, Q75, Q76, Q77, Q78, Q79, Q80, Q81, Q82, Q83, Q84, clr, List.length_nil, List.length_cons, List.getElem?_cons_zero, List.getElem?_cons_succ, Nat.reduceAdd, Nat.zero_add, Nat.add_zero, Nat.reduceLeDiff, Nat.reduceSub, ↓reduceIte, List.drop_succ_cons, List.drop_zero, List.take_succ_cons, List.take_zero, Bool.false_eq_true, List.nil_append, List.cons_append, Bool.not_true, Bool.not_false, cond_true, cond_false, bne, Q85, Q86, Q87, Q88, Q89, Q90, Q91, Q92, Q93, Q94, Q95, Q96, Q97, Q98]
 rw [loop_cong (v2 := L38 n c (ns.map iv).length ((0 : Nat) : Int)) (by rfl)]
 rcases key with ⟨h0, vs, h1, h2⟩ | ⟨h0, vs, h1, h2⟩
 ·rw [h1, h0]
  simp only [Q18, Q14, h2, Q0, Q1, Q2, Q3, Q4, Q5, Q6, Q7, Q8, Q9, Q10, Q11, Q12, Q13, Q14, Q15, Q16, Q17, Q18, Q19, Q20, Q21, Q22, Q23, Q24, Q25, Q26, Q27, Q28, Q29, Q30, Q31, Q32, Q33, Q34, Q35, Q36, Q37, Q38, Q39, Q40, Q41, Q42, Q43, Q44, Q45, Q46, Q47, Q48, Q49, Q50, Q51, Q52, Q53, Q54, Q55, Q56, Q57, Q58, Q59, Q60, Q61, Q62, Q63, Q64, Q65, Q66, Q67, Q68, Q69, Q70, Q71, Q72, Q73, AV.cl, Q74, Q75, Q76, Q77, Q78, Q79, Q80, Q81, Q82, Q83, Q84, clr, List.length_nil, List.length_cons, List.getElem?_cons_zero, List.getElem?_cons_succ, Nat.reduceAdd, Nat.zero_add, Nat.add_zero, Nat.reduceLeDiff, Nat.reduceSub, ↓reduceIte, List.drop_succ_cons, List.drop_zero, List.take_succ_cons, List.take_zero, Bool.false_eq_true, List.nil_append, List.cons_append, Bool.not_true, Bool.not_false, cond_true, cond_false, bne, Q85, Q86, Q87, Q88, Q89, Q90, Q91, Q92, Q93, Q94, Q95, Q96, Q97, Q98]
 ·rw [h1, h0, ← hrest]
  match vs, h2 with
  | [a0, a1, a2, a3, a4, a5, a6, a7, a8], _ => simp only [c39_8, Q0, Q1, Q2, Q3, Q4, Q5, Q6, Q7, Q8, Q9, Q10, Q11, Q12, Q13, Q14, Q15, Q16, Q17, Q18, Q19, Q20, Q21, Q22, Q23, Q24, Q25, Q26, Q27, Q28, Q29, Q30, Q31, Q32, Q33, Q34, Q35, Q36, Q37, Q38, Q39, Q40, Q41, Q42, Q43, Q44, Q45, Q46, Q47, Q48, Q49, Q50, Q51, Q52, Q53, Q54, Q55, Q56, Q57, Q58, Q59, Q60, Q61, Q62, Q63, Q64, Q65, Q66, Q67, Q68, Q69, Q70, Q71, Q72, Q73, AV.cl, Q74, Q75, Q76, Q77, Q78, Q79, Q80, Q81, Q82, Q83, Q84, clr, List.length_nil, List.length_cons, List.getElem?_cons_zero, List.getElem?_cons_succ, Nat.reduceAdd, Nat.zero_add, Nat.add_zero, Nat.reduceLeDiff, Nat.reduceSub, ↓reduceIte, List.drop_succ_cons, List.drop_zero, List.take_succ_cons, List.take_zero, Bool.false_eq_true, List.nil_append, List.cons_append, Bool.not_true, Bool.not_false, cond_true, cond_false, bne, Q85, Q86, Q87, Q88, Q89, Q90, Q91, Q92, Q93, Q94, Q95, Q96, Q97, Q98]

def K37 : List Bool := [false, false, false, true, false, false, true, true, true, false]
def L37 (acc c : AV) (len i : Int) : List AV := [.junk, .junk, .junk, acc, .junk, .junk, c, .v (.int .i64 len), .v (.int .i64 i), .junk]
theorem places_loop {K : Nat} {c : AV} {es : List AV} (hs : Sl 4 c es) (hm : es.length ≤ 450000) :
  ∀ (l : List Tm) (i : Nat) (acc : AV) (p : List Int) (h : List AO) (vars : List AV), i + l.length = es.length → p.length + sizeL l ≤ 1000000 → All2 (es.drop i) l → (∀ t ∈ l, ∀ (e : AV), IsT e t → ∃ r, Sl 1 r ((placesT t).map iv) ∧ callW F 38 [e] [] = some (r, [])) →
   Acc 2 1 h acc (p.map iv) → clr K37 vars = L37 acc c es.length i →
   ∃ acc' h' x4 x5 x9, loopN (exec (callW F) K c38_9) K37 (l.length + 1) vars h = some (.exit 0, [.junk, .junk, .junk, acc', x4, x5, c, .v (.int .i64 es.length), .v (.int .i64 es.length), x9], h') ∧ Acc 2 1 h' acc' ((p ++ placesL l).map iv) := by
 intro l
 induction l with
 | nil =>
  intro i acc p h vars hi hp _ _ ha hv
  have hil : i = es.length := by simpa using hi
  subst hil
  have hlt : decide ((es.length : Int) < (es.length : Int)) = false := by simp
  refine ⟨acc, h, .junk, .junk, .v (.bool false), loop_exit ?_, by simpa [placesL] using ha⟩
  rw [hv]
  simp only [L37, c38_9, c38_5, hlt, Q104, Q105, bs1, bs2, Q106, Q107, Q108, Q109, bd1, Q110, Q111, toL, List.map_cons, List.map_nil, Q112, List.set_cons_zero, List.set_cons_succ, and_self, Nat.le_refl, Q114, Q115, Q116, Q0, Q1, Q2, Q3, Q4, Q5, Q6, Q7, Q8, Q9, Q10, Q11, Q12, Q13, Q14, Q15, Q16, Q17, Q18, Q19, Q20, Q21, Q22, Q23, Q24, Q25, Q26, Q27, Q28, Q29, Q30, Q31, Q32, Q33, Q34, Q35, Q36, Q37, Q38, Q39, Q40, Q41, Q42, Q43, Q44, Q45, Q46, Q47, Q48, Q49, Q50, Q51, Q52, Q53, Q54, Q55, Q56, Q57, Q58, Q59, Q60, Q61, Q62, Q63, Q64, Q65, Q66, Q67, Q68, Q69, Q70, Q71, Q72, Q73, Q99, Q100, Q101, Q102, Q103, Q74, Q75, Q77, Q78, Q79, Q80, Q81, Q82, Q83, Q84, clr, List.length_nil, List.length_cons, List.getElem?_cons_zero, List.getElem?_cons_succ, Nat.reduceAdd, Nat.zero_add, Nat.add_zero, Nat.reduceLeDiff, Nat.reduceSub, ↓reduceIte, List.drop_succ_cons, List.drop_zero, List.take_succ_cons, List.take_zero, Bool.false_eq_true, List.nil_append, List.cons_append, Bool.not_true, Bool.not_false, cond_true, cond_false, bne, Q85, Q86, Q87, Q88, Q89, Q90, Q91, Q92, Q93, Q94, Q95, Q96, Q97, Q98]
 | cons t l ih =>
  intro i acc p h vars hi hp hes hcall ha hv
  have hil : i < es.length := by simp at hi; omega
  have he : es[i]? = some (es[i]'hil) := List.getElem?_eq_getElem _
  have hd : es.drop i = es[i] :: es.drop (i + 1) := List.drop_eq_getElem_cons hil
  rw [hd] at hes
  generalize es[i]'hil = e at hes he
  cases hes with
  | cons _ _ _ _ hT hs' =>
  obtain ⟨r, hr, hc⟩ := hcall t (by simp) _ hT
  have hpl := places_len t
  simp only [sizeL] at hp
  obtain ⟨acc', h2, h3, h4, h5⟩ := (ha.app (.box 32 e.cells)).add (x := r) (bytes := 8) (hr.elems _) (by
   have : room = 140737488355328 := rfl
   simp only [fits, List.length_map, decide_eq_true_eq]; omega)
  have hlt : (decide ((i : Int) < (es.length : Int))) = true := by simp; omega
  have q1 := hs.ia he
  have q3 : ∀ h : List AO, Q76 h true 4 (.ip e.cells) = some e := fun h => hT.load
  have q5 : ∀ h : List AO, e.snap1 h = some e := fun h => hT.snap
  have st : exec (callW F) K c38_9 (L37 acc c es.length i) h = some (.normal, [.junk, .junk, .junk, acc', .ptr h.length 0, .junk, c, .v (.int .i64 es.length), .v (.int .i64 ((i + 1 : Nat) : Int)), .v (.bool true)], h2) := by
   have hz : ([.v (.int .i64 0), .v (.string ⟨#[]⟩), .v (.int .i64 0), .v (.slice none 0 0)] : List AV).length = 4 := rfl
   simp only [L37, c38_9, c38_5, c38_6, c38_7, c38_8, hlt, wrap_succ hil (small_maxM hm), q1, q3, q5, hc, h3, hT.st _ _ hz, hT.ld, q9z, e_append, Q104, Q105, bs1, bs2, Q106, Q107, Q108, Q109, bd1, Q110, Q111, toL, List.map_cons, List.map_nil, Q112, List.set_cons_zero, List.set_cons_succ, and_self, Nat.le_refl, Q114, Q115, Q116, Q0, Q1, Q2, Q3, Q4, Q5, Q6, Q7, Q8, Q9, Q10, Q11, Q12, Q13, Q14, Q15, Q16, Q17, Q18, Q19, Q20, Q21, Q22, Q23, Q24, Q25, Q26, Q27, Q28, Q29, Q30, Q31, Q32, Q33, Q34, Q35, Q36, Q37, Q38, Q39, Q40, Q41, Q42, Q43, Q44, Q45, Q46, Q47, Q48, Q49, Q50, Q51, Q52, Q53, Q54, Q55, Q56, Q57, Q58, Q59, Q60, Q61, Q62, Q63, Q64, Q65, Q66, Q67, Q68, Q69, Q70, Q71, Q72, Q73, Q99, Q100, Q101, Q102, Q103, Q74, Q75, Q77, Q78, Q79, Q80, Q81, Q82, Q83, Q84, clr, List.length_nil, List.length_cons, List.getElem?_cons_zero, List.getElem?_cons_succ, Nat.reduceAdd, Nat.zero_add, Nat.add_zero, Nat.reduceLeDiff, Nat.reduceSub, ↓reduceIte, List.drop_succ_cons, List.drop_zero, List.take_succ_cons, List.take_zero, Bool.false_eq_true, List.nil_append, List.cons_append, Bool.not_true, Bool.not_false, cond_true, cond_false, bne, Q85, Q86, Q87, Q88, Q89, Q90, Q91, Q92, Q93, Q94, Q95, Q96, Q97, Q98]
  rw [show (t :: l).length + 1 = (l.length + 1) + 1 from rfl, loop_normal (by rw [hv]; exact st)]
  rw [← List.map_append] at h4
  obtain ⟨acc'', h', x4, x5, x9, g1, g2⟩ := ih (i + 1) acc' (p ++ placesT t) h2 [.junk, .junk, .junk, acc', .ptr h.length 0, .junk, c, .v (.int .i64 es.length), .v (.int .i64 ((i + 1 : Nat) : Int)), .v (.bool true)] (by simp at hi; omega) (by rw [List.length_append]; omega) hs' (fun t ht => hcall t (by simp [ht])) h4 rfl
  refine ⟨acc'', h', x4, x5, x9, g1, ?_⟩
  rw [placesL, ← List.append_assoc]
  exact g2

theorem places_ok : ∀ (N : Nat) (t : Tm) (a : AV), SizeOf.sizeOf t < N → size t ≤ 450000 → IsT a t → ∃ r, Sl 1 r ((placesT t).map iv) ∧ callW F 38 [a] [] = some (r, []) := by
 intro N
 induction N with
 | zero => intro t a h; omega
 | succ N ih =>
  intro t a hN hsz ha
  cases ha with
  | mk k s n c l hc =>
  have h5 := Tm.mk.sizeOf_spec k s n l
  simp only [size] at hsz
  have hll := sizeL_len l
  have hcall : ∀ t ∈ l, ∀ (e : AV), IsT e t → ∃ r, Sl 1 r ((placesT t).map iv) ∧ callW F 38 [e] [] = some (r, []) := by
   intro t ht e hT
   have h6 := List.sizeOf_lt_of_mem ht
   have h7 := size_mem ht
   exact ih t e (by omega) (by omega) hT
  obtain ⟨es, hs, hes, hm⟩ := hc.sl
  have e1 := hes.length
  have key : ∀ (p : List Int) (acc : AV) (h : List AO), p.length ≤ 10 → Acc 2 1 h acc (p.map iv) → ∃ acc' h' x4 x5 x9, loopN (exec (callW F) (l.length + 1) c38_9) K37 (l.length + 1) (L37 acc c es.length (0 : Nat)) h = some (.exit 0, [.junk, .junk, .junk, acc', x4, x5, c, .v (.int .i64 es.length), .v (.int .i64 es.length), x9], h') ∧ Acc 2 1 h' acc' ((p ++ placesL l).map iv) :=
   fun p acc h hp ha => places_loop (K := l.length + 1) hs (by omega) l 0 acc p h (L37 acc c es.length (0 : Nat)) (by omega) (by omega) (by simpa using hes) hcall ha rfl
  by_cases hk : k = 1
  ·have h1 : (k == 1) = true := by simpa using hk
   have hap : evAppend [.box 32 [.v (.int .i64 k), .v (.string s), .v (.int .i64 n), c]] 2 1 8 (.v (.slice none 0 0)) (.slc 1 true true [.v (.int .i64 n)]) = some (.own 1 1 0 0 1, [.box 32 [.v (.int .i64 k), .v (.string s), .v (.int .i64 n), c], .row 2 1 0 [.v (.int .i64 n)] 0]) := ap_new (h := [.box 32 [.v (.int .i64 k), .v (.string s), .v (.int .i64 n), c]]) (by simp) (by simp only [List.length_cons, List.length_nil]; decide)
   obtain ⟨acc', h', x4, x5, x9, g1, g2⟩ := key [n] (.own 1 1 0 0 1) [.box 32 [.v (.int .i64 k), .v (.string s), .v (.int .i64 n), c], .row 2 1 0 [.v (.int .i64 n)] 0] (by simp) (.own 1 0 0 [.v (.int .i64 n)] rfl (by simp) (by simp))
   obtain ⟨r, g3, g4⟩ := g2.lvf
   refine ⟨r, by rw [placesT, if_pos hk]; exact g4, callW_pure (c := c38) rfl rfl (l.length + 1) ?_⟩
   show lv [.var 2] (exec (callW F) (l.length + 1) (.seq (.region [] [] c38_0) (.seq (.region [] [] c38_1) (.seq (.seq (.region [] [] c38_2) (.cond (.var 5) (.region [] [] c38_3) .skip)) (.seq (.seq (.region [] [] c38_4) (.block 0 (.loop K37 [] c38_9))) (.seq (.region [] [] c38_10) .ret))))) _ _) = _
   generalize hrest : (CC.seq (.region [] [] c38_10) .ret) = rest
   simp only [c38, start, List.replicate, c38_0, c38_1, c38_2, c38_3, c38_4, h1, hs.len, hap, snap_int, bs1_some (y := .v (.int .i64 n)) (sz := 1) Q111 rfl, e_append, q9z, Q113, Q104, Q105, bs1, bs2, Q106, Q107, Q108, Q109, bd1, Q110, Q111, toL, List.map_cons, List.map_nil, Q112, List.set_cons_zero, List.set_cons_succ, and_self, Nat.le_refl, Q113, Q114, Q115, Q116, Q0, Q1, Q2, Q3, Q4, Q5, Q6, Q7, Q8, Q9, Q10, Q11, Q12, Q13, Q14, Q15, Q16, Q17, Q18, Q19, Q20, Q21, Q22, Q23, Q24, Q25, Q26, Q27, Q28, Q29, Q30, Q31, Q32, Q33, Q34, Q35, Q36, Q37, Q38, Q39, Q40, Q41, Q42, Q43, Q44, Q45, Q46, Q47, Q48, Q49, Q50, Q51, Q52, Q53, Q54, Q55, Q56, Q57, Q58, Q59, Q60, Q61, Q62, Q63, Q64, Q65, Q66, Q67, Q68, Q69, Q70, Q71, Q72, Q73, Q99, Q100, Q101, Q102, Q103, Q74, Q75, Q76, Q77, Q78, Q79, Q80, Q81, Q82, Q83, Q84, clr, List.length_nil, List.length_cons, List.getElem?_cons_zero, List.getElem?_cons_succ, Nat.reduceAdd, Nat.zero_add, Nat.add_zero, Nat.reduceLeDiff, Nat.reduceSub, ↓reduceIte, List.drop_succ_cons, List.drop_zero, List.take_succ_cons, List.take_zero, Bool.false_eq_true, List.nil_append, List.cons_append, Bool.not_true, Bool.not_false, cond_true, cond_false, bne, Q85, Q86, Q87, Q88, Q89, Q90, Q91, Q92, Q93, Q94, Q95, Q96, Q97, Q98]
   rw [loop_cong (v2 := L37 (.own 1 1 0 0 1) c es.length ((0 : Nat) : Int)) (by rfl), g1, ← hrest]
   simp only [Q19, Q12, c38_10, g3, Q0, Q1, Q2, Q3, Q4, Q5, Q6, Q7, Q8, Q9, Q10, Q11, Q12, Q13, Q14, Q15, Q16, Q17, Q18, Q19, Q20, Q21, Q22, Q23, Q24, Q25, Q26, Q27, Q28, Q29, Q30, Q31, Q32, Q33, Q34, Q35, Q36, Q37, Q38, Q39, Q40, Q41, Q42, Q43, Q44, Q45, Q46, Q47, Q48, Q49, Q50, Q51, Q52, Q53, Q54, Q55, Q56, Q57, Q58, Q59, Q60, Q61, Q62, Q63, Q64, Q65, Q66, Q67, Q68, Q69, Q70, Q71, Q72, Q73, Q99, Q100, Q101, Q102, Q103, Q74, Q75, Q77, Q78, Q79, Q80, Q81, Q82, Q83, Q84, clr, List.length_nil, List.length_cons, List.getElem?_cons_zero, List.getElem?_cons_succ, Nat.reduceAdd, Nat.zero_add, Nat.add_zero, Nat.reduceLeDiff, Nat.reduceSub, ↓reduceIte, List.drop_succ_cons, List.drop_zero, List.take_succ_cons, List.take_zero, Bool.false_eq_true, List.nil_append, List.cons_append, Bool.not_true, Bool.not_false, cond_true, cond_false, bne, Q85, Q86, Q87, Q88, Q89, Q90, Q91, Q92, Q93, Q94, Q95, Q96, Q97, Q98]
  ·have h1 : (k == 1) = false := by simpa using hk
   obtain ⟨acc', h', x4, x5, x9, g1, g2⟩ := key [] (.v (.slice none 0 0)) [.box 32 [.v (.int .i64 k), .v (.string s), .v (.int .i64 n), c]] (by simp) .nil
   obtain ⟨r, g3, g4⟩ := g2.lvf
   refine ⟨r, by rw [placesT, if_neg hk]; exact g4, callW_pure (c := c38) rfl rfl (l.length + 1) ?_⟩
   show lv [.var 2] (exec (callW F) (l.length + 1) (.seq (.region [] [] c38_0) (.seq (.region [] [] c38_1) (.seq (.seq (.region [] [] c38_2) (.cond (.var 5) (.region [] [] c38_3) .skip)) (.seq (.seq (.region [] [] c38_4) (.block 0 (.loop K37 [] c38_9))) (.seq (.region [] [] c38_10) .ret))))) _ _) = _
   generalize hrest : (CC.seq (.region [] [] c38_10) .ret) = rest
   simp only [c38, start, List.replicate, c38_0, c38_1, c38_2, c38_4, h1, hs.len, Q113, Q104, Q105, bs1, bs2, Q106, Q107, Q108, Q109, bd1, Q110, Q111, toL, List.map_cons, List.map_nil, Q112, List.set_cons_zero, List.set_cons_succ, and_self, Nat.le_refl, Q113, Q114, Q115, Q116, Q0, Q1, Q2, Q3, Q4, Q5, Q6, Q7, Q8, Q9, Q10, Q11, Q12, Q13, Q14, Q15, Q16, Q17, Q18, Q19, Q20, Q21, Q22, Q23, Q24, Q25, Q26, Q27, Q28, Q29, Q30, Q31, Q32, Q33, Q34, Q35, Q36, Q37, Q38, Q39, Q40, Q41, Q42, Q43, Q44, Q45, Q46, Q47, Q48, Q49, Q50, Q51, Q52, Q53, Q54, Q55, Q56, Q57, Q58, Q59, Q60, Q61, Q62, Q63, Q64, Q65, Q66, Q67, Q68, Q69, Q70, Q71, Q72, Q73, Q99, Q100, Q101, Q102, Q103, Q74, Q75, Q76, Q77, Q78, Q79, Q80, Q81, Q82, Q83, Q84, clr, List.length_nil, List.length_cons, List.getElem?_cons_zero, List.getElem?_cons_succ, Nat.reduceAdd, Nat.zero_add, Nat.add_zero, Nat.reduceLeDiff, Nat.reduceSub, ↓reduceIte, List.drop_succ_cons, List.drop_zero, List.take_succ_cons, List.take_zero, Bool.false_eq_true, List.nil_append, List.cons_append, Bool.not_true, Bool.not_false, cond_true, cond_false, bne, Q85, Q86, Q87, Q88, Q89, Q90, Q91, Q92, Q93, Q94, Q95, Q96, Q97, Q98]
   rw [loop_cong (v2 := L37 (.v (.slice none 0 0)) c es.length ((0 : Nat) : Int)) (by rfl), g1, ← hrest]
   simp only [Q19, Q12, c38_10, g3, Q0, Q1, Q2, Q3, Q4, Q5, Q6, Q7, Q8, Q9, Q10, Q11, Q12, Q13, Q14, Q15, Q16, Q17, Q18, Q19, Q20, Q21, Q22, Q23, Q24, Q25, Q26, Q27, Q28, Q29, Q30, Q31, Q32, Q33, Q34, Q35, Q36, Q37, Q38, Q39, Q40, Q41, Q42, Q43, Q44, Q45, Q46, Q47, Q48, Q49, Q50, Q51, Q52, Q53, Q54, Q55, Q56, Q57, Q58, Q59, Q60, Q61, Q62, Q63, Q64, Q65, Q66, Q67, Q68, Q69, Q70, Q71, Q72, Q73, Q99, Q100, Q101, Q102, Q103, Q74, Q75, Q77, Q78, Q79, Q80, Q81, Q82, Q83, Q84, clr, List.length_nil, List.length_cons, List.getElem?_cons_zero, List.getElem?_cons_succ, Nat.reduceAdd, Nat.zero_add, Nat.add_zero, Nat.reduceLeDiff, Nat.reduceSub, ↓reduceIte, List.drop_succ_cons, List.drop_zero, List.take_succ_cons, List.take_zero, Bool.false_eq_true, List.nil_append, List.cons_append, Bool.not_true, Bool.not_false, cond_true, cond_false, bne, Q85, Q86, Q87, Q88, Q89, Q90, Q91, Q92, Q93, Q94, Q95, Q96, Q97, Q98]

def addNew (p : List Int) (n : Int) : List Int := if p.contains n then p else p ++ [n]
def varsT (t : Tm) : List Int := (placesT t).foldl addNew []
def K19v : List Bool := [false, false, false, true, false, true, true, true, false, false]
def L19v (acc c : AV) (len i : Int) : List AV := [.junk, .junk, .junk, acc, .junk, c, .v (.int .i64 len), .v (.int .i64 i), .junk, .junk]
end Go.AE.YtghgbbiklkpbnaaDoor
end

section
namespace Go.AE.YtghgbbiklkpbnaaDoor
open Go Go.AE Go.Proofs.YtghgbbiklkpbnaaDoor

theorem addNew_len (p : List Int) (n : Int) : (addNew p n).length ≤ p.length + 1 := by
 simp only [addNew]; split <;> simp
theorem foldNew_len : ∀ (l p : List Int), (l.foldl addNew p).length ≤ p.length + l.length
 | [], p => by simp
 | n :: l, p => by
  have := foldNew_len l (addNew p n)
  have := addNew_len p n
  simp only [List.foldl_cons, List.length_cons]; omega
theorem vars_loop {K : Nat} {c : AV} {es : List AV} (hs : Sl 1 c es) (hm : es.length ≤ 450000) :
  ∀ (l : List Int) (i : Nat) (acc : AV) (p : List Int) (h : List AO) (vars : List AV), i + l.length = es.length → p.length ≤ i → es.drop i = l.map iv →
   Acc 2 1 h acc (p.map iv) → clr K19v vars = L19v acc c es.length i →
   ∃ acc' h' x4 x8 x9, loopN (exec (callW F) K c23_8) K19v (l.length + 1) vars h = some (.exit 0, [.junk, .junk, .junk, acc', x4, c, .v (.int .i64 es.length), .v (.int .i64 es.length), x8, x9], h') ∧ Acc 2 1 h' acc' ((l.foldl addNew p).map iv) := by
 intro l
 induction l with
 | nil =>
  intro i acc p h vars hi hp _ ha hv
  have hil : i = es.length := by simpa using hi
  subst hil
  have hlt : decide ((es.length : Int) < (es.length : Int)) = false := by simp
  refine ⟨acc, h, .junk, .v (.bool false), .junk, loop_exit ?_, ha⟩
  rw [hv]
  simp only [L19v, c23_8, c23_3, hlt, Q104, Q105, bs1, bs2, Q106, Q107, Q108, Q109, bd1, Q110, Q111, toL, List.map_cons, List.map_nil, Q112, List.set_cons_zero, List.set_cons_succ, and_self, Nat.le_refl, Q114, Q115, Q116, Q0, Q1, Q2, Q3, Q4, Q5, Q6, Q7, Q8, Q9, Q10, Q11, Q12, Q13, Q14, Q15, Q16, Q17, Q18, Q19, Q20, Q21, Q22, Q23, Q24, Q25, Q26, Q27, Q28, Q29, Q30, Q31, Q32, Q33, Q34, Q35, Q36, Q37, Q38, Q39, Q40, Q41, Q42, Q43, Q44, Q45, Q46, Q47, Q48, Q49, Q50, Q51, Q52, Q53, Q54, Q55, Q56, Q57, Q58, Q59, Q60, Q61, Q62, Q63, Q64, Q65, Q66, Q67, Q68, Q69, Q70, Q71, Q72, Q73, Q99, Q100, Q101, Q102, Q103, Q74, Q75, Q77, Q78, Q79, Q80, Q81, Q82, Q83, Q84, clr, List.length_nil, List.length_cons, List.getElem?_cons_zero, List.getElem?_cons_succ, Nat.reduceAdd, Nat.zero_add, Nat.add_zero, Nat.reduceLeDiff, Nat.reduceSub, ↓reduceIte, List.drop_succ_cons, List.drop_zero, List.take_succ_cons, List.take_zero, Bool.false_eq_true, List.nil_append, List.cons_append, Bool.not_true, Bool.not_false, cond_true, cond_false, bne, Q85, Q86, Q87, Q88, Q89, Q90, Q91, Q92, Q93, Q94, Q95, Q96, Q97, Q98]
 | cons n l ih =>
  intro i acc p h vars hi hp hes ha hv
  have hil : i < es.length := by simp at hi; omega
  have he : es[i]? = some (iv n) := by
   have : (es.drop i)[0]? = some (iv n) := by rw [hes]; rfl
   simpa using this
  have hd : es.drop (i + 1) = l.map iv := by
   have h2 := congrArg List.tail hes
   simpa using h2
  have hlt : (decide ((i : Int) < (es.length : Int))) = true := by simp; omega
  have q1 := hs.ia he
  obtain ⟨f1, f2, c', f3, f4⟩ := ha.fix
  have hc := has_ok f4 (by omega) n
  have hcf : cf (callW F) 39 h [acc, .v (.int .i64 n)] = some (.v (.bool (p.contains n)), raise1 h acc) := by
   refine cf_of (vs := [c', .v (.int .i64 n)]) rfl ?_ hc
   show ([acc, AV.v (.int .i64 n)] : List AV).mapM (AV.snap1 (raise1 h acc)) = _
   simp [f3, snap_int]
  have hmax : es.length ≤ maxLen := small_maxM hm
  rw [show (n :: l).length + 1 = (l.length + 1) + 1 from rfl, List.foldl_cons]
  have q3 : ∀ h, Q76 h false 1 (.ip [.v (.int .i64 n)]) = some (.v (.int .i64 n)) := fun _ => rfl
  cases hh : p.contains n with
  | true =>
   rw [hh] at hcf
   have st : exec (callW F) K c23_8 (L19v acc c es.length i) h = some (.normal, [.junk, .junk, .junk, acc, .v (.int .i64 n), c, .v (.int .i64 es.length), .v (.int .i64 ((i + 1 : Nat) : Int)), .v (.bool true), .v (.bool false)], raise1 h acc) := by
    simp only [L19v, iv, AV.cells, c23_8, c23_3, c23_4, c23_5, c23_7, hlt, wrap_succ hil hmax, q1, q3, hcf, e_callf, List.map_cons, List.map_nil, snap_int, Q104, Q105, bs1, bs2, Q106, Q107, Q108, Q109, bd1, Q110, Q111, toL, List.map_cons, List.map_nil, Q112, List.set_cons_zero, List.set_cons_succ, and_self, Nat.le_refl, Q114, Q115, Q116, Q0, Q1, Q2, Q3, Q4, Q5, Q6, Q7, Q8, Q9, Q10, Q11, Q12, Q13, Q14, Q15, Q16, Q17, Q18, Q19, Q20, Q21, Q22, Q23, Q24, Q25, Q26, Q27, Q28, Q29, Q30, Q31, Q32, Q33, Q34, Q35, Q36, Q37, Q38, Q39, Q40, Q41, Q42, Q43, Q44, Q45, Q46, Q47, Q48, Q49, Q50, Q51, Q52, Q53, Q54, Q55, Q56, Q57, Q58, Q59, Q60, Q61, Q62, Q63, Q64, Q65, Q66, Q67, Q68, Q69, Q70, Q71, Q72, Q73, Q99, Q100, Q101, Q102, Q103, Q74, Q75, Q77, Q78, Q79, Q80, Q81, Q82, Q83, Q84, clr, List.length_nil, List.length_cons, List.getElem?_cons_zero, List.getElem?_cons_succ, Nat.reduceAdd, Nat.zero_add, Nat.add_zero, Nat.reduceLeDiff, Nat.reduceSub, ↓reduceIte, List.drop_succ_cons, List.drop_zero, List.take_succ_cons, List.take_zero, Bool.false_eq_true, List.nil_append, List.cons_append, Bool.not_true, Bool.not_false, cond_true, cond_false, bne, Q85, Q86, Q87, Q88, Q89, Q90, Q91, Q92, Q93, Q94, Q95, Q96, Q97, Q98]
   rw [loop_normal (by rw [hv]; exact st)]
   have e : addNew p n = p := by simp only [addNew, hh, if_true]
   rw [e]
   exact ih (i + 1) acc p _ _ (by simp at hi; omega) (by omega) hd f1 rfl
  | false =>
   rw [hh] at hcf
   obtain ⟨acc', h2, h3, h4, h5⟩ := f1.add (x := .slc 1 true true [.v (.int .i64 n)]) (ys := [.v (.int .i64 n)]) (bytes := 8) elems_one (by
    have : room = 140737488355328 := rfl
    simp only [fits, List.length_map, List.length_cons, List.length_nil, decide_eq_true_eq]; omega)
   have st : exec (callW F) K c23_8 (L19v acc c es.length i) h = some (.normal, [.junk, .junk, .junk, acc', .v (.int .i64 n), c, .v (.int .i64 es.length), .v (.int .i64 ((i + 1 : Nat) : Int)), .v (.bool true), .v (.bool true)], h2) := by
    simp only [L19v, iv, AV.cells, c23_8, c23_3, c23_4, c23_5, c23_6, c23_7, hlt, wrap_succ hil hmax, q1, q3, hcf, e_callf, List.map_cons, List.map_nil, h3, snap_int, e_append, bs1_some (y := .v (.int .i64 n)) (sz := 1) Q111 rfl, Q104, Q105, bs1, bs2, Q106, Q107, Q108, Q109, bd1, Q110, Q111, toL, List.map_cons, List.map_nil, Q112, List.set_cons_zero, List.set_cons_succ, and_self, Nat.le_refl, Q114, Q115, Q116, Q0, Q1, Q2, Q3, Q4, Q5, Q6, Q7, Q8, Q9, Q10, Q11, Q12, Q13, Q14, Q15, Q16, Q17, Q18, Q19, Q20, Q21, Q22, Q23, Q24, Q25, Q26, Q27, Q28, Q29, Q30, Q31, Q32, Q33, Q34, Q35, Q36, Q37, Q38, Q39, Q40, Q41, Q42, Q43, Q44, Q45, Q46, Q47, Q48, Q49, Q50, Q51, Q52, Q53, Q54, Q55, Q56, Q57, Q58, Q59, Q60, Q61, Q62, Q63, Q64, Q65, Q66, Q67, Q68, Q69, Q70, Q71, Q72, Q73, Q99, Q100, Q101, Q102, Q103, Q74, Q75, Q77, Q78, Q79, Q80, Q81, Q82, Q83, Q84, clr, List.length_nil, List.length_cons, List.getElem?_cons_zero, List.getElem?_cons_succ, Nat.reduceAdd, Nat.zero_add, Nat.add_zero, Nat.reduceLeDiff, Nat.reduceSub, ↓reduceIte, List.drop_succ_cons, List.drop_zero, List.take_succ_cons, List.take_zero, Bool.false_eq_true, List.nil_append, List.cons_append, Bool.not_true, Bool.not_false, cond_true, cond_false, bne, Q85, Q86, Q87, Q88, Q89, Q90, Q91, Q92, Q93, Q94, Q95, Q96, Q97, Q98]
   rw [loop_normal (by rw [hv]; exact st)]
   have e : addNew p n = p ++ [n] := by simp only [addNew, hh]; rfl
   rw [e]
   have h4' : Acc 2 1 h2 acc' ((p ++ [n]).map iv) := by rw [List.map_append]; exact h4
   exact ih (i + 1) acc' (p ++ [n]) h2 _ (by simp at hi; omega) (by simp; omega) hd h4' rfl
theorem vars_ok {t : Tm} {a : AV} (hsz : size t ≤ 450000) (ha : IsT a t) : ∃ r, Sl 1 r ((varsT t).map iv) ∧ callW F 23 [a] [] = some (r, []) := by
 obtain ⟨c, hs, hc⟩ := places_ok _ t a (Nat.lt_succ_self _) hsz ha
 have hpl := places_len t
 have hlen : ((placesT t).map iv).length = (placesT t).length := by simp
 obtain ⟨acc', h', x4, x8, x9, g1, g2⟩ := vars_loop (K := (placesT t).length + 1) hs (by omega) (placesT t) 0 (.v (.slice none 0 0)) [] [.box 32 a.cells] (L19v (.v (.slice none 0 0)) c ((placesT t).map iv).length (0 : Nat)) (by simp) (by simp) (by simp) .nil rfl
 obtain ⟨r, g3, g4⟩ := g2.lvf
 refine ⟨r, g4, callW_pure (c := c23) rfl rfl ((placesT t).length + 1) ?_⟩
 have q5 : ∀ h : List AO, a.snap1 h = some a := fun h => ha.snap
 show lv [.var 2] (exec (callW F) ((placesT t).length + 1) (.seq (.region [] [] c23_0) (.seq (.region [] [] c23_1) (.seq (.seq (.region [] [] c23_2) (.block 0 (.loop K19v [] c23_8))) (.seq (.region [] [] c23_9) .ret)))) _ _) = _
 generalize hrest : (CC.seq (.region [] [] c23_9) .ret) = rest
 generalize (placesT t).map iv = qs at hs g1
 cases ha
 simp only [AV.cells] at g1
 simp only [c23, start, List.replicate, c23_0, c23_1, c23_2, hc, q5, hs.len, Q104, Q105, bs1, bs2, Q106, Q107, Q108, Q109, bd1, Q110, Q111, toL, List.map_cons, List.map_nil, Q112, List.set_cons_zero, List.set_cons_succ, and_self, Nat.le_refl, Q113, Q114, Q115, Q116, Q0, Q1, Q2, Q3, Q4, Q5, Q6, Q7, Q8, Q9, Q10, Q11, Q12, Q13, Q14, Q15, Q16, Q17, Q18, Q19, Q20, Q21, Q22, Q23, Q24, Q25, Q26, Q27, Q28, Q29, Q30, Q31, Q32, Q33, Q34, Q35, Q36, Q37, Q38, Q39, Q40, Q41, Q42, Q43, Q44, Q45, Q46, Q47, Q48, Q49, Q50, Q51, Q52, Q53, Q54, Q55, Q56, Q57, Q58, Q59, Q60, Q61, Q62, Q63, Q64, Q65, Q66, Q67, Q68, Q69, Q70, Q71, Q72, Q73, Q99, Q100, Q101, Q102, Q103, Q74, Q75, Q76, Q77, Q78, Q79, Q80, Q81, Q82, Q83, Q84, clr, List.length_nil, List.length_cons, List.getElem?_cons_zero, List.getElem?_cons_succ, Nat.reduceAdd, Nat.zero_add, Nat.add_zero, Nat.reduceLeDiff, Nat.reduceSub, ↓reduceIte, List.drop_succ_cons, List.drop_zero, List.take_succ_cons, List.take_zero, Bool.false_eq_true, List.nil_append, List.cons_append, Bool.not_true, Bool.not_false, cond_true, cond_false, bne, Q85, Q86, Q87, Q88, Q89, Q90, Q91, Q92, Q93, Q94, Q95, Q96, Q97, Q98]
 rw [loop_cong (v2 := L19v (.v (.slice none 0 0)) c qs.length ((0 : Nat) : Int)) (by rfl), g1, ← hrest]
 simp only [Q19, Q12, c23_9, g3, Q0, Q1, Q2, Q3, Q4, Q5, Q6, Q7, Q8, Q9, Q10, Q11, Q12, Q13, Q14, Q15, Q16, Q17, Q18, Q19, Q20, Q21, Q22, Q23, Q24, Q25, Q26, Q27, Q28, Q29, Q30, Q31, Q32, Q33, Q34, Q35, Q36, Q37, Q38, Q39, Q40, Q41, Q42, Q43, Q44, Q45, Q46, Q47, Q48, Q49, Q50, Q51, Q52, Q53, Q54, Q55, Q56, Q57, Q58, Q59, Q60, Q61, Q62, Q63, Q64, Q65, Q66, Q67, Q68, Q69, Q70, Q71, Q72, Q73, Q99, Q100, Q101, Q102, Q103, Q74, Q75, Q77, Q78, Q79, Q80, Q81, Q82, Q83, Q84, clr, List.length_nil, List.length_cons, List.getElem?_cons_zero, List.getElem?_cons_succ, Nat.reduceAdd, Nat.zero_add, Nat.add_zero, Nat.reduceLeDiff, Nat.reduceSub, ↓reduceIte, List.drop_succ_cons, List.drop_zero, List.take_succ_cons, List.take_zero, Bool.false_eq_true, List.nil_append, List.cons_append, Bool.not_true, Bool.not_false, cond_true, cond_false, bne, Q85, Q86, Q87, Q88, Q89, Q90, Q91, Q92, Q93, Q94, Q95, Q96, Q97, Q98]

def K82 : List Bool := [false, true, false, false, false, true, true, true, false, false]
def L82 (n : Int) (c : AV) (len i : Int) : List AV := [.junk, .v (.int .i64 n), .junk, .junk, .junk, c, .v (.int .i64 len), .v (.int .i64 i), .junk, .junk]
theorem place_loop {K : Nat} {c : AV} {es : List AV} (hs : Sl 1 c es) (hm : es.length ≤ 1000000) (n : Int) :
  ∀ (l : List Int) (i : Nat) (h : List AO) (vars : List AV), i + l.length = es.length → es.drop i = l.map iv → clr K82 vars = L82 n c es.length i →
   (n ∈ l ∧ ∃ vs, loopN (exec (callW F) K c41_7) K82 (l.length + 1) vars h = some (.ret, vs, h) ∧ getO vs [] (.var 2) = .v (.int .i64 ((i + plcT l n : Nat) : Int))) ∨ (¬ n ∈ l ∧ ∃ vs, loopN (exec (callW F) K c41_7) K82 (l.length + 1) vars h = some (.exit 0, vs, h) ∧ vs.length = 10) := by
 intro l
 induction l with
 | nil =>
  intro i h vars hi _ hv
  have hil : i = es.length := by simpa using hi
  subst hil
  have hlt : decide ((es.length : Int) < (es.length : Int)) = false := by simp
  refine .inr ⟨by simp, [.junk, .v (.int .i64 n), .junk, .junk, .junk, c, .v (.int .i64 es.length), .v (.int .i64 es.length), .v (.bool false), .junk], loop_exit ?_, rfl⟩
  rw [hv]
  simp only [L82, c41_7, c41_2, hlt, Q104, Q105, bs1, bs2, Q106, Q107, Q108, Q109, bd1, Q110, Q111, toL, List.map_cons, List.map_nil, Q112, List.set_cons_zero, List.set_cons_succ, and_self, Nat.le_refl, Q114, Q115, Q116, Q0, Q1, Q2, Q3, Q4, Q5, Q6, Q7, Q8, Q9, Q10, Q11, Q12, Q13, Q14, Q15, Q16, Q17, Q18, Q19, Q20, Q21, Q22, Q23, Q24, Q25, Q26, Q27, Q28, Q29, Q30, Q31, Q32, Q33, Q34, Q35, Q36, Q37, Q38, Q39, Q40, Q41, Q42, Q43, Q44, Q45, Q46, Q47, Q48, Q49, Q50, Q51, Q52, Q53, Q54, Q55, Q56, Q57, Q58, Q59, Q60, Q61, Q62, Q63, Q64, Q65, Q66, Q67, Q68, Q69, Q70, Q71, Q72, Q73, AV.cl, Q74, Q75, Q76, Q77, Q78, Q79, Q80, Q81, Q82, Q83, Q84, clr, List.length_nil, List.length_cons, List.getElem?_cons_zero, List.getElem?_cons_succ, Nat.reduceAdd, Nat.zero_add, Nat.add_zero, Nat.reduceLeDiff, Nat.reduceSub, ↓reduceIte, List.drop_succ_cons, List.drop_zero, List.take_succ_cons, List.take_zero, Bool.false_eq_true, List.nil_append, List.cons_append, Bool.not_true, Bool.not_false, cond_true, cond_false, bne, Q85, Q86, Q87, Q88, Q89, Q90, Q91, Q92, Q93, Q94, Q95, Q96, Q97, Q98]
 | cons k l ih =>
  intro i h vars hi hes hv
  have hil : i < es.length := by simp at hi; omega
  have he : es[i]? = some (iv k) := by
   have : (es.drop i)[0]? = some (iv k) := by rw [hes]; rfl
   simpa using this
  have hd : es.drop (i + 1) = l.map iv := by
   have h2 := congrArg List.tail hes
   simpa using h2
  have hlt : (decide ((i : Int) < (es.length : Int))) = true := by simp; omega
  have q1 := hs.ia he
  by_cases hk : k = n
  ·left
   subst hk
   have he : ((k == k) : Bool) = true := by simp
   have hw : IntKind.i64.wrap (i : Int) = (i : Int) := wrap_ok (by omega) (by omega)
   refine ⟨by simp, [.junk, .v (.int .i64 k), .v (.int .i64 i), .v (.int .i64 i), .v (.int .i64 k), c, .v (.int .i64 es.length), .v (.int .i64 i), .v (.bool true), .v (.bool true)], loop_ret ?_, by simp [getO, plcT]⟩
   rw [hv]
   simp only [L82, iv, AV.cells, c41_7, c41_2, c41_3, c41_4, c41_5, hlt, he, hw, q1, Q104, Q105, bs1, bs2, Q106, Q107, Q108, Q109, bd1, Q110, Q111, toL, List.map_cons, List.map_nil, Q112, List.set_cons_zero, List.set_cons_succ, and_self, Nat.le_refl, Q114, Q115, Q116, Q0, Q1, Q2, Q3, Q4, Q5, Q6, Q7, Q8, Q9, Q10, Q11, Q12, Q13, Q14, Q15, Q16, Q17, Q18, Q19, Q20, Q21, Q22, Q23, Q24, Q25, Q26, Q27, Q28, Q29, Q30, Q31, Q32, Q33, Q34, Q35, Q36, Q37, Q38, Q39, Q40, Q41, Q42, Q43, Q44, Q45, Q46, Q47, Q48, Q49, Q50, Q51, Q52, Q53, Q54, Q55, Q56, Q57, Q58, Q59, Q60, Q61, Q62, Q63, Q64, Q65, Q66, Q67, Q68, Q69, Q70, Q71, Q72, Q73, AV.cl, Q74, Q75, Q76, Q77, Q78, Q79, Q80, Q81, Q82, Q83, Q84, clr, List.length_nil, List.length_cons, List.getElem?_cons_zero, List.getElem?_cons_succ, Nat.reduceAdd, Nat.zero_add, Nat.add_zero, Nat.reduceLeDiff, Nat.reduceSub, ↓reduceIte, List.drop_succ_cons, List.drop_zero, List.take_succ_cons, List.take_zero, Bool.false_eq_true, List.nil_append, List.cons_append, Bool.not_true, Bool.not_false, cond_true, cond_false, bne, Q85, Q86, Q87, Q88, Q89, Q90, Q91, Q92, Q93, Q94, Q95, Q96, Q97, Q98]
  ·have he : ((k == n) : Bool) = false := by simpa using hk
   have st : exec (callW F) K c41_7 (L82 n c es.length i) h = some (.normal, [.junk, .v (.int .i64 n), .junk, .v (.int .i64 i), .v (.int .i64 k), c, .v (.int .i64 es.length), .v (.int .i64 ((i + 1 : Nat) : Int)), .v (.bool true), .v (.bool false)], h) := by
    have : maxLen = 9223372036854775807 := rfl
    simp only [L82, iv, AV.cells, c41_7, c41_2, c41_3, c41_4, c41_6, hlt, he, wrap_succ hil (by omega), q1, Q104, Q105, bs1, bs2, Q106, Q107, Q108, Q109, bd1, Q110, Q111, toL, List.map_cons, List.map_nil, Q112, List.set_cons_zero, List.set_cons_succ, and_self, Nat.le_refl, Q114, Q115, Q116, Q0, Q1, Q2, Q3, Q4, Q5, Q6, Q7, Q8, Q9, Q10, Q11, Q12, Q13, Q14, Q15, Q16, Q17, Q18, Q19, Q20, Q21, Q22, Q23, Q24, Q25, Q26, Q27, Q28, Q29, Q30, Q31, Q32, Q33, Q34, Q35, Q36, Q37, Q38, Q39, Q40, Q41, Q42, Q43, Q44, Q45, Q46, Q47, Q48, Q49, Q50, Q51, Q52, Q53, Q54, Q55, Q56, Q57, Q58, Q59, Q60, Q61, Q62, Q63, Q64, Q65, Q66, Q67, Q68, Q69, Q70, Q71, Q72, Q73, AV.cl, Q74, Q75, Q76, Q77, Q78, Q79, Q80, Q81, Q82, Q83, Q84, clr, List.length_nil, List.length_cons, List.getElem?_cons_zero, List.getElem?_cons_succ, Nat.reduceAdd, Nat.zero_add, Nat.add_zero, Nat.reduceLeDiff, Nat.reduceSub, ↓reduceIte, List.drop_succ_cons, List.drop_zero, List.take_succ_cons, List.take_zero, Bool.false_eq_true, List.nil_append, List.cons_append, Bool.not_true, Bool.not_false, cond_true, cond_false, bne, Q85, Q86, Q87, Q88, Q89, Q90, Q91, Q92, Q93, Q94, Q95, Q96, Q97, Q98]
   rw [show (k :: l).length + 1 = (l.length + 1) + 1 from rfl, loop_normal (by rw [hv]; exact st)]
   rcases ih (i + 1) h [.junk, .v (.int .i64 n), .junk, .v (.int .i64 i), .v (.int .i64 k), c, .v (.int .i64 es.length), .v (.int .i64 ((i + 1 : Nat) : Int)), .v (.bool true), .v (.bool false)] (by simp at hi; omega) hd rfl with ⟨h1, vs, h2, h3⟩ | ⟨h1, vs, h2, h3⟩
   ·refine .inl ⟨by simp [h1], vs, h2, ?_⟩
    rw [h3, plcT, if_neg hk, if_pos h1]
    congr 3; omega
   ·refine .inr ⟨?_, vs, h2, h3⟩
    rw [List.mem_cons]
    rintro (rfl | h)
    ·exact hk rfl
    ·exact h1 h
theorem plc_no : ∀ {l : List Int} {n : Int}, ¬ n ∈ l → plcT l n = 0
 | [], n, _ => rfl
 | k :: l, n, h => by
  rw [plcT, if_neg (fun e => h (by simp [e])), if_neg (fun e => h (by simp [e]))]
theorem place_ok {c : AV} {ns : List Int} (hs : Sl 1 c (ns.map iv)) (hm : ns.length ≤ 450000) (n : Int) : callW F 41 [c, .v (.int .i64 n)] [] = some (.v (.int .i64 (plcT ns n)), []) := by
 refine callW_pure (c := c41) rfl rfl (ns.length + 1) ?_
 have key := place_loop (K := ns.length + 1) hs (by simp; omega) n ns 0 [] (L82 n c (ns.map iv).length (0 : Nat)) (by simp) rfl rfl
 show lv [.var 2] (exec (callW F) (ns.length + 1) (.seq (.region [] [] c41_0) (.seq (.seq (.region [] [] c41_1) (.block 0 (.loop K82 [] c41_7))) (.seq (.region [] [] c41_8) .ret))) _ _) = _
 generalize hrest : (CC.seq (.region [] [] c41_8) .ret) = rest
 simp only [c41, start, List.replicate, c41_0, c41_1, hs.len, Q104, Q105, bs1, bs2, Q106, Q107, Q108, Q109, bd1, Q110, Q111, toL, List.map_cons, List.map_nil, Q112, List.set_cons_zero, List.set_cons_succ, and_self, Nat.le_refl, Q114, Q115, Q116, Q0, Q1, Q2, Q3, Q4, Q5, Q6, Q7, Q8, Q9, Q10, Q11, Q12, Q13, Q14, Q15, Q16, Q17, Q18, Q19, Q20, Q21, Q22, Q23, Q24, Q25, Q26, Q27, Q28, Q29, Q30, Q31, Q32, Q33, Q34, Q35, Q36, Q37, Q38, Q39, Q40, Q41, Q42, Q43, Q44, Q45, Q46, Q47, Q48, Q49, Q50, Q51, Q52, Q53, Q54, Q55, Q56, Q57, Q58, Q59, Q60, Q61, Q62, Q63, Q64, Q65, Q66, Q67, Q68, Q69, Q70, Q71, Q72, Q73, AV.cl, Q74, Q75, Q76, Q77, Q78, Q79, Q80, Q81, Q82, Q83, Q84, clr, List.length_nil, List.length_cons, List.getElem?_cons_zero, List.getElem?_cons_succ, Nat.reduceAdd, Nat.zero_add, Nat.add_zero, Nat.reduceLeDiff, Nat.reduceSub, ↓reduceIte, List.drop_succ_cons, List.drop_zero, List.take_succ_cons, List.take_zero, Bool.false_eq_true, List.nil_append, List.cons_append, Bool.not_true, Bool.not_false, cond_true, cond_false, bne, Q85, Q86, Q87, Q88, Q89, Q90, Q91, Q92, Q93, Q94, Q95, Q96, Q97, Q98]
 rw [loop_cong (v2 := L82 n c (ns.map iv).length ((0 : Nat) : Int)) (by rfl)]
 rcases key with ⟨h0, vs, h1, h2⟩ | ⟨h0, vs, h1, h2⟩
 ·rw [h1]
  rw [Nat.zero_add] at h2
  simp only [Q18, Q14, h2, Q0, Q1, Q2, Q3, Q4, Q5, Q6, Q7, Q8, Q9, Q10, Q11, Q12, Q13, Q14, Q15, Q16, Q17, Q18, Q19, Q20, Q21, Q22, Q23, Q24, Q25, Q26, Q27, Q28, Q29, Q30, Q31, Q32, Q33, Q34, Q35, Q36, Q37, Q38, Q39, Q40, Q41, Q42, Q43, Q44, Q45, Q46, Q47, Q48, Q49, Q50, Q51, Q52, Q53, Q54, Q55, Q56, Q57, Q58, Q59, Q60, Q61, Q62, Q63, Q64, Q65, Q66, Q67, Q68, Q69, Q70, Q71, Q72, Q73, AV.cl, Q74, Q75, Q76, Q77, Q78, Q79, Q80, Q81, Q82, Q83, Q84, clr, List.length_nil, List.length_cons, List.getElem?_cons_zero, List.getElem?_cons_succ, Nat.reduceAdd, Nat.zero_add, Nat.add_zero, Nat.reduceLeDiff, Nat.reduceSub, ↓reduceIte, List.drop_succ_cons, List.drop_zero, List.take_succ_cons, List.take_zero, Bool.false_eq_true, List.nil_append, List.cons_append, Bool.not_true, Bool.not_false, cond_true, cond_false, bne, Q85, Q86, Q87, Q88, Q89, Q90, Q91, Q92, Q93, Q94, Q95, Q96, Q97, Q98]
 ·rw [h1, plc_no h0, ← hrest]
  match vs, h2 with
  | [a0, a1, a2, a3, a4, a5, a6, a7, a8, a9], _ => simp only [c41_8, Q0, Q1, Q2, Q3, Q4, Q5, Q6, Q7, Q8, Q9, Q10, Q11, Q12, Q13, Q14, Q15, Q16, Q17, Q18, Q19, Q20, Q21, Q22, Q23, Q24, Q25, Q26, Q27, Q28, Q29, Q30, Q31, Q32, Q33, Q34, Q35, Q36, Q37, Q38, Q39, Q40, Q41, Q42, Q43, Q44, Q45, Q46, Q47, Q48, Q49, Q50, Q51, Q52, Q53, Q54, Q55, Q56, Q57, Q58, Q59, Q60, Q61, Q62, Q63, Q64, Q65, Q66, Q67, Q68, Q69, Q70, Q71, Q72, Q73, AV.cl, Q74, Q75, Q76, Q77, Q78, Q79, Q80, Q81, Q82, Q83, Q84, clr, List.length_nil, List.length_cons, List.getElem?_cons_zero, List.getElem?_cons_succ, Nat.reduceAdd, Nat.zero_add, Nat.add_zero, Nat.reduceLeDiff, Nat.reduceSub, ↓reduceIte, List.drop_succ_cons, List.drop_zero, List.take_succ_cons, List.take_zero, Bool.false_eq_true, List.nil_append, List.cons_append, Bool.not_true, Bool.not_false, cond_true, cond_false, bne, Q85, Q86, Q87, Q88, Q89, Q90, Q91, Q92, Q93, Q94, Q95, Q96, Q97, Q98]; rfl
theorem var1_ok (n : Int) : callW F 40 [.v (.int .i64 n)] [] = some (.agg [.v (.int .i64 1), .v (.string nos), .v (.int .i64 n), .v (.slice none 0 0)], []) := by
 refine callW_pure (c := c40) rfl rfl 0 ?_
 simp only [c40, start, List.replicate, c40_0, c40_1, q9z, Q113, Q104, Q105, bs1, bs2, Q106, Q107, Q108, Q109, bd1, Q110, Q111, toL, List.map_cons, List.map_nil, Q112, List.set_cons_zero, List.set_cons_succ, and_self, Nat.le_refl, Q113, Q114, Q115, Q116, Q0, Q1, Q2, Q3, Q4, Q5, Q6, Q7, Q8, Q9, Q10, Q11, Q12, Q13, Q14, Q15, Q16, Q17, Q18, Q19, Q20, Q21, Q22, Q23, Q24, Q25, Q26, Q27, Q28, Q29, Q30, Q31, Q32, Q33, Q34, Q35, Q36, Q37, Q38, Q39, Q40, Q41, Q42, Q43, Q44, Q45, Q46, Q47, Q48, Q49, Q50, Q51, Q52, Q53, Q54, Q55, Q56, Q57, Q58, Q59, Q60, Q61, Q62, Q63, Q64, Q65, Q66, Q67, Q68, Q69, Q70, Q71, Q72, Q73, Q99, Q100, Q101, Q102, Q103, Q74, Q75, Q76, Q77, Q78, Q79, Q80, Q81, Q82, Q83, Q84, clr, List.length_nil, List.length_cons, List.getElem?_cons_zero, List.getElem?_cons_succ, Nat.reduceAdd, Nat.zero_add, Nat.add_zero, Nat.reduceLeDiff, Nat.reduceSub, ↓reduceIte, List.drop_succ_cons, List.drop_zero, List.take_succ_cons, List.take_zero, Bool.false_eq_true, List.nil_append, List.cons_append, Bool.not_true, Bool.not_false, cond_true, cond_false, bne, Q85, Q86, Q87, Q88, Q89, Q90, Q91, Q92, Q93, Q94, Q95, Q96, Q97, Q98]
 rfl

def K53 : List Bool := [false, true, true, true, true, false, false, true, true, true, false]
def L53 (q acc c : AV) (len i : Int) : List AV := [.junk, q, .ptr 0 0, .ptr 1 0, acc, .junk, .junk, c, .v (.int .i64 len), .v (.int .i64 i), .junk]

theorem num_loop {K : Nat} {c : AV} {es : List AV} (hs : Sl 4 c es) (hm : es.length ≤ 450000) {q : AV} {vs : List Int} (hq : Sl 1 q (vs.map iv)) :
  ∀ (l : List Tm) (i : Nat) (acc : AV) (ds : List AV) (dl : List Tm) (h : List AO) (vars : List AV), i + l.length = es.length → ds.length = i → All2 (es.drop i) l → All2 ds dl → (∀ t ∈ l, ∀ (e : AV), IsT e t → ∃ r, IsT r (numT vs t) ∧ callW F 24 [e, q] [] = some (r, [])) →
   Acc 32 4 h acc ds → clr K53 vars = L53 q acc c es.length i →
   ∃ acc' ds' h' x5 x6 x10, loopN (exec (callW F) K c24_9) K53 (l.length + 1) vars h = some (.exit 0, [.junk, q, .ptr 0 0, .ptr 1 0, acc', x5, x6, c, .v (.int .i64 es.length), .v (.int .i64 es.length), x10], h') ∧ Acc 32 4 h' acc' ds' ∧ All2 ds' (dl ++ numL vs l) ∧ ds'.length = es.length ∧ Keeps h h' := by
 intro l
 induction l with
 | nil =>
  intro i acc ds dl h vars hi hds _ hall _ ha hv
  have hil : i = es.length := by simpa using hi
  subst hil
  have hlt : decide ((es.length : Int) < (es.length : Int)) = false := by simp
  refine ⟨acc, ds, h, .junk, .junk, .v (.bool false), loop_exit ?_, ha, by simpa [numL] using hall, hds, .refl h⟩
  rw [hv]
  simp only [L53, c24_9, c24_5, hlt, Q104, Q105, bs1, bs2, Q106, Q107, Q108, Q109, bd1, Q110, Q111, toL, List.map_cons, List.map_nil, Q112, List.set_cons_zero, List.set_cons_succ, and_self, Nat.le_refl, Q114, Q115, Q116, Q0, Q1, Q2, Q3, Q4, Q5, Q6, Q7, Q8, Q9, Q10, Q11, Q12, Q13, Q14, Q15, Q16, Q17, Q18, Q19, Q20, Q21, Q22, Q23, Q24, Q25, Q26, Q27, Q28, Q29, Q30, Q31, Q32, Q33, Q34, Q35, Q36, Q37, Q38, Q39, Q40, Q41, Q42, Q43, Q44, Q45, Q46, Q47, Q48, Q49, Q50, Q51, Q52, Q53, Q54, Q55, Q56, Q57, Q58, Q59, Q60, Q61, Q62, Q63, Q64, Q65, Q66, Q67, Q68, Q69, Q70, Q71, Q72, Q73, Q99, Q100, Q101, Q102, Q103, Q74, Q75, Q77, Q78, Q79, Q80, Q81, Q82, Q83, Q84, clr, List.length_nil, List.length_cons, List.getElem?_cons_zero, List.getElem?_cons_succ, Nat.reduceAdd, Nat.zero_add, Nat.add_zero, Nat.reduceLeDiff, Nat.reduceSub, ↓reduceIte, List.drop_succ_cons, List.drop_zero, List.take_succ_cons, List.take_zero, Bool.false_eq_true, List.nil_append, List.cons_append, Bool.not_true, Bool.not_false, cond_true, cond_false, bne, Q85, Q86, Q87, Q88, Q89, Q90, Q91, Q92, Q93, Q94, Q95, Q96, Q97, Q98]
 | cons t l ih =>
  intro i acc ds dl h vars hi hds hes hall hcall ha hv
  have hil : i < es.length := by simp at hi; omega
  have he : es[i]? = some (es[i]'hil) := List.getElem?_eq_getElem _
  have hd : es.drop i = es[i] :: es.drop (i + 1) := List.drop_eq_getElem_cons hil
  rw [hd] at hes
  cases hes with
  | cons _ _ _ _ hT hs' =>
  obtain ⟨r, hr, hc⟩ := hcall t (by simp) _ hT
  obtain ⟨acc', h2, h3, h4, h5⟩ := (ha.app (.box 32 (es[i]).cells)).add (x := .slc 4 true true [r]) (ys := [r]) (bytes := 56) elems_one (by
   have : room = 140737488355328 := rfl
   simp only [fits, List.length_cons, List.length_nil, decide_eq_true_eq]; omega)
  have hlt : (decide ((i : Int) < (es.length : Int))) = true := by simp; omega
  have sq := fun H : List AO => hq.snap H
  have q1 := hs.ia he
  have q3 : ∀ h : List AO, Q76 h true 4 (.ip (es[i]).cells) = some es[i] := fun h => hT.load
  have q5 : ∀ h : List AO, (es[i]).snap1 h = some es[i] := fun h => hT.snap
  have q6 : ∀ h : List AO, r.snap1 h = some r := fun h => hr.snap
  have q7 : r.cl = some r.cells := hr.cl.1
  have q8 : r.cells.length = 4 := hr.cl.2
  have st : exec (callW F) K c24_9 (L53 q acc c es.length i) h = some (.normal, [.junk, q, .ptr 0 0, .ptr 1 0, acc', .ptr h.length 0, .junk, c, .v (.int .i64 es.length), .v (.int .i64 ((i + 1 : Nat) : Int)), .v (.bool true)], h2) := by
   have hz : ([.v (.int .i64 0), .v (.string ⟨#[]⟩), .v (.int .i64 0), .v (.slice none 0 0)] : List AV).length = 4 := rfl
   simp only [L53, c24_9, c24_5, c24_6, c24_7, c24_8, hlt, wrap_succ hil (small_maxM hm), q1, q3, q5, q6, q7, q8, hc, h3, hT.st _ _ hz, hT.ld, sq, q9z, e_append, bs1_some q7 q8, Q104, Q105, bs1, bs2, Q106, Q107, Q108, Q109, bd1, Q110, Q111, toL, List.map_cons, List.map_nil, Q112, List.set_cons_zero, List.set_cons_succ, and_self, Nat.le_refl, Q114, Q115, Q116, Q0, Q1, Q2, Q3, Q4, Q5, Q6, Q7, Q8, Q9, Q10, Q11, Q12, Q13, Q14, Q15, Q16, Q17, Q18, Q19, Q20, Q21, Q22, Q23, Q24, Q25, Q26, Q27, Q28, Q29, Q30, Q31, Q32, Q33, Q34, Q35, Q36, Q37, Q38, Q39, Q40, Q41, Q42, Q43, Q44, Q45, Q46, Q47, Q48, Q49, Q50, Q51, Q52, Q53, Q54, Q55, Q56, Q57, Q58, Q59, Q60, Q61, Q62, Q63, Q64, Q65, Q66, Q67, Q68, Q69, Q70, Q71, Q72, Q73, Q99, Q100, Q101, Q102, Q103, Q74, Q75, Q77, Q78, Q79, Q80, Q81, Q82, Q83, Q84, clr, List.length_nil, List.length_cons, List.getElem?_cons_zero, List.getElem?_cons_succ, Nat.reduceAdd, Nat.zero_add, Nat.add_zero, Nat.reduceLeDiff, Nat.reduceSub, ↓reduceIte, List.drop_succ_cons, List.drop_zero, List.take_succ_cons, List.take_zero, Bool.false_eq_true, List.nil_append, List.cons_append, Bool.not_true, Bool.not_false, cond_true, cond_false, bne, Q85, Q86, Q87, Q88, Q89, Q90, Q91, Q92, Q93, Q94, Q95, Q96, Q97, Q98]
  rw [show (t :: l).length + 1 = (l.length + 1) + 1 from rfl, loop_normal (by rw [hv]; exact st)]
  obtain ⟨acc'', ds', h', x5, x6, x10, g1, g2, g3, g4, g5⟩ := ih (i + 1) acc' (ds ++ [r]) (dl ++ [numT vs t]) h2 [.junk, q, .ptr 0 0, .ptr 1 0, acc', .ptr h.length 0, .junk, c, .v (.int .i64 es.length), .v (.int .i64 ((i + 1 : Nat) : Int)), .v (.bool true)] (by simp at hi; omega) (by simp [hds]) hs' (hall.app (.one hr)) (fun t ht => hcall t (by simp [ht])) h4 rfl
  refine ⟨acc'', ds', h', x5, x6, x10, g1, g2, ?_, g4, ((Keeps.app _ _).trans h5).trans g5⟩
  rw [numL]
  simpa using g3

theorem num_ok {q : AV} {vs : List Int} (hq : Sl 1 q (vs.map iv)) (hvs : vs.length ≤ 450000) : ∀ (N : Nat) (t : Tm) (a : AV), SizeOf.sizeOf t < N → size t ≤ 450000 → IsT a t → ∃ r, IsT r (numT vs t) ∧ callW F 24 [a, q] [] = some (r, []) := by
 intro N
 induction N with
 | zero => intro t a h; omega
 | succ N ih =>
  intro t a hN hsz ha
  cases ha with
  | mk k s n c l hc =>
  have h5 := Tm.mk.sizeOf_spec k s n l
  simp only [size] at hsz
  have hll := sizeL_len l
  have hcall : ∀ t ∈ l, ∀ (e : AV), IsT e t → ∃ r, IsT r (numT vs t) ∧ callW F 24 [e, q] [] = some (r, []) := by
   intro t ht e hT
   have h6 := List.sizeOf_lt_of_mem ht
   have h7 := size_mem ht
   exact ih t e (by omega) (by omega) hT
  obtain ⟨es, hs, hes, hm⟩ := hc.sl
  have e1 := hes.length
  have key : ∀ n' : Int, ∃ acc' ds' h' x5 x6 x10, loopN (exec (callW F) (l.length + 1) c24_9) K53 (l.length + 1) (L53 q (.v (.slice none 0 0)) c es.length 0) [.box 32 [.v (.int .i64 k), .v (.string s), .v (.int .i64 n'), c], .box 32 zeroC] = some (.exit 0, [.junk, q, .ptr 0 0, .ptr 1 0, acc', x5, x6, c, .v (.int .i64 es.length), .v (.int .i64 es.length), x10], h') ∧ Acc 32 4 h' acc' ds' ∧ All2 ds' (numL vs l) ∧ ds'.length = es.length ∧ Keeps [.box 32 [.v (.int .i64 k), .v (.string s), .v (.int .i64 n'), c], .box 32 zeroC] h' := by
   intro n'
   exact num_loop (K := l.length + 1) hs (by omega) hq l 0 (.v (.slice none 0 0)) [] [] _ (L53 q (.v (.slice none 0 0)) c es.length 0) (by omega) rfl (by simpa using hes) .nil hcall .nil rfl
  have last : ∀ (n' : Int) (acc' x5 x6 x10 : AV) (ds' : List AV) (h' : List AO), Acc 32 4 h' acc' ds' → All2 ds' (numL vs l) → ds'.length = es.length → Keeps [.box 32 [.v (.int .i64 k), .v (.string s), .v (.int .i64 n'), c], .box 32 zeroC] h' →
    ∃ r, IsT r (.mk k s n' (numL vs l)) ∧ lv [.cell 3 true 4] (exec (callW F) (l.length + 1) (.seq (.region [] [] c24_10) (.seq (.region [] [] c24_11) .ret)) [.junk, q, .ptr 0 0, .ptr 1 0, acc', x5, x6, c, .v (.int .i64 es.length), .v (.int .i64 es.length), x10] h') = some (r, []) := by
   intro n' acc' x5 x6 x10 ds' h' ha hall hlen hk
   have b0 := hk.2 0 _ _ rfl
   have b1 := hk.2 1 _ _ rfl
   have hlt0 : 0 < h'.length := (List.getElem?_eq_some_iff.1 b0).1
   have hlt1 : 1 < h'.length := (List.getElem?_eq_some_iff.1 b1).1
   have s1 := bx_st (n := 1) (o := 3) (xs := [acc']) (x := acc') b0 ha.cl rfl (by simp)
   simp only [Q112, List.set_cons_succ, List.set_cons_zero] at s1
   have b0' : (h'.set 0 (.box 32 [.v (.int .i64 k), .v (.string s), .v (.int .i64 n'), acc']))[0]? = some (.box 32 [.v (.int .i64 k), .v (.string s), .v (.int .i64 n'), acc']) := by simp [hlt0]
   have b1' : (h'.set 0 (.box 32 [.v (.int .i64 k), .v (.string s), .v (.int .i64 n'), acc']))[1]? = some (.box 32 zeroC) := by simp [b1]
   have s2 := bx_st (n := 4) (o := 0) (x := .agg [.v (.int .i64 k), .v (.string s), .v (.int .i64 n'), acc']) b1' Q110 rfl (by simp [zeroC])
   simp only [Q112, zeroC, List.set_cons_succ, List.set_cons_zero, Nat.zero_add, Nat.reduceAdd] at s2
   have b1'' : ((h'.set 0 (.box 32 [.v (.int .i64 k), .v (.string s), .v (.int .i64 n'), acc'])).set 1 (.box 32 [.v (.int .i64 k), .v (.string s), .v (.int .i64 n'), acc']))[1]? = some (.box 32 [.v (.int .i64 k), .v (.string s), .v (.int .i64 n'), acc']) := by simp [hlt1]
   have l1 := bx_ld b0' (a := true) (n := 4) (o := 0)
   have l2 := bx_ld b1'' (a := true) (n := 4) (o := 0)
   have ha' : Acc 32 4 ((h'.set 0 (.box 32 [.v (.int .i64 k), .v (.string s), .v (.int .i64 n'), acc'])).set 1 (.box 32 [.v (.int .i64 k), .v (.string s), .v (.int .i64 n'), acc'])) acc' ds' := by
    cases ha with
    | nil => exact .nil
    | own id ver k es hr hk hne =>
     refine .own id ver k ds' ?_ hk hne
     have n0 : 0 ≠ id := fun e => by subst e; rw [b0] at hr; cases hr
     have n1 : 1 ≠ id := fun e => by subst e; rw [b1] at hr; cases hr
     rw [List.getElem?_set_ne n1, List.getElem?_set_ne n0]; exact hr
   obtain ⟨c', f1, f2⟩ := ha'.frz0
   refine ⟨.agg [.v (.int .i64 k), .v (.string s), .v (.int .i64 n'), c'], .mk k s n' c' _ (Sl.isL f2 hall (by omega)), ?_⟩
   have lf : lvf ((h'.set 0 (.box 32 [.v (.int .i64 k), .v (.string s), .v (.int .i64 n'), acc'])).set 1 (.box 32 [.v (.int .i64 k), .v (.string s), .v (.int .i64 n'), acc'])) (.agg [.v (.int .i64 k), .v (.string s), .v (.int .i64 n'), acc']) = some (.agg [.v (.int .i64 k), .v (.string s), .v (.int .i64 n'), c'], []) := by
    have fz : ∀ (x : Value) (h : List AO), (AV.v x).frz0 0 h = some (.v x) := fun _ _ => rfl
    simp [lvf, AV.frz2, AV.frz1, fz, f1]
   simp only [c24_10, c24_11, s1, s2, l1, l2, lf, Q104, Q105, bs1, bs2, Q106, Q107, Q108, Q109, bd1, Q110, Q111, toL, List.map_cons, List.map_nil, Q112, List.set_cons_zero, List.set_cons_succ, and_self, Nat.le_refl, Q114, Q115, Q116, Q0, Q1, Q2, Q3, Q4, Q5, Q6, Q7, Q8, Q9, Q10, Q11, Q12, Q13, Q14, Q15, Q16, Q17, Q18, Q19, Q20, Q21, Q22, Q23, Q24, Q25, Q26, Q27, Q28, Q29, Q30, Q31, Q32, Q33, Q34, Q35, Q36, Q37, Q38, Q39, Q40, Q41, Q42, Q43, Q44, Q45, Q46, Q47, Q48, Q49, Q50, Q51, Q52, Q53, Q54, Q55, Q56, Q57, Q58, Q59, Q60, Q61, Q62, Q63, Q64, Q65, Q66, Q67, Q68, Q69, Q70, Q71, Q72, Q73, Q99, Q100, Q101, Q102, Q103, Q74, Q75, Q77, Q78, Q79, Q80, Q81, Q82, Q83, Q84, clr, List.length_nil, List.length_cons, List.getElem?_cons_zero, List.getElem?_cons_succ, Nat.reduceAdd, Nat.zero_add, Nat.add_zero, Nat.reduceLeDiff, Nat.reduceSub, ↓reduceIte, List.drop_succ_cons, List.drop_zero, List.take_succ_cons, List.take_zero, Bool.false_eq_true, List.nil_append, List.cons_append, Bool.not_true, Bool.not_false, cond_true, cond_false, bne, Q85, Q86, Q87, Q88, Q89, Q90, Q91, Q92, Q93, Q94, Q95, Q96, Q97, Q98]
  by_cases hk : k = 1
  ·have h1 : (k == 1) = true := by simpa using hk
   have hp := place_ok hq hvs n
   have hv := var1_ok (plcT vs n)
   have sq := fun H : List AO => hq.snap H
   refine ⟨.agg [.v (.int .i64 1), .v (.string nos), .v (.int .i64 (plcT vs n)), .v (.slice none 0 0)], by rw [numT, if_pos hk]; exact .mk 1 nos _ _ [] .nil, callW_pure (c := c24) rfl rfl (l.length + 1) ?_⟩
   simp only [c24, start, List.replicate, c24_0, c24_1, c24_2, h1, hs.len, q9z, hp, hv, sq, snap_int, Q113, Q104, Q105, bs1, bs2, Q106, Q107, Q108, Q109, bd1, Q110, Q111, toL, List.map_cons, List.map_nil, Q112, List.set_cons_zero, List.set_cons_succ, and_self, Nat.le_refl, Q113, Q114, Q115, Q116, Q0, Q1, Q2, Q3, Q4, Q5, Q6, Q7, Q8, Q9, Q10, Q11, Q12, Q13, Q14, Q15, Q16, Q17, Q18, Q19, Q20, Q21, Q22, Q23, Q24, Q25, Q26, Q27, Q28, Q29, Q30, Q31, Q32, Q33, Q34, Q35, Q36, Q37, Q38, Q39, Q40, Q41, Q42, Q43, Q44, Q45, Q46, Q47, Q48, Q49, Q50, Q51, Q52, Q53, Q54, Q55, Q56, Q57, Q58, Q59, Q60, Q61, Q62, Q63, Q64, Q65, Q66, Q67, Q68, Q69, Q70, Q71, Q72, Q73, Q99, Q100, Q101, Q102, Q103, Q74, Q75, Q76, Q77, Q78, Q79, Q80, Q81, Q82, Q83, Q84, clr, List.length_nil, List.length_cons, List.getElem?_cons_zero, List.getElem?_cons_succ, Nat.reduceAdd, Nat.zero_add, Nat.add_zero, Nat.reduceLeDiff, Nat.reduceSub, ↓reduceIte, List.drop_succ_cons, List.drop_zero, List.take_succ_cons, List.take_zero, Bool.false_eq_true, List.nil_append, List.cons_append, Bool.not_true, Bool.not_false, cond_true, cond_false, bne, Q85, Q86, Q87, Q88, Q89, Q90, Q91, Q92, Q93, Q94, Q95, Q96, Q97, Q98]
   rfl
  ·have h1 : (k == 1) = false := by simpa using hk
   obtain ⟨acc', ds', h', x5, x6, x10, g1, g2, g3, g4, g5⟩ := key n
   obtain ⟨r, hr, hlv⟩ := last _ acc' x5 x6 x10 ds' h' g2 g3 g4 g5
   refine ⟨r, by rw [numT, if_neg hk]; exact hr, callW_pure (c := c24) rfl rfl (l.length + 1) ?_⟩
   rw [← hlv]
   show lv [.cell 3 true 4] (exec (callW F) (l.length + 1) (.seq (.region [] [] c24_0) (.seq (.seq (.region [] [] c24_1) (.cond (.var 6) (.seq (.region [] [] c24_2) .ret) .skip)) (.seq (.region [] [] c24_3) (.seq (.seq (.region [] [] c24_4) (.block 0 (.loop K53 [] c24_9))) (.seq (.region [] [] c24_10) (.seq (.region [] [] c24_11) .ret)))))) _ _) = _
   generalize (CC.seq (.region [] [] c24_10) (.seq (.region [] [] c24_11) .ret)) = rest
   simp only [zeroC] at g1
   simp only [c24, start, List.replicate, c24_0, c24_1, c24_3, c24_4, h1, hs.len, q9z, Q113, Q104, Q105, bs1, bs2, Q106, Q107, Q108, Q109, bd1, Q110, Q111, toL, List.map_cons, List.map_nil, Q112, List.set_cons_zero, List.set_cons_succ, and_self, Nat.le_refl, Q113, Q114, Q115, Q116, Q0, Q1, Q2, Q3, Q4, Q5, Q6, Q7, Q8, Q9, Q10, Q11, Q12, Q13, Q14, Q15, Q16, Q17, Q18, Q19, Q20, Q21, Q22, Q23, Q24, Q25, Q26, Q27, Q28, Q29, Q30, Q31, Q32, Q33, Q34, Q35, Q36, Q37, Q38, Q39, Q40, Q41, Q42, Q43, Q44, Q45, Q46, Q47, Q48, Q49, Q50, Q51, Q52, Q53, Q54, Q55, Q56, Q57, Q58, Q59, Q60, Q61, Q62, Q63, Q64, Q65, Q66, Q67, Q68, Q69, Q70, Q71, Q72, Q73, Q99, Q100, Q101, Q102, Q103, Q74, Q75, Q76, Q77, Q78, Q79, Q80, Q81, Q82, Q83, Q84, clr, List.length_nil, List.length_cons, List.getElem?_cons_zero, List.getElem?_cons_succ, Nat.reduceAdd, Nat.zero_add, Nat.add_zero, Nat.reduceLeDiff, Nat.reduceSub, ↓reduceIte, List.drop_succ_cons, List.drop_zero, List.take_succ_cons, List.take_zero, Bool.false_eq_true, List.nil_append, List.cons_append, Bool.not_true, Bool.not_false, cond_true, cond_false, bne, Q85, Q86, Q87, Q88, Q89, Q90, Q91, Q92, Q93, Q94, Q95, Q96, Q97, Q98]
   rw [loop_cong (v2 := L53 q (.v (.slice none 0 0)) c es.length 0) (by rfl), g1]
   simp only [Q19, Q12]
end Go.AE.YtghgbbiklkpbnaaDoor
end

section
namespace Go.AE.YtghgbbiklkpbnaaDoor
open Go Go.AE Go.Proofs.YtghgbbiklkpbnaaDoor

def isB (t : Tm) (s : ByteArray) (n : Int) : Bool := (t.k == 4) && ((t.s.toList == s.toList) && ((t.l.length : Int) == n))
theorem isB_2 (t : Tm) (s : ByteArray) : isB t s 2 = is2 t s := by
 have e : ((t.l.length : Int) == 2) = decide (t.l.length = 2) := by
  by_cases h : t.l.length = 2
  ·simp [h]
  ·have : ¬ (t.l.length : Int) = 2 := by omega
   simp [h, this]
 have e2 : (t.k == 4) = decide (t.k = 4) := rfl
 rw [isB, is2, e, e2]
theorem is_ok {a : AV} {t : Tm} (ha : IsT a t) (s : ByteArray) (n : Int) : callW F 25 [a, .v (.string s), .v (.int .i64 n)] [] = some (.v (.bool (isB t s n)), []) := by
 refine callW_pure (c := c25) rfl rfl 0 ?_
 cases ha with
 | mk k s' m c l hc =>
 have q1 := fun h : List AO => hc.len h
 unfold isB
 simp only [Tm.k, Tm.s, Tm.l]
 generalize hA : (k == 4) = A
 generalize hB : (s'.toList == s.toList) = B
 generalize hC : ((l.length : Int) == n) = C
 cases A <;> cases B <;> cases C <;> simp only [c25, start, List.replicate, c25_0, c25_1, tbx, tb0, tb1, tb2, tb3, q1, hA, hB, hC, Q122, Bool.true_and, Bool.false_and, Bool.and_self, Q0, Q1, Q2, Q3, Q4, Q5, Q6, Q7, Q8, Q9, Q10, Q11, Q12, Q13, Q14, Q15, Q16, Q17, Q18, Q19, Q20, Q21, Q22, Q23, Q24, Q25, Q26, Q27, Q28, Q29, Q30, Q31, Q32, Q33, Q35, Q36, Q37, Q38, Q39, Q40, Q41, Q42, Q43, Q44, Q45, Q46, Q47, Q48, Q49, Q50, Q51, Q52, Q53, Q54, Q55, Q56, Q57, Q58, Q59, Q60, Q61, Q62, Q63, Q64, Q65, Q66, Q67, Q68, Q69, Q70, Q71, Q72, Q73, Q99, Q100, Q101, Q102, Q103, Q74, Q75, Q77, Q78, Q79, Q80, Q81, Q82, Q83, Q84, clr, List.length_nil, List.length_cons, List.getElem?_cons_zero, List.getElem?_cons_succ, Nat.reduceAdd, Nat.zero_add, Nat.add_zero, Nat.reduceLeDiff, Nat.reduceSub, ↓reduceIte, List.drop_succ_cons, List.drop_zero, List.take_succ_cons, List.take_zero, Bool.false_eq_true, List.nil_append, List.cons_append, Bool.not_true, Bool.not_false, cond_true, cond_false, bne, Q85, Q86, Q87, Q88, Q89, Q90, Q91, Q92, Q93, Q94, Q95, Q96, Q97, Q98, Q110, Q111, Q116, Q117, Q118, Q119, Q120, Q121, Q122, Q123, Option.map_some, Option.map_none]

def sv (s : ByteArray) : AV := .v (.string s)
def K84 : List Bool := [false, true, false, false, true, true, true, false, false]
def L84 (s : ByteArray) (c : AV) (len i : Int) : List AV := [.junk, .v (.string s), .junk, .junk, c, .v (.int .i64 len), .v (.int .i64 i), .junk, .junk]
theorem hasS_loop {K : Nat} {c : AV} {es : List AV} (hs : Sl 1 c es) (hm : es.length ≤ 1000000) (s : ByteArray) :
  ∀ (l : List ByteArray) (i : Nat) (h : List AO) (vars : List AV), i + l.length = es.length → es.drop i = l.map sv → clr K84 vars = L84 s c es.length i →
   (hasS l s = true ∧ ∃ vs, loopN (exec (callW F) K c43_7) K84 (l.length + 1) vars h = some (.ret, vs, h) ∧ getO vs [] (.var 2) = .v (.bool true)) ∨ (hasS l s = false ∧ ∃ vs, loopN (exec (callW F) K c43_7) K84 (l.length + 1) vars h = some (.exit 0, vs, h) ∧ vs.length = 9) := by
 intro l
 induction l with
 | nil =>
  intro i h vars hi _ hv
  have hil : i = es.length := by simpa using hi
  subst hil
  have hlt : decide ((es.length : Int) < (es.length : Int)) = false := by simp
  refine .inr ⟨rfl, [.junk, .v (.string s), .junk, .junk, c, .v (.int .i64 es.length), .v (.int .i64 es.length), .v (.bool false), .junk], loop_exit ?_, rfl⟩
  rw [hv]
  simp only [L84, c43_7, c43_2, hlt, Q104, Q105, bs1, bs2, Q106, Q107, Q108, Q109, bd1, Q110, Q111, toL, List.map_cons, List.map_nil, Q112, List.set_cons_zero, List.set_cons_succ, and_self, Nat.le_refl, Q114, Q115, Q116, Q0, Q1, Q2, Q3, Q4, Q5, Q6, Q7, Q8, Q9, Q10, Q11, Q12, Q13, Q14, Q15, Q16, Q17, Q18, Q19, Q20, Q21, Q22, Q23, Q24, Q25, Q26, Q27, Q28, Q29, Q30, Q31, Q32, Q33, Q34, Q35, Q36, Q37, Q38, Q39, Q40, Q41, Q42, Q43, Q44, Q45, Q46, Q47, Q48, Q49, Q50, Q51, Q52, Q53, Q54, Q55, Q56, Q57, Q58, Q59, Q60, Q61, Q62, Q63, Q64, Q65, Q66, Q67, Q68, Q69, Q70, Q71, Q72, Q73, AV.cl, Q74, Q75, Q76, Q77, Q78, Q79, Q80, Q81, Q82, Q83, Q84, clr, List.length_nil, List.length_cons, List.getElem?_cons_zero, List.getElem?_cons_succ, Nat.reduceAdd, Nat.zero_add, Nat.add_zero, Nat.reduceLeDiff, Nat.reduceSub, ↓reduceIte, List.drop_succ_cons, List.drop_zero, List.take_succ_cons, List.take_zero, Bool.false_eq_true, List.nil_append, List.cons_append, Bool.not_true, Bool.not_false, cond_true, cond_false, bne, Q85, Q86, Q87, Q88, Q89, Q90, Q91, Q92, Q93, Q94, Q95, Q96, Q97, Q98]
 | cons k l ih =>
  intro i h vars hi hes hv
  have hil : i < es.length := by simp at hi; omega
  have he : es[i]? = some (sv k) := by
   have : (es.drop i)[0]? = some (sv k) := by rw [hes]; rfl
   simpa using this
  have hd : es.drop (i + 1) = l.map sv := by
   have h2 := congrArg List.tail hes
   simpa using h2
  have hlt : (decide ((i : Int) < (es.length : Int))) = true := by simp; omega
  have q1 := hs.ia he
  cases hk : (k.toList == s.toList) with
  | true =>
   left
   refine ⟨by simp [hasS, hk], [.junk, .v (.string s), .v (.bool true), .v (.string k), c, .v (.int .i64 es.length), .v (.int .i64 i), .v (.bool true), .v (.bool true)], loop_ret ?_, rfl⟩
   rw [hv]
   simp only [L84, sv, AV.cells, c43_7, c43_2, c43_3, c43_4, c43_5, hlt, hk, q1, Q104, Q105, bs1, bs2, Q106, Q107, Q108, Q109, bd1, Q110, Q111, toL, List.map_cons, List.map_nil, Q112, List.set_cons_zero, List.set_cons_succ, and_self, Nat.le_refl, Q114, Q115, Q116, Q0, Q1, Q2, Q3, Q4, Q5, Q6, Q7, Q8, Q9, Q10, Q11, Q12, Q13, Q14, Q15, Q16, Q17, Q18, Q19, Q20, Q21, Q22, Q23, Q24, Q25, Q26, Q27, Q28, Q29, Q30, Q31, Q32, Q33, Q34, Q35, Q36, Q37, Q38, Q39, Q40, Q41, Q42, Q43, Q44, Q45, Q46, Q47, Q48, Q49, Q50, Q51, Q52, Q53, Q54, Q55, Q56, Q57, Q58, Q59, Q60, Q61, Q62, Q63, Q64, Q65, Q66, Q67, Q68, Q69, Q70, Q71, Q72, Q73, AV.cl, Q74, Q75, Q76, Q77, Q78, Q79, Q80, Q81, Q82, Q83, Q84, clr, List.length_nil, List.length_cons, List.getElem?_cons_zero, List.getElem?_cons_succ, Nat.reduceAdd, Nat.zero_add, Nat.add_zero, Nat.reduceLeDiff, Nat.reduceSub, ↓reduceIte, List.drop_succ_cons, List.drop_zero, List.take_succ_cons, List.take_zero, Bool.false_eq_true, List.nil_append, List.cons_append, Bool.not_true, Bool.not_false, cond_true, cond_false, bne, Q85, Q86, Q87, Q88, Q89, Q90, Q91, Q92, Q93, Q94, Q95, Q96, Q97, Q98]
  | false =>
   have st : exec (callW F) K c43_7 (L84 s c es.length i) h = some (.normal, [.junk, .v (.string s), .junk, .v (.string k), c, .v (.int .i64 es.length), .v (.int .i64 ((i + 1 : Nat) : Int)), .v (.bool true), .v (.bool false)], h) := by
    have : maxLen = 9223372036854775807 := rfl
    simp only [L84, sv, AV.cells, c43_7, c43_2, c43_3, c43_4, c43_6, hlt, hk, wrap_succ hil (by omega), q1, Q104, Q105, bs1, bs2, Q106, Q107, Q108, Q109, bd1, Q110, Q111, toL, List.map_cons, List.map_nil, Q112, List.set_cons_zero, List.set_cons_succ, and_self, Nat.le_refl, Q114, Q115, Q116, Q0, Q1, Q2, Q3, Q4, Q5, Q6, Q7, Q8, Q9, Q10, Q11, Q12, Q13, Q14, Q15, Q16, Q17, Q18, Q19, Q20, Q21, Q22, Q23, Q24, Q25, Q26, Q27, Q28, Q29, Q30, Q31, Q32, Q33, Q34, Q35, Q36, Q37, Q38, Q39, Q40, Q41, Q42, Q43, Q44, Q45, Q46, Q47, Q48, Q49, Q50, Q51, Q52, Q53, Q54, Q55, Q56, Q57, Q58, Q59, Q60, Q61, Q62, Q63, Q64, Q65, Q66, Q67, Q68, Q69, Q70, Q71, Q72, Q73, AV.cl, Q74, Q75, Q76, Q77, Q78, Q79, Q80, Q81, Q82, Q83, Q84, clr, List.length_nil, List.length_cons, List.getElem?_cons_zero, List.getElem?_cons_succ, Nat.reduceAdd, Nat.zero_add, Nat.add_zero, Nat.reduceLeDiff, Nat.reduceSub, ↓reduceIte, List.drop_succ_cons, List.drop_zero, List.take_succ_cons, List.take_zero, Bool.false_eq_true, List.nil_append, List.cons_append, Bool.not_true, Bool.not_false, cond_true, cond_false, bne, Q85, Q86, Q87, Q88, Q89, Q90, Q91, Q92, Q93, Q94, Q95, Q96, Q97, Q98]
   rw [show (k :: l).length + 1 = (l.length + 1) + 1 from rfl, loop_normal (by rw [hv]; exact st)]
   have hc : hasS (k :: l) s = hasS l s := by simp [hasS, hk]
   rw [hc]
   exact ih (i + 1) h _ (by simp at hi; omega) hd rfl
theorem hasS_ok {c : AV} {ss : List ByteArray} (hs : Sl 1 c (ss.map sv)) (hm : ss.length ≤ 1000000) (s : ByteArray) : callW F 43 [c, .v (.string s)] [] = some (.v (.bool (hasS ss s)), []) := by
 refine callW_pure (c := c43) rfl rfl (ss.length + 1) ?_
 have key := hasS_loop (K := ss.length + 1) hs (by simpa using hm) s ss 0 [] (L84 s c (ss.map sv).length (0 : Nat)) (by simp) rfl rfl
 show lv [.var 2] (exec (callW F) (ss.length + 1) (.seq (.region [] [] c43_0) (.seq (.seq (.region [] [] c43_1) (.block 0 (.loop K84 [] c43_7))) (.seq (.region [] [] c43_8) .ret))) _ _) = _
 generalize hrest : (CC.seq (.region [] [] c43_8) .ret) = rest
 simp only [c43, start, List.replicate, c43_0, c43_1, hs.len, Q104, Q105, bs1, bs2, Q106, Q107, Q108, Q109, bd1, Q110, Q111, toL, List.map_cons, List.map_nil, Q112, List.set_cons_zero, List.set_cons_succ, and_self, Nat.le_refl, Q114, Q115, Q116, Q0, Q1, Q2, Q3, Q4, Q5, Q6, Q7, Q8, Q9, Q10, Q11, Q12, Q13, Q14, Q15, Q16, Q17, Q18, Q19, Q20, Q21, Q22, Q23, Q24, Q25, Q26, Q27, Q28, Q29, Q30, Q31, Q32, Q33, Q34, Q35, Q36, Q37, Q38, Q39, Q40, Q41, Q42, Q43, Q44, Q45, Q46, Q47, Q48, Q49, Q50, Q51, Q52, Q53, Q54, Q55, Q56, Q57, Q58, Q59, Q60, Q61, Q62, Q63, Q64, Q65, Q66, Q67, Q68, Q69, Q70, Q71, Q72, Q73, AV.cl, Q74, Q75, Q76, Q77, Q78, Q79, Q80, Q81, Q82, Q83, Q84, clr, List.length_nil, List.length_cons, List.getElem?_cons_zero, List.getElem?_cons_succ, Nat.reduceAdd, Nat.zero_add, Nat.add_zero, Nat.reduceLeDiff, Nat.reduceSub, ↓reduceIte, List.drop_succ_cons, List.drop_zero, List.take_succ_cons, List.take_zero, Bool.false_eq_true, List.nil_append, List.cons_append, Bool.not_true, Bool.not_false, cond_true, cond_false, bne, Q85, Q86, Q87, Q88, Q89, Q90, Q91, Q92, Q93, Q94, Q95, Q96, Q97, Q98]
 rw [loop_cong (v2 := L84 s c (ss.map sv).length ((0 : Nat) : Int)) (by rfl)]
 rcases key with ⟨h0, vs, h1, h2⟩ | ⟨h0, vs, h1, h2⟩
 ·rw [h1, h0]
  simp only [Q18, Q14, h2, Q0, Q1, Q2, Q3, Q4, Q5, Q6, Q7, Q8, Q9, Q10, Q11, Q12, Q13, Q14, Q15, Q16, Q17, Q18, Q19, Q20, Q21, Q22, Q23, Q24, Q25, Q26, Q27, Q28, Q29, Q30, Q31, Q32, Q33, Q34, Q35, Q36, Q37, Q38, Q39, Q40, Q41, Q42, Q43, Q44, Q45, Q46, Q47, Q48, Q49, Q50, Q51, Q52, Q53, Q54, Q55, Q56, Q57, Q58, Q59, Q60, Q61, Q62, Q63, Q64, Q65, Q66, Q67, Q68, Q69, Q70, Q71, Q72, Q73, AV.cl, Q74, Q75, Q76, Q77, Q78, Q79, Q80, Q81, Q82, Q83, Q84, clr, List.length_nil, List.length_cons, List.getElem?_cons_zero, List.getElem?_cons_succ, Nat.reduceAdd, Nat.zero_add, Nat.add_zero, Nat.reduceLeDiff, Nat.reduceSub, ↓reduceIte, List.drop_succ_cons, List.drop_zero, List.take_succ_cons, List.take_zero, Bool.false_eq_true, List.nil_append, List.cons_append, Bool.not_true, Bool.not_false, cond_true, cond_false, bne, Q85, Q86, Q87, Q88, Q89, Q90, Q91, Q92, Q93, Q94, Q95, Q96, Q97, Q98]
 ·rw [h1, h0, ← hrest]
  match vs, h2 with
  | [a0, a1, a2, a3, a4, a5, a6, a7, a8], _ => simp only [c43_8, Q0, Q1, Q2, Q3, Q4, Q5, Q6, Q7, Q8, Q9, Q10, Q11, Q12, Q13, Q14, Q15, Q16, Q17, Q18, Q19, Q20, Q21, Q22, Q23, Q24, Q25, Q26, Q27, Q28, Q29, Q30, Q31, Q32, Q33, Q34, Q35, Q36, Q37, Q38, Q39, Q40, Q41, Q42, Q43, Q44, Q45, Q46, Q47, Q48, Q49, Q50, Q51, Q52, Q53, Q54, Q55, Q56, Q57, Q58, Q59, Q60, Q61, Q62, Q63, Q64, Q65, Q66, Q67, Q68, Q69, Q70, Q71, Q72, Q73, AV.cl, Q74, Q75, Q76, Q77, Q78, Q79, Q80, Q81, Q82, Q83, Q84, clr, List.length_nil, List.length_cons, List.getElem?_cons_zero, List.getElem?_cons_succ, Nat.reduceAdd, Nat.zero_add, Nat.add_zero, Nat.reduceLeDiff, Nat.reduceSub, ↓reduceIte, List.drop_succ_cons, List.drop_zero, List.take_succ_cons, List.take_zero, Bool.false_eq_true, List.nil_append, List.cons_append, Bool.not_true, Bool.not_false, cond_true, cond_false, bne, Q85, Q86, Q87, Q88, Q89, Q90, Q91, Q92, Q93, Q94, Q95, Q96, Q97, Q98]
def namesT (n : Int) : List ByteArray :=
 if n = 0 then [⟨#[116, 114, 117, 101]⟩, ⟨#[102, 97, 105, 108]⟩, ⟨#[33]⟩]
 else if n = 1 then [⟨#[118, 97, 114]⟩, ⟨#[110, 111, 110, 118, 97, 114]⟩, ⟨#[97, 116, 111, 109]⟩, ⟨#[105, 110, 116, 101, 103, 101, 114]⟩, ⟨#[97, 116, 111, 109, 105, 99]⟩, ⟨#[99, 111, 109, 112, 111, 117, 110, 100]⟩]
 else if n = 2 then [⟨#[61]⟩, ⟨#[92, 61]⟩, ⟨#[61, 61]⟩, ⟨#[92, 61, 61]⟩, ⟨#[64, 60]⟩, ⟨#[64, 61, 60]⟩, ⟨#[64, 62]⟩, ⟨#[64, 62, 61]⟩, ⟨#[61, 46, 46]⟩, ⟨#[105, 115]⟩, ⟨#[61, 58, 61]⟩, ⟨#[61, 92, 61]⟩, ⟨#[60]⟩, ⟨#[61, 60]⟩, ⟨#[62]⟩, ⟨#[62, 61]⟩]
 else if n = 3 then [⟨#[102, 117, 110, 99, 116, 111, 114]⟩, ⟨#[97, 114, 103]⟩]
 else []
theorem namesT_len (n : Int) : (namesT n).length ≤ 16 := by
 unfold namesT
 repeat' split
 all_goals decide
theorem names_ok (n : Int) : ∃ c, Sl 1 c ((namesT n).map sv) ∧ callW F 44 [.v (.int .i64 n)] [] = some (c, []) := by
 by_cases h0 : n = 0
 ·subst h0
  exact ⟨_, .slc true true _, callW_iff.2 ⟨10, by kernel_rfl⟩⟩
 by_cases h1 : n = 1
 ·subst h1
  exact ⟨_, .slc true true _, callW_iff.2 ⟨10, by kernel_rfl⟩⟩
 by_cases h2 : n = 2
 ·subst h2
  exact ⟨_, .slc true true _, callW_iff.2 ⟨10, by kernel_rfl⟩⟩
 by_cases h3 : n = 3
 ·subst h3
  exact ⟨_, .slc true true _, callW_iff.2 ⟨10, by kernel_rfl⟩⟩
 have e0 : (n == 0) = false := by simpa using h0
 have e1 : (n == 1) = false := by simpa using h1
 have e2 : (n == 2) = false := by simpa using h2
 have e3 : (n == 3) = false := by simpa using h3
 refine ⟨.v (.slice none 0 0), by rw [namesT, if_neg h0, if_neg h1, if_neg h2, if_neg h3]; exact .nil, callW_pure (c := c44) rfl rfl 0 ?_⟩
 simp only [c44, start, List.replicate, c44_0, c44_1, c44_2, c44_4, c44_6, c44_8, c44_10, e0, e1, e2, e3, Q0, Q1, Q2, Q3, Q4, Q5, Q6, Q7, Q8, Q9, Q10, Q11, Q12, Q13, Q14, Q15, Q16, Q17, Q18, Q19, Q20, Q21, Q22, Q23, Q24, Q25, Q26, Q27, Q28, Q29, Q30, Q31, Q32, Q33, Q35, Q36, Q37, Q38, Q39, Q40, Q41, Q42, Q43, Q44, Q45, Q46, Q47, Q48, Q49, Q50, Q51, Q52, Q53, Q54, Q55, Q56, Q57, Q58, Q59, Q60, Q61, Q62, Q63, Q64, Q65, Q66, Q67, Q68, Q69, Q70, Q71, Q72, Q73, Q99, Q100, Q101, Q102, Q103, Q74, Q75, Q77, Q78, Q79, Q80, Q81, Q82, Q83, Q84, clr, List.length_nil, List.length_cons, List.getElem?_cons_zero, List.getElem?_cons_succ, Nat.reduceAdd, Nat.zero_add, Nat.add_zero, Nat.reduceLeDiff, Nat.reduceSub, ↓reduceIte, List.drop_succ_cons, List.drop_zero, List.take_succ_cons, List.take_zero, Bool.false_eq_true, List.nil_append, List.cons_append, Bool.not_true, Bool.not_false, cond_true, cond_false, bne, Q85, Q86, Q87, Q88, Q89, Q90, Q91, Q92, Q93, Q94, Q95, Q96, Q97, Q98, Q110, Q111, Q116, Q117, Q118, Q119, Q120, Q121, Q122, Q123, Option.map_some, Option.map_none, Q34]
def builtB (s : ByteArray) (n : Int) : Bool := hasS (namesT n) s
theorem built_ok (s : ByteArray) (n : Int) : callW F 28 [.v (.string s), .v (.int .i64 n)] [] = some (.v (.bool (builtB s n)), []) := by
 obtain ⟨c, h1, h2⟩ := names_ok n
 have h3 := hasS_ok h1 (by have := namesT_len n; omega) s
 have sn := fun H : List AO => h1.snap H
 refine callW_pure (c := c28) rfl rfl 0 ?_
 unfold builtB
 simp only [c28, start, List.replicate, c28_0, c28_1, h2, h3, sn, snap_int, snap_str, Q0, Q1, Q2, Q3, Q4, Q5, Q6, Q7, Q8, Q9, Q10, Q11, Q12, Q13, Q14, Q15, Q16, Q17, Q18, Q19, Q20, Q21, Q22, Q23, Q24, Q25, Q26, Q27, Q28, Q29, Q30, Q31, Q32, Q33, Q35, Q36, Q37, Q38, Q39, Q40, Q41, Q42, Q43, Q44, Q45, Q46, Q47, Q48, Q49, Q50, Q51, Q52, Q53, Q54, Q55, Q56, Q57, Q58, Q59, Q60, Q61, Q62, Q63, Q64, Q65, Q66, Q67, Q68, Q69, Q70, Q71, Q72, Q73, Q99, Q100, Q101, Q102, Q103, Q74, Q75, Q77, Q78, Q79, Q80, Q81, Q82, Q83, Q84, clr, List.length_nil, List.length_cons, List.getElem?_cons_zero, List.getElem?_cons_succ, Nat.reduceAdd, Nat.zero_add, Nat.add_zero, Nat.reduceLeDiff, Nat.reduceSub, ↓reduceIte, List.drop_succ_cons, List.drop_zero, List.take_succ_cons, List.take_zero, Bool.false_eq_true, List.nil_append, List.cons_append, Bool.not_true, Bool.not_false, cond_true, cond_false, bne, Q85, Q86, Q87, Q88, Q89, Q90, Q91, Q92, Q93, Q94, Q95, Q96, Q97, Q98, Q110, Q111, Q116, Q117, Q118, Q119, Q120, Q121, Q122, Q123, Option.map_some, Option.map_none, Q34]

theorem goal_ok {a : AV} {t : Tm} (ha : IsT a t) : callW F 27 [a] [] = some (.v (.bool (goalB t)), []) := by
 refine callW_pure (c := c27) rfl rfl 0 ?_
 cases ha with
 | mk k s n c l hc =>
 have q1 := fun h : List AO => hc.len h
 have b3 : ∀ (vars env : List AV) (h : List AO), evOp (callW F) vars env h (.bslice 1 [(.string ⟨#[]⟩)] 3 [(0, (.k (.string ⟨#[92, 43]⟩))), (1, (.k (.string ⟨#[58, 45]⟩))), (2, (.k (.string ⟨#[63, 45]⟩)))]) = some (.slc 1 true true (bad1.map sv), h) := fun _ _ _ => rfl
 have b4 : ∀ (vars env : List AV) (h : List AO), evOp (callW F) vars env h (.bslice 1 [(.string ⟨#[]⟩)] 4 [(0, (.k (.string ⟨#[44]⟩))), (1, (.k (.string ⟨#[59]⟩))), (2, (.k (.string ⟨#[45, 62]⟩))), (3, (.k (.string ⟨#[58, 45]⟩)))]) = some (.slc 1 true true (bad2.map sv), h) := fun _ _ _ => rfl
 have p3 := hasS_ok (.slc true true (bad1.map sv)) (by decide) s
 have p4 := hasS_ok (.slc true true (bad2.map sv)) (by decide) s
 have s3 : ∀ h : List AO, (AV.slc 1 true true (bad1.map sv)).snap1 h = some (.slc 1 true true (bad1.map sv)) := fun _ => rfl
 have s4 : ∀ h : List AO, (AV.slc 1 true true (bad2.map sv)).snap1 h = some (.slc 1 true true (bad2.map sv)) := fun _ => rfl
 generalize bad1.map sv = B1 at b3 p3 s3
 generalize bad2.map sv = B2 at b4 p4 s4
 unfold goalB
 simp only [Tm.k, Tm.s, Tm.l]
 generalize hasS bad1 s = G1 at p3
 generalize hasS bad2 s = G2 at p4
 generalize hA : (k == 2) = A
 generalize hB : (k == 4) = B
 by_cases l1 : l.length = 1
 ·have e1 : ((l.length : Int) == 1) = true := by simp [l1]
  simp only [l1, if_true]
  rw [l1] at q1 e1
  cases A <;> cases B <;> simp only [c27, start, List.replicate, c27_0, c27_1, c27_2, c27_3, c27_4, c27_5, tbx, tb0, tb1, tb2, tb3, q1, b3, p3, s3, snap_str, hA, hB, e1, Q122, Bool.true_and, Bool.false_and, Bool.or_true, Bool.true_or, Bool.or_self, Q0, Q1, Q2, Q3, Q4, Q5, Q6, Q7, Q8, Q9, Q10, Q11, Q12, Q13, Q14, Q15, Q16, Q17, Q18, Q19, Q20, Q21, Q22, Q23, Q24, Q25, Q26, Q27, Q28, Q29, Q30, Q31, Q32, Q33, Q35, Q36, Q37, Q38, Q39, Q40, Q41, Q42, Q43, Q44, Q45, Q46, Q47, Q48, Q49, Q50, Q51, Q52, Q53, Q54, Q55, Q56, Q57, Q58, Q59, Q60, Q61, Q62, Q63, Q64, Q65, Q66, Q67, Q68, Q69, Q70, Q71, Q72, Q73, Q99, Q100, Q101, Q102, Q103, Q74, Q75, Q77, Q78, Q79, Q80, Q81, Q82, Q83, Q84, clr, List.length_nil, List.length_cons, List.getElem?_cons_zero, List.getElem?_cons_succ, Nat.reduceAdd, Nat.zero_add, Nat.add_zero, Nat.reduceLeDiff, Nat.reduceSub, ↓reduceIte, List.drop_succ_cons, List.drop_zero, List.take_succ_cons, List.take_zero, Bool.false_eq_true, List.nil_append, List.cons_append, Bool.not_true, Bool.not_false, cond_true, cond_false, bne, Q85, Q86, Q87, Q88, Q89, Q90, Q91, Q92, Q93, Q94, Q95, Q96, Q97, Q98, Q110, Q111, Q116, Q117, Q118, Q119, Q120, Q121, Q122, Q123, Option.map_some, Option.map_none]
  all_goals first | rfl | skip
 ·have e1 : ((l.length : Int) == 1) = false := by simp; omega
  simp only [l1, if_false]
  by_cases l2 : l.length = 2
  ·have e2 : ((l.length : Int) == 2) = true := by simp [l2]
   simp only [l2, if_true]
   rw [l2] at q1 e1 e2
   cases A <;> cases B <;> simp only [c27, start, List.replicate, c27_0, c27_1, c27_2, c27_3, c27_4, c27_6, c27_7, tbx, tb0, tb1, tb2, tb3, q1, b4, p4, s4, snap_str, hA, hB, e1, e2, Q122, Bool.true_and, Bool.false_and, Bool.or_true, Bool.true_or, Bool.or_self, Q0, Q1, Q2, Q3, Q4, Q5, Q6, Q7, Q8, Q9, Q10, Q11, Q12, Q13, Q14, Q15, Q16, Q17, Q18, Q19, Q20, Q21, Q22, Q23, Q24, Q25, Q26, Q27, Q28, Q29, Q30, Q31, Q32, Q33, Q35, Q36, Q37, Q38, Q39, Q40, Q41, Q42, Q43, Q44, Q45, Q46, Q47, Q48, Q49, Q50, Q51, Q52, Q53, Q54, Q55, Q56, Q57, Q58, Q59, Q60, Q61, Q62, Q63, Q64, Q65, Q66, Q67, Q68, Q69, Q70, Q71, Q72, Q73, Q99, Q100, Q101, Q102, Q103, Q74, Q75, Q77, Q78, Q79, Q80, Q81, Q82, Q83, Q84, clr, List.length_nil, List.length_cons, List.getElem?_cons_zero, List.getElem?_cons_succ, Nat.reduceAdd, Nat.zero_add, Nat.add_zero, Nat.reduceLeDiff, Nat.reduceSub, ↓reduceIte, List.drop_succ_cons, List.drop_zero, List.take_succ_cons, List.take_zero, Bool.false_eq_true, List.nil_append, List.cons_append, Bool.not_true, Bool.not_false, cond_true, cond_false, bne, Q85, Q86, Q87, Q88, Q89, Q90, Q91, Q92, Q93, Q94, Q95, Q96, Q97, Q98, Q110, Q111, Q116, Q117, Q118, Q119, Q120, Q121, Q122, Q123, Option.map_some, Option.map_none]
   all_goals first | rfl | skip
  ·have e2 : ((l.length : Int) == 2) = false := by simp; omega
   simp only [l2, if_false]
   cases A <;> cases B <;> simp only [c27, start, List.replicate, c27_0, c27_1, c27_2, c27_3, c27_4, c27_6, c27_8, tbx, tb0, tb1, tb2, tb3, q1, hA, hB, e1, e2, Q122, Bool.true_and, Bool.false_and, Bool.or_true, Bool.true_or, Bool.or_self, Bool.and_true, Q0, Q1, Q2, Q3, Q4, Q5, Q6, Q7, Q8, Q9, Q10, Q11, Q12, Q13, Q14, Q15, Q16, Q17, Q18, Q19, Q20, Q21, Q22, Q23, Q24, Q25, Q26, Q27, Q28, Q29, Q30, Q31, Q32, Q33, Q35, Q36, Q37, Q38, Q39, Q40, Q41, Q42, Q43, Q44, Q45, Q46, Q47, Q48, Q49, Q50, Q51, Q52, Q53, Q54, Q55, Q56, Q57, Q58, Q59, Q60, Q61, Q62, Q63, Q64, Q65, Q66, Q67, Q68, Q69, Q70, Q71, Q72, Q73, Q99, Q100, Q101, Q102, Q103, Q74, Q75, Q77, Q78, Q79, Q80, Q81, Q82, Q83, Q84, clr, List.length_nil, List.length_cons, List.getElem?_cons_zero, List.getElem?_cons_succ, Nat.reduceAdd, Nat.zero_add, Nat.add_zero, Nat.reduceLeDiff, Nat.reduceSub, ↓reduceIte, List.drop_succ_cons, List.drop_zero, List.take_succ_cons, List.take_zero, Bool.false_eq_true, List.nil_append, List.cons_append, Bool.not_true, Bool.not_false, cond_true, cond_false, bne, Q85, Q86, Q87, Q88, Q89, Q90, Q91, Q92, Q93, Q94, Q95, Q96, Q97, Q98, Q110, Q111, Q116, Q117, Q118, Q119, Q120, Q121, Q122, Q123, Option.map_some, Option.map_none]
   all_goals first | rfl | skip
end Go.AE.YtghgbbiklkpbnaaDoor
end

section
namespace Go.AE.YtghgbbiklkpbnaaDoor
open Go Go.AE Go.Proofs.YtghgbbiklkpbnaaDoor

inductive Bo (H : List AO) : AV → List AV → Prop
 | slc (es : List AV) (hne : es ≠ []) : Bo H (.slc 4 true true es) es
 | own (id ver : Nat) (es : List AV) (hr : H[id]? = some (.row 32 4 ver es 0)) (hne : es ≠ []) : Bo H (.own 4 id ver 0 es.length) es
section
variable {H : List AO} {r : AV} {es : List AV}
theorem Bo.app (h : Bo H r es) (l : List AO) : Bo (H ++ l) r es := by
 cases h with
 | slc es hne => exact .slc _ hne
 | own id ver es hr hne => exact .own id ver _ (his_get hr) hne
theorem Bo.elems (h : Bo H r es) : elemsOf H 4 r = some es := by
 cases h with
 | slc es hne => rfl
 | own id ver es hr hne => simp [elemsOf, rowAt, hr]
theorem Bo.len (h : Bo H r es) (H' : List AO) : evLen H' .slice r = some es.length := by
 cases h <;> rfl
theorem Bo.at (h : Bo H r es) {i : Nat} {e : AV} (he : es[i]? = some e) (hE : El true 4 e) : ∃ p, iaV H 4 r (some i) = some p ∧ Q76 H true 4 p = some e := by
 cases h with
 | slc es hne => exact ⟨_, iaV_slc he, hE.ld H⟩
 | own id ver es hr hne => exact ⟨_, row_ia hr (Nat.le_refl _) (List.getElem?_eq_some_iff.1 he).1, row_ld hr he hE⟩
theorem Bo.lvf (h : Bo H r es) : ∃ c, c.frz0 0 H = some c ∧ r.frz0 0 H = some c ∧ Sl 4 c es := by
 cases h with
 | slc es hne => exact ⟨_, rfl, rfl, .slc _ _ _⟩
 | own id ver es hr hne => exact ⟨.slc 4 false false es, rfl, by simp [AV.frz0, rowAt, hr], .slc _ _ _⟩
theorem ok_sh0 (n : Nat) (x : AV) : (x.sh0 n).ok0 = x.ok0 := by cases x <;> rfl
theorem ok_sh1 (n : Nat) (x : AV) : (x.sh1 n).ok1 = x.ok1 := by
 cases x with
 | agg cs => simp only [AV.sh1, AV.ok1, List.all_map]; congr 1; funext y; exact ok_sh0 n y
 | fn f a b =>
  simp only [AV.sh1, AV.ok1, List.all_map]
  have : (AV.ok0 ∘ AV.sh0 n) = AV.ok0 := by funext y; exact ok_sh0 n y
  rw [this]
 | _ => rfl
theorem ok_sh (n : Nat) (o : AO) : (o.sh n).ok = o.ok := by
 cases o with
 | box t cs => simp only [AO.sh, AO.ok, List.all_map]; congr 1; funext y; exact ok_sh1 n y
 | _ => rfl
theorem ok_all (n : Nat) {k : List AO} (h : k.all AO.ok = true) : (k.map (AO.sh n)).all AO.ok = true := by
 rw [List.all_map]
 have : (AO.ok ∘ AO.sh n) = AO.ok := by funext y; exact ok_sh n y
 rw [this]; exact h
theorem ok_term {a : AV} {t : Tm} (ha : IsT a t) (bt : TypeId) : AO.ok (.box bt a.cells) = true := by
 cases ha with
 | mk k s n c l hc => cases hc <;> rfl
theorem Bo.add {r' : AV} {es' : List AV} (h : Bo H r es) (h' : Bo H r' es') (hf : es.length + es'.length ≤ 1000000) (hok : H.all AO.ok = true) :
  ∃ r2 H2, evAppend H 32 4 56 r r' = some (r2, H2) ∧ Bo H2 r2 (es ++ es') ∧ H2.all AO.ok = true ∧ r2.ok2 = true := by
 have he' := h'.elems
 have hne' : es' ≠ [] := by cases h' <;> assumption
 have fit : fits (es.length + es'.length) 56 = true := fits_small hf (by omega)
 cases h with
 | slc es hne =>
  refine ⟨.own 4 H.length 0 0 (es.length + es'.length), H ++ [.row 32 4 0 (es ++ es') 0], ?_, ?_, ?_, rfl⟩
  ·simp [evAppend, he', evAppendL, hne', fit]
  ·have := Bo.own (H := H ++ [.row 32 4 0 (es ++ es') 0]) H.length 0 (es ++ es') (by simp) (by simp [hne])
   rwa [List.length_append] at this
  ·rw [List.all_append, hok]; rfl
 | own id ver es hr hne =>
  have hlt := (List.getElem?_eq_some_iff.1 hr).1
  have ht : rowT H id = 32 := by simp only [rowT, hr]
  refine ⟨.own 4 id (ver + 1) 0 (es.length + es'.length), H.set id (.row 32 4 (ver + 1) (es ++ es') 0), ?_, ?_, ?_, rfl⟩
  ·simp [evAppend, he', evAppendL, rowAt, hr, ht, hne', fit]
  ·have := Bo.own (H := H.set id (.row 32 4 (ver + 1) (es ++ es') 0)) id (ver + 1) (es ++ es') (by simp [hlt]) (by simp [hne])
   rwa [List.length_append] at this
  ·rw [List.all_eq_true] at hok ⊢
   intro o ho
   rcases List.mem_or_eq_of_mem_set ho with h | rfl
   ·exact hok o h
   ·rfl
end
theorem All2.app' : ∀ {es es' : List AV} {l l' : List Tm}, All2 es l → All2 es' l' → All2 (es ++ es') (l ++ l')
 | _, _, _, _, .nil, h => h
 | _, _, _, _, .cons a t es ts h hs, h' => .cons a t _ _ h (All2.app' hs h')
mutual
theorem bod_len : ∀ t : Tm, (bodT t).length ≤ zT t
 | .mk k s n l => by
  have := bodL_len l
  rw [bodT, zT]
  split
  ·omega
  ·simp
theorem bodL_len : ∀ l : List Tm, (bodL l).length ≤ zL l
 | [] => by simp [bodL, zL]
 | t :: l => by
  have := bod_len t
  have := bodL_len l
  rw [bodL, zL, List.length_append]; omega
end
theorem leave_k1 {c : CFun} {vars : List AV} {H : List AO} {i : Nat} (hc : c.res = [.var i]) : leaveKeep c (some (.ret, vars, H)) = some (vars.getD i .junk, H) := by
 simp only [leaveKeep, hc, List.mapM_cons, List.mapM_nil, resOf, Option.pure_def, Option.bind_eq_bind, Option.bind_some, Option.map_some, pack]
theorem body_ok : ∀ (N : Nat) (t : Tm) (a : AV), SizeOf.sizeOf t < N → zT t ≤ 450000 → IsT a t → ∀ h : List AO, ∃ r X es, callW F 42 [a] h = some (r, h ++ X) ∧ X.all AO.ok = true ∧ Bo (h ++ X) r es ∧ All2 es (bodT t) := by
 intro N
 induction N with
 | zero => intro t a h; omega
 | succ N ih =>
  intro t a hN hz ha
  have key : ∃ r k es, leaveKeep c42 (exec (callW F) 0 c42.body (start c42 [a]) []) = some (r, k) ∧ r.ok2 = true ∧ k.all AO.ok = true ∧ Bo k r es ∧ All2 es (bodT t) := by
   have hf := ha.facts
   have hi := is_ok ha comma 2
   rw [isB_2] at hi
   have e1 : Q76 [.box 32 a.cells] true 4 (.ptr 0 0) = some a := hf.2.2.2.1 [] 32
   have bxa : bx [] 32 (some a.cells) = some (.ptr 0 0, [.box 32 a.cells]) := rfl
   cases h2 : is2 t comma with
   | false =>
    rw [h2] at hi
    have b1 : ∀ h : List AO, bs1 h 4 (some a) = some (.slc 4 true true [a], h) := fun h => bs1_some ha.cl.1 ha.cl.2
    have hb : bodT t = [t] := by
     cases t with | mk k s n l =>
     rw [bodT, if_neg]
     rintro ⟨p1, p2, p3⟩
     have := (is2_iff (t := .mk k s n l) (s := comma)).2 ⟨p1, p2, p3⟩
     rw [this] at h2; cases h2
    refine ⟨.slc 4 true true [a], [.box 32 a.cells], [a], ?_, rfl, by simp [ok_term ha], .slc _ (by simp), by rw [hb]; exact .cons a t [] [] ha .nil⟩
    have body : exec (callW F) 0 c42.body (start c42 [a]) [] = some (.ret, [a, .ptr 0 0, .slc 4 true true [a], .v (.bool false)], [.box 32 a.cells]) := by
     simp only [c42, start, List.replicate, c42_0, c42_1, c42_3, bxa, e1, hf, hi, snap_str, snap_int, b1, Q104, comma, Q0, Q1, Q2, Q3, Q4, Q5, Q6, Q7, Q8, Q9, Q10, Q11, Q12, Q13, Q14, Q15, Q16, Q17, Q18, Q19, Q20, Q21, Q22, Q23, Q24, Q25, Q26, Q27, Q28, Q29, Q30, Q31, Q32, Q33, Q35, Q36, Q37, Q38, Q39, Q40, Q41, Q42, Q43, Q44, Q45, Q46, Q47, Q48, Q49, Q50, Q51, Q52, Q53, Q54, Q55, Q56, Q57, Q58, Q59, Q60, Q61, Q62, Q63, Q64, Q65, Q66, Q67, Q68, Q69, Q70, Q71, Q72, Q73, Q99, Q100, Q101, Q102, Q103, Q74, Q75, Q77, Q78, Q79, Q80, Q81, Q82, Q83, Q84, clr, List.length_nil, List.length_cons, List.getElem?_cons_zero, List.getElem?_cons_succ, Nat.reduceAdd, Nat.zero_add, Nat.add_zero, Nat.reduceLeDiff, Nat.reduceSub, ↓reduceIte, List.drop_succ_cons, List.drop_zero, List.take_succ_cons, List.take_zero, Bool.false_eq_true, List.nil_append, List.cons_append, Bool.not_true, Bool.not_false, cond_true, cond_false, bne, Q85, Q86, Q87, Q88, Q89, Q90, Q91, Q92, Q93, Q94, Q95, Q96, Q97, Q98, Q110, Q111, Q116, Q117, Q118, Q119, Q120, Q121, Q122, Q123, Option.map_some, Option.map_none, Q34] at hi ⊢
    rw [body]
    exact leave_k1 (c := c42) (i := 2) rfl
   | true =>
    rw [h2] at hi
    obtain ⟨hk, hs, hl⟩ := is2_iff.1 h2
    cases t with | mk k s n l =>
    simp only [Tm.k, Tm.s, Tm.l] at hk hs hl
    cases ha with
    | mk k s n c l hc =>
    obtain ⟨es, hs', hes, hm⟩ := hc.sl
    have hll := hes.length
    match l, es, hl, hes, hll with
    | [x, y], [ex, ey], _, hes, hll =>
    have hx := hes.at (i := 0) (by simp) (by simp)
    have hy := hes.at (i := 1) (by simp) (by simp)
    simp only [List.getElem_cons_zero, List.getElem_cons_succ] at hx hy
    have sx := Tm.mk.sizeOf_spec k s n [x, y]
    simp only [List.cons.sizeOf_spec, List.nil.sizeOf_spec] at sx
    simp only [zT, zL] at hz
    obtain ⟨r1, X1, es1, g1, o1, B1, A1⟩ := ih x ex (by omega) (by omega) hx [.box 32 [.v (.int .i64 k), .v (.string s), .v (.int .i64 n), c]]
    obtain ⟨r2, X2, es2, g2, o2, B2, A2⟩ := ih y ey (by omega) (by omega) hy ([.box 32 [.v (.int .i64 k), .v (.string s), .v (.int .i64 n), c]] ++ X1)
    have l1 := bod_len x
    have l2 := bod_len y
    have n1 := A1.length
    have n2 := A2.length
    have okH : (([.box 32 [.v (.int .i64 k), .v (.string s), .v (.int .i64 n), c]] ++ X1) ++ X2 : List AO).all AO.ok = true := by
     have := ok_term (.mk k s n c [x, y] hc) 32
     simp only [AV.cells] at this
     simp [List.all_append, o1, o2, this]
    obtain ⟨r3, H3, g3, B3, o3, q3⟩ := (B1.app X2).add B2 (by omega) okH
    have hb : bodT (.mk k s n [x, y]) = bodT x ++ bodT y := by
     rw [bodT, if_pos ⟨hk, hs, rfl⟩, bodL, bodL, bodL, List.append_nil]
    refine ⟨r3, H3, es1 ++ es2, ?_, q3, o3, B3, by rw [hb]; exact All2.app' A1 A2⟩
    have fx := hx.facts
    have fy := hy.facts
    have i0 := fun H : List AO => hs'.ia (i := 0) rfl H
    have i1 := fun H : List AO => hs'.ia (i := 1) rfl H
    have ld3 : ∀ X : List AO, Q76 ([.box 32 [.v (.int .i64 k), .v (.string s), .v (.int .i64 n), c]] ++ X) false 1 (.ptr 0 3) = some c := fun _ => rfl
    have n0 : natV (.v (.int .i64 0)) = some 0 := rfl
    have n1 : natV (.v (.int .i64 1)) = some 1 := rfl
    have ld30 := ld3 []
    rw [List.append_nil] at ld30
    have body : exec (callW F) 0 c42.body (start c42 [.agg [.v (.int .i64 k), .v (.string s), .v (.int .i64 n), c]]) [] = some (.ret, [.agg [.v (.int .i64 k), .v (.string s), .v (.int .i64 n), c], .ptr 0 0, r3, .v (.bool true)], H3) := by
     simp only [AV.cells] at bxa e1 hf
     simp only [comma] at hi
     generalize hG : [AO.box 32 [.v (.int .i64 k), .v (.string s), .v (.int .i64 n), c]] = G at *
     simp only [c42, start, List.replicate, c42_0, c42_1, c42_2, bxa, e1, hf, hi, snap_str, snap_int, ld3, ld30, i0, i1, n0, n1, fx, fy, e_callh, List.map_cons, List.map_nil, g1, g2, e_append, g3, Q0, Q1, Q2, Q3, Q4, Q5, Q6, Q7, Q8, Q9, Q10, Q11, Q12, Q13, Q14, Q15, Q16, Q17, Q18, Q19, Q20, Q21, Q22, Q23, Q24, Q25, Q26, Q27, Q28, Q29, Q30, Q31, Q32, Q33, Q35, Q36, Q37, Q38, Q39, Q40, Q41, Q42, Q43, Q44, Q45, Q46, Q47, Q48, Q49, Q50, Q51, Q52, Q53, Q54, Q55, Q56, Q57, Q58, Q59, Q60, Q61, Q62, Q63, Q64, Q65, Q66, Q67, Q68, Q69, Q70, Q71, Q72, Q73, Q99, Q100, Q101, Q102, Q103, Q74, Q75, Q77, Q78, Q79, Q80, Q81, Q82, Q83, Q84, clr, List.length_nil, List.length_cons, List.getElem?_cons_zero, List.getElem?_cons_succ, Nat.reduceAdd, Nat.zero_add, Nat.add_zero, Nat.reduceLeDiff, Nat.reduceSub, ↓reduceIte, List.drop_succ_cons, List.drop_zero, List.take_succ_cons, List.take_zero, Bool.false_eq_true, List.nil_append, List.cons_append, Bool.not_true, Bool.not_false, cond_true, cond_false, bne, Q85, Q86, Q87, Q88, Q89, Q90, Q91, Q92, Q93, Q94, Q95, Q96, Q97, Q98, Q110, Q111, Q116, Q117, Q118, Q119, Q120, Q121, Q122, Q123, Option.map_some, Option.map_none, Q34]
    rw [body]
    exact leave_k1 (c := c42) (i := 2) rfl
  obtain ⟨r, k, es, g1, g2, g3, g4, g5⟩ := key
  intro h
  have sn : [a].mapM (AV.snap1 h) = some [a] := by simp [ha.snap]
  have q := callW_pk (F := F) (h := h) (c := c42) (f := 42) rfl sn rfl 0 g1 g2 g3
  refine ⟨_, _, es, q, ok_all _ g3, ?_, g5⟩
  cases g4 with
  | slc es hne => exact .slc es hne
  | own id ver es hr hne =>
   refine .own (h.length + id) ver es ?_ hne
   rw [List.getElem?_append_right (by omega), Nat.add_sub_cancel_left, List.getElem?_map, hr]
   rfl
end Go.AE.YtghgbbiklkpbnaaDoor
end

section
namespace Go.AE.YtghgbbiklkpbnaaDoor
open Go Go.AE Go.Proofs.YtghgbbiklkpbnaaDoor

mutual
theorem zT_size : ∀ t : Tm, zT t = size t
 | .mk k s n l => by rw [zT, size, zL_size l]
theorem zL_size : ∀ l : List Tm, zL l = sizeL l
 | [] => by rw [zL, sizeL]
 | t :: l => by rw [zL, sizeL, zT_size t, zL_size l]
end
mutual
theorem occ_places : ∀ t : Tm, placesT t = occT t
 | .mk k s n l => by
  rw [placesT, occT, occL_places l]
  split <;> rfl
theorem occL_places : ∀ l : List Tm, placesL l = occL l
 | [] => by rw [placesL, occL]
 | t :: l => by rw [placesL, occL, occ_places t, occL_places l]
end
theorem vars_eq (t : Tm) : varsT t = varT t := by rw [varsT, varT, occ_places]; rfl

def goalsE (t : Tm) : Int := if checkT t = 0 then (if (bodT t).all goalB then 0 else 80) else checkT t
def K55 : List Bool := [false, false, false, false, false, true, false, false, true, true, true, false, false]
def V55 (r : AV) (n i : Int) (x6 x11 x12 : AV) : List AV := [.junk, .junk, .junk, .junk, .junk, r, x6, .junk, r, .v (.int .i64 n), .v (.int .i64 i), x11, x12]
theorem goals_loop {K : Nat} {H : List AO} {r : AV} {es : List AV} {l : List Tm} (hB : Bo H r es) (hes : All2 es l) (hm : es.length ≤ 450000) :
  ∀ (d i : Nat) (Y : List AO) (vars : List AV), i + d = es.length → clr K55 vars = V55 r es.length i .junk .junk .junk →
   ((l.drop i).all goalB = true ∧ ∃ Y' x6 x12, loopN (exec (callW F) K c26_11) K55 (d + 1) vars (H ++ Y) = some (.exit 0, V55 r es.length es.length x6 (.v (.bool false)) x12, H ++ Y')) ∨
   ((l.drop i).all goalB = false ∧ ∃ vs h', loopN (exec (callW F) K c26_11) K55 (d + 1) vars (H ++ Y) = some (.ret, vs, h') ∧ getO vs [] (.var 2) = .v (.slice none 0 0) ∧ getO vs [] (.var 3) = .v (.int .i64 80)) := by
 have hll := hes.length
 intro d
 induction d with
 | zero =>
  intro i Y vars hi hv
  have hil : i = es.length := by omega
  subst hil
  have hlt := lt_f (n := es.length)
  left
  refine ⟨by rw [List.drop_of_length_le (by omega)]; rfl, Y, .junk, .junk, loop_exit ?_⟩
  rw [hv]
  simp only [V55, c26_11, c26_6, hlt, Q0, Q1, Q2, Q3, Q4, Q5, Q6, Q7, Q8, Q9, Q10, Q11, Q12, Q13, Q14, Q15, Q16, Q17, Q18, Q19, Q20, Q21, Q22, Q23, Q24, Q25, Q26, Q27, Q28, Q29, Q30, Q31, Q32, Q33, Q35, Q36, Q37, Q38, Q39, Q40, Q41, Q42, Q43, Q44, Q45, Q46, Q47, Q48, Q49, Q50, Q51, Q52, Q53, Q54, Q55, Q56, Q57, Q58, Q59, Q60, Q61, Q62, Q63, Q64, Q65, Q66, Q67, Q68, Q69, Q70, Q71, Q72, Q73, Q99, Q100, Q101, Q102, Q103, Q74, Q75, Q77, Q78, Q79, Q80, Q81, Q82, Q83, Q84, clr, List.length_nil, List.length_cons, List.getElem?_cons_zero, List.getElem?_cons_succ, Nat.reduceAdd, Nat.zero_add, Nat.add_zero, Nat.reduceLeDiff, Nat.reduceSub, ↓reduceIte, List.drop_succ_cons, List.drop_zero, List.take_succ_cons, List.take_zero, Bool.false_eq_true, List.nil_append, List.cons_append, Bool.not_true, Bool.not_false, cond_true, cond_false, bne, Q85, Q86, Q87, Q88, Q89, Q90, Q91, Q92, Q93, Q94, Q95, Q96, Q97, Q98, Q110, Q111, Q116, Q117, Q118, Q119, Q120, Q121, Q122, Q123, Option.map_some, Option.map_none, Q34]
 | succ d ih =>
  intro i Y vars hi hv
  have hil : i < es.length := by omega
  have hil' : i < l.length := by omega
  have hT := hes.at hil hil'
  have he : es[i]? = some es[i] := List.getElem?_eq_getElem hil
  obtain ⟨p, p1, p2⟩ := (hB.app Y).at he hT.elm
  have hf := hT.facts
  have hg := goal_ok hT
  have hlt := lt_t hil
  have hmax : es.length ≤ maxLen := small_maxM hm
  have hw := wrap_succ hil hmax
  have hd : l.drop i = l[i] :: l.drop (i + 1) := List.drop_eq_getElem_cons hil'
  rw [hd, List.all_cons]
  have q9 : ∀ h : List AO, bx h 32 (ofVal (.agg #[(.int .i64 0), (.string ⟨#[]⟩), (.int .i64 0), (.slice none 0 0)])).cl = some (.ptr h.length 0, h ++ [.box 32 [.v (.int .i64 0), .v (.string ⟨#[]⟩), .v (.int .i64 0), .v (.slice none 0 0)]]) := fun h => by rw [q9z]; rfl
  cases hgb : goalB l[i] with
  | true =>
   rw [hgb] at hg
   have st : exec (callW F) K c26_11 (V55 r es.length i .junk .junk .junk) (H ++ Y) = some (.normal, V55 r es.length ((i + 1 : Nat) : Int) (.ptr (H ++ Y).length 0) (.v (.bool true)) (.v (.bool false)), H ++ (Y ++ [.box 32 es[i].cells])) := by
    rw [← List.append_assoc]
    simp only [V55, c26_11, c26_6, c26_7, c26_8, c26_10, hlt, hw, p1, p2, hf, hg, q9, Q0, Q1, Q2, Q3, Q4, Q5, Q6, Q7, Q8, Q9, Q10, Q11, Q12, Q13, Q14, Q15, Q16, Q17, Q18, Q19, Q20, Q21, Q22, Q23, Q24, Q25, Q26, Q27, Q28, Q29, Q30, Q31, Q32, Q33, Q35, Q36, Q37, Q38, Q39, Q40, Q41, Q42, Q43, Q44, Q45, Q46, Q47, Q48, Q49, Q50, Q51, Q52, Q53, Q54, Q55, Q56, Q57, Q58, Q59, Q60, Q61, Q62, Q63, Q64, Q65, Q66, Q67, Q68, Q69, Q70, Q71, Q72, Q73, Q99, Q100, Q101, Q102, Q103, Q74, Q75, Q77, Q78, Q79, Q80, Q81, Q82, Q83, Q84, clr, List.length_nil, List.length_cons, List.getElem?_cons_zero, List.getElem?_cons_succ, Nat.reduceAdd, Nat.zero_add, Nat.add_zero, Nat.reduceLeDiff, Nat.reduceSub, ↓reduceIte, List.drop_succ_cons, List.drop_zero, List.take_succ_cons, List.take_zero, Bool.false_eq_true, List.nil_append, List.cons_append, Bool.not_true, Bool.not_false, cond_true, cond_false, bne, Q85, Q86, Q87, Q88, Q89, Q90, Q91, Q92, Q93, Q94, Q95, Q96, Q97, Q98, Q110, Q111, Q116, Q117, Q118, Q119, Q120, Q121, Q122, Q123, Option.map_some, Option.map_none]
   rw [loop_normal (by rw [hv]; exact st), Bool.true_and]
   exact ih (i + 1) _ _ (by omega) rfl
  | false =>
   rw [hgb] at hg
   right
   refine ⟨rfl, [.junk, .junk, .v (.slice none 0 0), .v (.int .i64 80), .junk, r, .ptr (H ++ Y).length 0, .junk, r, .v (.int .i64 es.length), .v (.int .i64 i), .v (.bool true), .v (.bool true)], (H ++ Y) ++ [.box 32 es[i].cells], loop_ret ?_, rfl, rfl⟩
   rw [hv]
   simp only [V55, c26_11, c26_6, c26_7, c26_8, c26_9, hlt, hw, p1, p2, hf, hg, q9, Q0, Q1, Q2, Q3, Q4, Q5, Q6, Q7, Q8, Q9, Q10, Q11, Q12, Q13, Q14, Q15, Q16, Q17, Q18, Q19, Q20, Q21, Q22, Q23, Q24, Q25, Q26, Q27, Q28, Q29, Q30, Q31, Q32, Q33, Q35, Q36, Q37, Q38, Q39, Q40, Q41, Q42, Q43, Q44, Q45, Q46, Q47, Q48, Q49, Q50, Q51, Q52, Q53, Q54, Q55, Q56, Q57, Q58, Q59, Q60, Q61, Q62, Q63, Q64, Q65, Q66, Q67, Q68, Q69, Q70, Q71, Q72, Q73, Q99, Q100, Q101, Q102, Q103, Q74, Q75, Q77, Q78, Q79, Q80, Q81, Q82, Q83, Q84, clr, List.length_nil, List.length_cons, List.getElem?_cons_zero, List.getElem?_cons_succ, Nat.reduceAdd, Nat.zero_add, Nat.add_zero, Nat.reduceLeDiff, Nat.reduceSub, ↓reduceIte, List.drop_succ_cons, List.drop_zero, List.take_succ_cons, List.take_zero, Bool.false_eq_true, List.nil_append, List.cons_append, Bool.not_true, Bool.not_false, cond_true, cond_false, bne, Q85, Q86, Q87, Q88, Q89, Q90, Q91, Q92, Q93, Q94, Q95, Q96, Q97, Q98, Q110, Q111, Q116, Q117, Q118, Q119, Q120, Q121, Q122, Q123, Option.map_some, Option.map_none]
theorem goals_ok {t : Tm} {a : AV} (ha : IsT a t) (hz : zT t ≤ 450000) : ∃ c, callW F 26 [a] [] = some (.tup [c, .v (.int .i64 (goalsE t))], []) ∧ (goalsE t = 0 → IsL c (bodT t)) := by
 have hck := rcheck_ok t a ha
 have hf := ha.facts
 have e1 : Q76 [.box 32 a.cells] true 4 (.ptr 0 0) = some a := hf.2.2.2.1 [] 32
 have bxa : bx [] 32 (some a.cells) = some (.ptr 0 0, [.box 32 a.cells]) := rfl
 unfold goalsE
 by_cases hc : checkT t = 0
 ·rw [hc] at hck
  simp only [hc, if_true]
  obtain ⟨r, X, es, g1, g2, g3, g4⟩ := body_ok _ t a (Nat.lt_succ_self _) hz ha [.box 32 a.cells]
  have hll := g4.length
  have hbl := bod_len t
  have key := goals_loop (K := es.length + 1) g3 g4 (by omega) es.length 0 [] [a, .ptr 0 0, .v (.slice none 0 0), .v (.int .i64 0), .v (.int .i64 0), r, .v undef, .v (.bool false), r, .v (.int .i64 es.length), .v (.int .i64 0), .v undef, .v undef] (by omega) rfl
  rw [List.append_nil, List.drop_zero] at key
  have ln := fun H' : List AO => g3.len H'
  have body : ∀ {e : AXit} {vs : List AV} {h' : List AO}, loopN (exec (callW F) (es.length + 1) c26_11) K55 (es.length + 1) [a, .ptr 0 0, .v (.slice none 0 0), .v (.int .i64 0), .v (.int .i64 0), r, .v undef, .v (.bool false), r, .v (.int .i64 es.length), .v (.int .i64 0), .v undef, .v undef] ([.box 32 a.cells] ++ X) = some (e, vs, h') →
    lv c26.res (exec (callW F) (es.length + 1) c26.body (start c26 [a]) []) = lv [.var 2, .var 3] (thn (callW F) (es.length + 1) (.seq (.region [] [] c26_12) .ret) (blk 0 (some (e, vs, h')))) := by
   intro e vs h' hloop
   rw [show c26.body = (.seq (.region [] [] c26_0) (.seq (.seq (.region [] [] c26_1) (.seq (.region [] [] c26_2) (.cond (.var 7) (.seq (.region [] [] c26_3) .ret) .skip))) (.seq (.region [] [] c26_4) (.seq (.seq (.region [] [] c26_5) (.block 0 (.loop K55 [] c26_11))) (.seq (.region [] [] c26_12) .ret))))) from rfl, show c26.res = [.var 2, .var 3] from rfl]
   generalize (CC.seq (.region [] [] c26_12) .ret) = rest
   generalize c26_11 = bb at hloop ⊢
   have n0 : ((0 : Int) == 0) = true := rfl
   simp only [c26, start, List.replicate, c26_0, c26_1, c26_2, c26_4, c26_5, bxa, e1, hf, hck, n0, e_callh, List.map_cons, List.map_nil, g1, ln, hloop, List.singleton_append, Q0, Q1, Q2, Q3, Q4, Q5, Q6, Q7, Q8, Q9, Q10, Q11, Q12, Q13, Q14, Q15, Q16, Q17, Q18, Q19, Q20, Q21, Q22, Q23, Q24, Q25, Q26, Q27, Q28, Q29, Q30, Q31, Q32, Q33, Q35, Q36, Q37, Q38, Q39, Q40, Q41, Q42, Q43, Q44, Q45, Q46, Q47, Q48, Q49, Q50, Q51, Q52, Q53, Q54, Q55, Q56, Q57, Q58, Q59, Q60, Q61, Q62, Q63, Q64, Q65, Q66, Q67, Q68, Q69, Q70, Q71, Q72, Q73, Q99, Q100, Q101, Q102, Q103, Q74, Q75, Q77, Q78, Q79, Q80, Q81, Q82, Q83, Q84, clr, List.length_nil, List.length_cons, List.getElem?_cons_zero, List.getElem?_cons_succ, Nat.reduceAdd, Nat.zero_add, Nat.add_zero, Nat.reduceLeDiff, Nat.reduceSub, ↓reduceIte, List.drop_succ_cons, List.drop_zero, List.take_succ_cons, List.take_zero, Bool.false_eq_true, List.nil_append, List.cons_append, Bool.not_true, Bool.not_false, cond_true, cond_false, bne, Q85, Q86, Q87, Q88, Q89, Q90, Q91, Q92, Q93, Q94, Q95, Q96, Q97, Q98, Q110, Q111, Q116, Q117, Q118, Q119, Q120, Q121, Q122, Q123, Option.map_some, Option.map_none] at hloop ⊢
  rcases key with ⟨h1, Y', x6, x12, h2⟩ | ⟨h1, vs, h', h2, h3, h4⟩
  ·obtain ⟨c2, q1, q2, q3⟩ := (g3.app Y').lvf
   refine ⟨c2, callW_pure (c := c26) rfl rfl (es.length + 1) ?_, fun _ => Sl.isL q3 g4 (small_maxM (m := 450000) (by omega))⟩
   have f4 : lvf (.box 32 a.cells :: (X ++ Y')) (.tup [r, .v (.int .i64 0)]) = some (.tup [c2, .v (.int .i64 0)], []) := by
    have q4 : r.frz1 0 (.box 32 a.cells :: (X ++ Y')) = some c2 := by
     cases g3 <;> exact q2
    have fz : ∀ (x : Value) (h : List AO), (AV.v x).frz1 0 h = some (.v x) := fun _ _ => rfl
    simp only [lvf, AV.frz2, List.mapM_cons, List.mapM_nil, q4, fz, Option.pure_def, Option.bind_eq_bind, Option.bind_some, Option.map_some]
   rw [body h2, h1]
   simp only [V55, c26_12, f4, if_true, Q0, Q1, Q2, Q3, Q4, Q5, Q6, Q7, Q8, Q9, Q10, Q11, Q12, Q13, Q14, Q15, Q16, Q17, Q18, Q19, Q20, Q21, Q22, Q23, Q24, Q25, Q26, Q27, Q28, Q29, Q30, Q31, Q32, Q33, Q35, Q36, Q37, Q38, Q39, Q40, Q41, Q42, Q43, Q44, Q45, Q46, Q47, Q48, Q49, Q50, Q51, Q52, Q53, Q54, Q55, Q56, Q57, Q58, Q59, Q60, Q61, Q62, Q63, Q64, Q65, Q66, Q67, Q68, Q69, Q70, Q71, Q72, Q73, Q99, Q100, Q101, Q102, Q103, Q74, Q75, Q77, Q78, Q79, Q80, Q81, Q82, Q83, Q84, clr, List.length_nil, List.length_cons, List.getElem?_cons_zero, List.getElem?_cons_succ, Nat.reduceAdd, Nat.zero_add, Nat.add_zero, Nat.reduceLeDiff, Nat.reduceSub, ↓reduceIte, List.drop_succ_cons, List.drop_zero, List.take_succ_cons, List.take_zero, Bool.false_eq_true, List.nil_append, List.cons_append, Bool.not_true, Bool.not_false, cond_true, cond_false, bne, Q85, Q86, Q87, Q88, Q89, Q90, Q91, Q92, Q93, Q94, Q95, Q96, Q97, Q98, Q110, Q111, Q116, Q117, Q118, Q119, Q120, Q121, Q122, Q123, Option.map_some, Option.map_none]
  ·refine ⟨.v (.slice none 0 0), callW_pure (c := c26) rfl rfl (es.length + 1) ?_, ?_⟩
   ·rw [body h2, h1]
    simp only [Q18, Q14, Q85, Q88, Q90, Q89, h3, h4, Bool.false_eq_true, if_false]
    rfl
   ·rw [h1]; intro h; simp at h
 ·have hb : (checkT t == 0) = false := by simpa using hc
  refine ⟨.v (.slice none 0 0), callW_pure (c := c26) rfl rfl 0 ?_, fun h => absurd (by simp [hc] at h) hc⟩
  simp only [hc, if_false, c26, start, List.replicate, c26_0, c26_1, c26_2, c26_3, bxa, e1, hf, hck, hb, Q0, Q1, Q2, Q3, Q4, Q5, Q6, Q7, Q8, Q9, Q10, Q11, Q12, Q13, Q14, Q15, Q16, Q17, Q18, Q19, Q20, Q21, Q22, Q23, Q24, Q25, Q26, Q27, Q28, Q29, Q30, Q31, Q32, Q33, Q35, Q36, Q37, Q38, Q39, Q40, Q41, Q42, Q43, Q44, Q45, Q46, Q47, Q48, Q49, Q50, Q51, Q52, Q53, Q54, Q55, Q56, Q57, Q58, Q59, Q60, Q61, Q62, Q63, Q64, Q65, Q66, Q67, Q68, Q69, Q70, Q71, Q72, Q73, Q99, Q100, Q101, Q102, Q103, Q74, Q75, Q77, Q78, Q79, Q80, Q81, Q82, Q83, Q84, clr, List.length_nil, List.length_cons, List.getElem?_cons_zero, List.getElem?_cons_succ, Nat.reduceAdd, Nat.zero_add, Nat.add_zero, Nat.reduceLeDiff, Nat.reduceSub, ↓reduceIte, List.drop_succ_cons, List.drop_zero, List.take_succ_cons, List.take_zero, Bool.false_eq_true, List.nil_append, List.cons_append, Bool.not_true, Bool.not_false, cond_true, cond_false, bne, Q85, Q86, Q87, Q88, Q89, Q90, Q91, Q92, Q93, Q94, Q95, Q96, Q97, Q98, Q110, Q111, Q116, Q117, Q118, Q119, Q120, Q121, Q122, Q123, Option.map_some, Option.map_none]
  rfl

def headE (t : Tm) : Int := bif (!goalB t || builtB t.s t.l.length) then 80 else 0
def makeE (t : Tm) : Int :=
 if checkT t = 0 then
  if is2 (numT (varT t) t) neck = true then
   (if goalsE ((numT (varT t) t).l.getD 1 zeroT) = 0 then headE ((numT (varT t) t).l.getD 0 zeroT) else goalsE ((numT (varT t) t).l.getD 1 zeroT))
  else headE (numT (varT t) t)
 else checkT t
mutual
theorem num_size (vs : List Int) : ∀ t : Tm, zT (numT vs t) ≤ zT t
 | .mk k s n l => by
  have := numL_size vs l
  rw [numT]
  split <;> rw [zT, zT] <;> first | omega | (simp only [zL]; omega)
theorem numL_size (vs : List Int) : ∀ l : List Tm, zL (numL vs l) ≤ zL l
 | [] => by rw [numL]; exact Nat.le_refl _
 | t :: l => by
  have := num_size vs t
  have := numL_size vs l
  rw [numL, zL, zL]; omega
end
def zero6 : List AV := [.v (.int .i64 0), .v (.string ⟨#[]⟩), .v (.int .i64 0), .v (.slice none 0 0), .v (.slice none 0 0), .v (.int .i64 0)]
def mkH (k : Int) (s : ByteArray) (n : Int) (c : AV) (hk : Int) (hs : ByteArray) (hn : Int) (hc b : AV) (v : Int) : List AO :=
 [.box 32 [.v (.int .i64 k), .v (.string s), .v (.int .i64 n), c], .box 35 zero6, .box 35 [.v (.int .i64 hk), .v (.string hs), .v (.int .i64 hn), hc, b, .v (.int .i64 v)]]
def mkV (a q : AV) (x3 x7 x8 x11 : AV) (x10 : Bool) : List AV := [a, .ptr 0 0, .ptr 1 0, x3, .v (.int .i64 0), q, .ptr 2 0, x7, x8, .v (.bool false), .v (.bool x10), x11, .v undef]
def tailC : CC := .seq (.seq (.region [] [] c10_13) (.cond (.var 12) (.seq (.region [] [] c10_14) .ret) .skip)) (.seq (.region [] [] c10_15) .ret)
def Six (a : AV) : Prop := a.cl = some a.cells ∧ a.cells.length = 6
theorem make_tail {k : Int} {s : ByteArray} {n : Int} {c : AV} {hk : Int} {hs : ByteArray} {hn : Int} {hc b : AV} {v : Int} {hl bl : List Tm} (hhd : IsL hc hl) (hb : IsL b bl) (a q x3 x7 x8 x11 : AV) (x10 : Bool) :
  ∃ ca, Six ca ∧ lv [.cell 2 true 6, .var 3] (exec (callW F) 0 tailC (mkV a q x3 x7 x8 x11 x10) (mkH k s n c hk hs hn hc b v)) = some (.tup [ca, .v (.int .i64 (headE (.mk hk hs hn hl)))], []) ∧ (headE (.mk hk hs hn hl) = 0 → IsCl ca ⟨.mk hk hs hn hl, bl, v⟩) := by
 have hT : IsT (.agg [.v (.int .i64 hk), .v (.string hs), .v (.int .i64 hn), hc]) (.mk hk hs hn hl) := .mk hk hs hn hc hl hhd
 have hg := goal_ok hT
 have hbt := built_ok hs (hl.length : Int)
 have sn := hT.facts.2.1
 have ln := fun H : List AO => hhd.len H
 have l6a : Q76 (mkH k s n c hk hs hn hc b v) true 4 (.ptr 2 0) = some (.agg [.v (.int .i64 hk), .v (.string hs), .v (.int .i64 hn), hc]) := rfl
 have l6b : Q76 (mkH k s n c hk hs hn hc b v) false 1 (.ptr 2 1) = some (.v (.string hs)) := rfl
 have l6c : Q76 (mkH k s n c hk hs hn hc b v) false 1 (.ptr 2 3) = some hc := rfl
 have l6d : Q76 (mkH k s n c hk hs hn hc b v) true 6 (.ptr 2 0) = some (.agg [.v (.int .i64 hk), .v (.string hs), .v (.int .i64 hn), hc, b, .v (.int .i64 v)]) := rfl
 have e6 : ∀ (vars env : List AV) (h : List AO), evOp (callW F) vars env h (.build [(.int .i64 0), (.string ⟨#[]⟩), (.int .i64 0), (.slice none 0 0), (.slice none 0 0), (.int .i64 0)] []) = some (.agg zero6, h) := fun _ _ _ => rfl
 have st0 : Q113 (mkH k s n c hk hs hn hc b v) 6 (.ptr 1 0) (.agg zero6) = some (mkH k s n c hk hs hn hc b v) := rfl
 obtain ⟨H1, hH1⟩ : ∃ H1 : List AO, H1 = [.box 32 [.v (.int .i64 k), .v (.string s), .v (.int .i64 n), c], .box 35 [.v (.int .i64 hk), .v (.string hs), .v (.int .i64 hn), hc, b, .v (.int .i64 v)], .box 35 [.v (.int .i64 hk), .v (.string hs), .v (.int .i64 hn), hc, b, .v (.int .i64 v)]] := ⟨_, rfl⟩
 have st1 : Q113 (mkH k s n c hk hs hn hc b v) 6 (.ptr 1 0) (.agg [.v (.int .i64 hk), .v (.string hs), .v (.int .i64 hn), hc, b, .v (.int .i64 v)]) = some H1 := by rw [hH1]; rfl
 have ld1 : Q76 H1 true 6 (.ptr 1 0) = some (.agg [.v (.int .i64 hk), .v (.string hs), .v (.int .i64 hn), hc, b, .v (.int .i64 v)]) := by rw [hH1]; rfl
 have ld0 : Q76 (mkH k s n c hk hs hn hc b v) true 6 (.ptr 1 0) = some (.agg zero6) := rfl
 have f0 : ∀ (H : List AO) (x : Int), lvf H (.tup [.agg zero6, .v (.int .i64 x)]) = some (.tup [.agg zero6, .v (.int .i64 x)], []) := fun _ _ => rfl
 have f1 : ∀ (H : List AO) (x : Int), lvf H (.tup [.agg [.v (.int .i64 hk), .v (.string hs), .v (.int .i64 hn), hc, b, .v (.int .i64 v)], .v (.int .i64 x)]) = some (.tup [.agg [.v (.int .i64 hk), .v (.string hs), .v (.int .i64 hn), hc, b, .v (.int .i64 v)], .v (.int .i64 x)], []) := by
  intro H x
  cases hhd <;> cases hb <;> rfl
 unfold headE
 simp only [Tm.s, Tm.l] at hbt ⊢
 generalize goalB (.mk hk hs hn hl) = G at hg ⊢
 generalize builtB hs (hl.length : Int) = B at hbt ⊢
 generalize hGH : mkH k s n c hk hs hn hc b v = H0 at *
 cases G <;> cases B
 ·refine ⟨.agg zero6, ⟨rfl, rfl⟩, ?_, fun h => by simp at h⟩
  simp only [tailC, mkV, c10_13, c10_14, c10_15, l6a, l6b, l6c, l6d, hg, hbt, sn, ln, e6, st0, ld0, f0, Q122, snap_str, snap_int, Bool.not_false, Bool.true_or, cond_true, Q0, Q1, Q2, Q3, Q4, Q5, Q6, Q7, Q8, Q9, Q10, Q11, Q12, Q13, Q14, Q15, Q16, Q17, Q18, Q19, Q20, Q21, Q22, Q23, Q24, Q25, Q26, Q27, Q28, Q29, Q30, Q31, Q32, Q33, Q35, Q36, Q37, Q38, Q39, Q40, Q41, Q42, Q43, Q44, Q45, Q46, Q47, Q48, Q49, Q50, Q51, Q52, Q53, Q54, Q55, Q56, Q57, Q58, Q59, Q60, Q61, Q62, Q63, Q64, Q65, Q66, Q67, Q68, Q69, Q70, Q71, Q72, Q73, Q99, Q100, Q101, Q102, Q103, Q74, Q75, Q77, Q78, Q79, Q80, Q81, Q82, Q83, Q84, clr, List.length_nil, List.length_cons, List.getElem?_cons_zero, List.getElem?_cons_succ, Nat.reduceAdd, Nat.zero_add, Nat.add_zero, Nat.reduceLeDiff, Nat.reduceSub, ↓reduceIte, List.drop_succ_cons, List.drop_zero, List.take_succ_cons, List.take_zero, Bool.false_eq_true, List.nil_append, List.cons_append, Bool.not_true, Bool.not_false, cond_true, cond_false, bne, Q85, Q86, Q87, Q88, Q89, Q90, Q91, Q92, Q93, Q94, Q95, Q96, Q97, Q98, Q110, Q111, Q116, Q117, Q118, Q119, Q120, Q121, Q122, Q123, Option.map_some, Option.map_none]
 ·refine ⟨.agg zero6, ⟨rfl, rfl⟩, ?_, fun h => by simp at h⟩
  simp only [tailC, mkV, c10_13, c10_14, c10_15, l6a, l6b, l6c, l6d, hg, hbt, sn, ln, e6, st0, ld0, f0, Q122, snap_str, snap_int, Bool.not_false, Bool.true_or, cond_true, Q0, Q1, Q2, Q3, Q4, Q5, Q6, Q7, Q8, Q9, Q10, Q11, Q12, Q13, Q14, Q15, Q16, Q17, Q18, Q19, Q20, Q21, Q22, Q23, Q24, Q25, Q26, Q27, Q28, Q29, Q30, Q31, Q32, Q33, Q35, Q36, Q37, Q38, Q39, Q40, Q41, Q42, Q43, Q44, Q45, Q46, Q47, Q48, Q49, Q50, Q51, Q52, Q53, Q54, Q55, Q56, Q57, Q58, Q59, Q60, Q61, Q62, Q63, Q64, Q65, Q66, Q67, Q68, Q69, Q70, Q71, Q72, Q73, Q99, Q100, Q101, Q102, Q103, Q74, Q75, Q77, Q78, Q79, Q80, Q81, Q82, Q83, Q84, clr, List.length_nil, List.length_cons, List.getElem?_cons_zero, List.getElem?_cons_succ, Nat.reduceAdd, Nat.zero_add, Nat.add_zero, Nat.reduceLeDiff, Nat.reduceSub, ↓reduceIte, List.drop_succ_cons, List.drop_zero, List.take_succ_cons, List.take_zero, Bool.false_eq_true, List.nil_append, List.cons_append, Bool.not_true, Bool.not_false, cond_true, cond_false, bne, Q85, Q86, Q87, Q88, Q89, Q90, Q91, Q92, Q93, Q94, Q95, Q96, Q97, Q98, Q110, Q111, Q116, Q117, Q118, Q119, Q120, Q121, Q122, Q123, Option.map_some, Option.map_none]
 ·refine ⟨_, ⟨rfl, rfl⟩, ?_, fun _ => .mk hk hs hn hc hl hhd b bl hb v⟩
  simp only [tailC, mkV, c10_13, c10_14, c10_15, l6a, l6b, l6c, l6d, hg, hbt, sn, ln, e6, st1, ld1, f1, Q122, snap_str, snap_int, Bool.not_true, Bool.or_self, cond_false, Q0, Q1, Q2, Q3, Q4, Q5, Q6, Q7, Q8, Q9, Q10, Q11, Q12, Q13, Q14, Q15, Q16, Q17, Q18, Q19, Q20, Q21, Q22, Q23, Q24, Q25, Q26, Q27, Q28, Q29, Q30, Q31, Q32, Q33, Q35, Q36, Q37, Q38, Q39, Q40, Q41, Q42, Q43, Q44, Q45, Q46, Q47, Q48, Q49, Q50, Q51, Q52, Q53, Q54, Q55, Q56, Q57, Q58, Q59, Q60, Q61, Q62, Q63, Q64, Q65, Q66, Q67, Q68, Q69, Q70, Q71, Q72, Q73, Q99, Q100, Q101, Q102, Q103, Q74, Q75, Q77, Q78, Q79, Q80, Q81, Q82, Q83, Q84, clr, List.length_nil, List.length_cons, List.getElem?_cons_zero, List.getElem?_cons_succ, Nat.reduceAdd, Nat.zero_add, Nat.add_zero, Nat.reduceLeDiff, Nat.reduceSub, ↓reduceIte, List.drop_succ_cons, List.drop_zero, List.take_succ_cons, List.take_zero, Bool.false_eq_true, List.nil_append, List.cons_append, Bool.not_true, Bool.not_false, cond_true, cond_false, bne, Q85, Q86, Q87, Q88, Q89, Q90, Q91, Q92, Q93, Q94, Q95, Q96, Q97, Q98, Q110, Q111, Q116, Q117, Q118, Q119, Q120, Q121, Q122, Q123, Option.map_some, Option.map_none]
 ·refine ⟨.agg zero6, ⟨rfl, rfl⟩, ?_, fun h => by simp at h⟩
  simp only [tailC, mkV, c10_13, c10_14, c10_15, l6a, l6b, l6c, l6d, hg, hbt, sn, ln, e6, st0, ld0, f0, Q122, snap_str, snap_int, Bool.not_true, Bool.or_true, cond_true, Q0, Q1, Q2, Q3, Q4, Q5, Q6, Q7, Q8, Q9, Q10, Q11, Q12, Q13, Q14, Q15, Q16, Q17, Q18, Q19, Q20, Q21, Q22, Q23, Q24, Q25, Q26, Q27, Q28, Q29, Q30, Q31, Q32, Q33, Q35, Q36, Q37, Q38, Q39, Q40, Q41, Q42, Q43, Q44, Q45, Q46, Q47, Q48, Q49, Q50, Q51, Q52, Q53, Q54, Q55, Q56, Q57, Q58, Q59, Q60, Q61, Q62, Q63, Q64, Q65, Q66, Q67, Q68, Q69, Q70, Q71, Q72, Q73, Q99, Q100, Q101, Q102, Q103, Q74, Q75, Q77, Q78, Q79, Q80, Q81, Q82, Q83, Q84, clr, List.length_nil, List.length_cons, List.getElem?_cons_zero, List.getElem?_cons_succ, Nat.reduceAdd, Nat.zero_add, Nat.add_zero, Nat.reduceLeDiff, Nat.reduceSub, ↓reduceIte, List.drop_succ_cons, List.drop_zero, List.take_succ_cons, List.take_zero, Bool.false_eq_true, List.nil_append, List.cons_append, Bool.not_true, Bool.not_false, cond_true, cond_false, bne, Q85, Q86, Q87, Q88, Q89, Q90, Q91, Q92, Q93, Q94, Q95, Q96, Q97, Q98, Q110, Q111, Q116, Q117, Q118, Q119, Q120, Q121, Q122, Q123, Option.map_some, Option.map_none]
theorem make_ok {t : Tm} {a : AV} (ha : IsT a t) (hz : zT t ≤ 450000) : ∃ ca, Six ca ∧ callW F 10 [a] [] = some (.tup [ca, .v (.int .i64 (makeE t))], []) ∧ (makeE t = 0 → IsCl ca (cutC (numT (varT t) t) (varT t).length)) := by
 have hck := rcheck_ok t a ha
 have hf := ha.facts
 have bxa : bx [] 32 (some a.cells) = some (.ptr 0 0, [.box 32 a.cells]) := rfl
 have q6 : (ofVal (.agg #[(.int .i64 0), (.string ⟨#[]⟩), (.int .i64 0), (.slice none 0 0), (.slice none 0 0), (.int .i64 0)])).cl = some zero6 := by simp [ofVal, AV.cl, Value.oneCell', zero6]
 have bxb : bx [.box 32 a.cells] 35 (some zero6) = some (.ptr 1 0, [.box 32 a.cells, .box 35 zero6]) := rfl
 have e1 : Q76 [.box 32 a.cells, .box 35 zero6] true 4 (.ptr 0 0) = some a := by
  cases ha; rfl
 have e6 : ∀ (vars env : List AV) (h : List AO), evOp (callW F) vars env h (.build [(.int .i64 0), (.string ⟨#[]⟩), (.int .i64 0), (.slice none 0 0), (.slice none 0 0), (.int .i64 0)] []) = some (.agg zero6, h) := fun _ _ _ => rfl
 have f0 : ∀ (H : List AO) (x : Int), lvf H (.tup [.agg zero6, .v (.int .i64 x)]) = some (.tup [.agg zero6, .v (.int .i64 x)], []) := fun _ _ => rfl
 rw [makeE]
 by_cases hc : checkT t = 0
 ·rw [hc] at hck
  rw [if_pos hc]
  obtain ⟨q, hq, hv⟩ := vars_ok (t := t) (a := a) (by rw [← zT_size]; exact hz) ha
  rw [vars_eq] at hq
  have hvl : (varT t).length ≤ 450000 := by
   have h1 := foldNew_len (placesT t) []
   have h2 := places_len t
   rw [← zT_size] at h2
   have h3 : (varsT t).length ≤ (placesT t).length := by simpa [varsT] using h1
   rw [vars_eq] at h3
   omega
  obtain ⟨r, hr, hn⟩ := num_ok hq hvl _ t a (Nat.lt_succ_self _) (by rw [← zT_size]; exact hz) ha
  have hz' := num_size (varT t) t
  generalize hgt : numT (varT t) t = t' at hr hz' ⊢
  have hqs := fun H : List AO => hq.snap H
  have hql : ∀ H : List AO, evLen H .slice q = some (varT t).length := fun H => by rw [hq.len H, List.length_map]
  have hrf := hr.facts
  have hi := is_ok hr neck 2
  rw [isB_2] at hi
  have hrs : ∀ X : List AO, Q113 (.box 32 a.cells :: X) 4 (.ptr 0 0) r = some (.box 32 r.cells :: X) := by
   intro X
   have h1 := ha.cl.2
   have := bx_st (h := .box 32 a.cells :: X) (id := 0) (bt := 32) (cs := a.cells) rfl hr.cl.1 (n := 4) (o := 0) hr.cl.2 (by omega)
   rw [this]
   cases ha; cases hr; rfl
  have hrl : ∀ X : List AO, Q76 (.box 32 r.cells :: X) true 4 (.ptr 0 0) = some r := by
   intro X; cases hr; rfl
  generalize hgv : (varT t).length = v at hql ⊢
  have bd : evBuild [a, .ptr 0 0, .ptr 1 0, .v (.int .i64 0), .v (.int .i64 0), q, .v undef, .v undef, .v undef, .v (.bool false), .v undef, .v undef, .v undef] [] zero6 [] = some zero6 := rfl
  cases hr with
  | mk k s n c l hcl =>
  have n0 : ((0 : Int) == 0) = true := rfl
  have bdd : ∀ (vars : List AV) (e0 e1 : AV) (env h : List AO), True := fun _ _ _ _ _ => trivial
  have hrs : ∀ X : List AO, Q113 (.box 32 a.cells :: X) 4 (.ptr 0 0) (.agg [.v (.int .i64 k), .v (.string s), .v (.int .i64 n), c]) = some (.box 32 [.v (.int .i64 k), .v (.string s), .v (.int .i64 n), c] :: X) := hrs
  have hrl : ∀ X : List AO, Q76 (.box 32 [.v (.int .i64 k), .v (.string s), .v (.int .i64 n), c] :: X) true 4 (.ptr 0 0) = some (.agg [.v (.int .i64 k), .v (.string s), .v (.int .i64 n), c]) := hrl
  have bld : ∀ (vars : List AV) (h : List AO) (x : AV), evOp (callW F) vars [.v (.int .i64 v), x, .agg [.v (.int .i64 k), .v (.string s), .v (.int .i64 n), c]] h (.build [(.int .i64 0), (.string ⟨#[]⟩), (.int .i64 0), (.slice none 0 0), (.slice none 0 0), (.int .i64 0)] [(0, 4, (.loc 2)), (5, 1, (.loc 0))]) = some (.agg [.v (.int .i64 k), .v (.string s), .v (.int .i64 n), c, .v (.slice none 0 0), .v (.int .i64 v)], h) := by
   intro vars h x
   cases hcl <;> rfl
  have bxc : bx [.box 32 [.v (.int .i64 k), .v (.string s), .v (.int .i64 n), c], .box 35 zero6] 35 (some zero6) = some (.ptr 2 0, [.box 32 [.v (.int .i64 k), .v (.string s), .v (.int .i64 n), c], .box 35 zero6, .box 35 zero6]) := rfl
  have stc : Q113 [.box 32 [.v (.int .i64 k), .v (.string s), .v (.int .i64 n), c], .box 35 zero6, .box 35 zero6] 6 (.ptr 2 0) (.agg [.v (.int .i64 k), .v (.string s), .v (.int .i64 n), c, .v (.slice none 0 0), .v (.int .i64 v)]) = some (mkH k s n c k s n c (.v (.slice none 0 0)) v) := rfl
  have ldr : Q76 (mkH k s n c k s n c (.v (.slice none 0 0)) v) true 4 (.ptr 0 0) = some (.agg [.v (.int .i64 k), .v (.string s), .v (.int .i64 n), c]) := rfl
  have ldc : Q76 (mkH k s n c k s n c (.v (.slice none 0 0)) v) false 1 (.ptr 0 3) = some c := rfl
  cases h2 : is2 (.mk k s n l) neck with
  | false =>
   rw [h2] at hi
   obtain ⟨ca, g0, g1, g2⟩ := make_tail (k := k) (s := s) (n := n) (c := c) (hk := k) (hs := s) (hn := n) (v := (v : Int)) hcl (.nil) a q (.v (.int .i64 0)) (.v undef) (.v undef) (.v undef) false
   simp only [Bool.false_eq_true, if_false]
   refine ⟨ca, g0, callW_pure (c := c10) rfl rfl 0 ?_, fun h => ?_⟩
   ·rw [← g1]
    rw [show c10.body = (.seq (.region [] [] c10_0) (.seq (.seq (.region [] [] c10_1) (.seq (.region [] [] c10_2) (.cond (.var 9) (.seq (.region [] [] c10_3) .ret) .skip))) (.seq (.region [] [] c10_4) (.seq (.region [] [] c10_5) (.seq (.region [] [] c10_6) (.seq (.seq (.region [] [] c10_7) (.cond (.var 10) (.seq (.region [] [] c10_8) (.seq (.seq (.region [] [] c10_9) (.cond (.var 11) (.seq (.region [] [] c10_10) .ret) .skip)) (.seq (.region [] [] c10_11) (.region [] [] c10_12)))) .skip)) tailC)))))) from rfl, show c10.res = [.cell 2 true 6, .var 3] from rfl]
    generalize tailC = TC
    simp only [neck] at hi
    simp only [mkV, c10, start, List.replicate, c10_0, c10_1, c10_2, c10_4, c10_5, c10_6, c10_7, bxa, q6, bxb, e1, hf, hck, n0, hv, hqs, hn, hrs, hrl, hql, bld, bxc, stc, ldr, hrf, hi, snap_str, snap_int, Q0, Q1, Q2, Q3, Q4, Q5, Q6, Q7, Q8, Q9, Q10, Q11, Q12, Q13, Q14, Q15, Q16, Q17, Q18, Q19, Q20, Q21, Q22, Q23, Q24, Q25, Q26, Q27, Q28, Q29, Q30, Q31, Q32, Q33, Q35, Q36, Q37, Q38, Q39, Q40, Q41, Q42, Q43, Q44, Q45, Q46, Q47, Q48, Q49, Q50, Q51, Q52, Q53, Q54, Q55, Q56, Q57, Q58, Q59, Q60, Q61, Q62, Q63, Q64, Q65, Q66, Q67, Q68, Q69, Q70, Q71, Q72, Q73, Q99, Q100, Q101, Q102, Q103, Q74, Q75, Q77, Q78, Q79, Q80, Q81, Q82, Q83, Q84, clr, List.length_nil, List.length_cons, List.getElem?_cons_zero, List.getElem?_cons_succ, Nat.reduceAdd, Nat.zero_add, Nat.add_zero, Nat.reduceLeDiff, Nat.reduceSub, ↓reduceIte, List.drop_succ_cons, List.drop_zero, List.take_succ_cons, List.take_zero, Bool.false_eq_true, List.nil_append, List.cons_append, Bool.not_true, Bool.not_false, cond_true, cond_false, bne, Q85, Q86, Q87, Q88, Q89, Q90, Q91, Q92, Q93, Q94, Q95, Q96, Q97, Q98, Q110, Q111, Q116, Q117, Q118, Q119, Q120, Q121, Q122, Q123, Option.map_some, Option.map_none]
   ·have := g2 h
    rw [cutC, h2]
    exact this
  | true =>
   rw [h2] at hi
   obtain ⟨hk4, _, hl2⟩ := is2_iff.1 h2
   simp only [Tm.k, Tm.l] at hk4 hl2
   obtain ⟨es, hs', hes, hm⟩ := hcl.sl
   have hll := hes.length
   match l, es, hl2, hes, hll with
   | [x, y], [ex, ey], _, hes, hll =>
   have hx := hes.at (i := 0) (by simp) (by simp)
   have hy := hes.at (i := 1) (by simp) (by simp)
   simp only [List.getElem_cons_zero, List.getElem_cons_succ] at hx hy
   simp only [zT, zL] at hz'
   obtain ⟨cg, gg1, gg2⟩ := goals_ok hy (by omega)
   have fx := hx.facts
   have fy := hy.facts
   have i0 := fun H : List AO => hs'.ia (i := 0) rfl H
   have i1 := fun H : List AO => hs'.ia (i := 1) rfl H
   have m0 : natV (.v (.int .i64 0)) = some 0 := rfl
   have m1 : natV (.v (.int .i64 1)) = some 1 := rfl
   simp only [if_true, Tm.l, List.getD_cons_zero, List.getD_cons_succ]
   by_cases hge : goalsE y = 0
   ·rw [if_pos hge]
    rw [hge] at gg1
    have hcg := gg2 hge
    cases hx with
    | mk kx sx nx cx lx hcx =>
    obtain ⟨ca, g0, g1, g2⟩ := make_tail (k := k) (s := s) (n := n) (c := c) (hk := kx) (hs := sx) (hn := nx) (v := (v : Int)) hcx hcg a q (.v (.int .i64 0)) cg (.v (.int .i64 0)) (.v (.bool false)) true
    refine ⟨ca, g0, callW_pure (c := c10) rfl rfl 0 ?_, fun h => ?_⟩
    ·rw [← g1]
     have sth : Q113 (mkH k s n c k s n c (.v (.slice none 0 0)) v) 4 (.ptr 2 0) (.agg [.v (.int .i64 kx), .v (.string sx), .v (.int .i64 nx), cx]) = some (mkH k s n c kx sx nx cx (.v (.slice none 0 0)) v) := by
      cases hcx <;> rfl
     have stb : Q113 (mkH k s n c kx sx nx cx (.v (.slice none 0 0)) v) 1 (.ptr 2 4) cg = some (mkH k s n c kx sx nx cx cg v) := by
      have gen : ∀ B : List Tm, IsL cg B → Q113 (mkH k s n c kx sx nx cx (.v (.slice none 0 0)) v) 1 (.ptr 2 4) cg = some (mkH k s n c kx sx nx cx cg v) := by
       intro B hB; cases hB <;> rfl
      exact gen _ hcg
     have lx : ∀ H : List AO, Q76 H true 4 (.ip [.v (.int .i64 kx), .v (.string sx), .v (.int .i64 nx), cx]) = some (.agg [.v (.int .i64 kx), .v (.string sx), .v (.int .i64 nx), cx]) := fun _ => rfl
     rw [show c10.body = (.seq (.region [] [] c10_0) (.seq (.seq (.region [] [] c10_1) (.seq (.region [] [] c10_2) (.cond (.var 9) (.seq (.region [] [] c10_3) .ret) .skip))) (.seq (.region [] [] c10_4) (.seq (.region [] [] c10_5) (.seq (.region [] [] c10_6) (.seq (.seq (.region [] [] c10_7) (.cond (.var 10) (.seq (.region [] [] c10_8) (.seq (.seq (.region [] [] c10_9) (.cond (.var 11) (.seq (.region [] [] c10_10) .ret) .skip)) (.seq (.region [] [] c10_11) (.region [] [] c10_12)))) .skip)) tailC)))))) from rfl, show c10.res = [.cell 2 true 6, .var 3] from rfl]
     generalize tailC = TC
     simp only [neck] at hi
     have ldi : Q76 (mkH k s n c kx sx nx cx (.v (.slice none 0 0)) v) false 1 (.ptr 0 3) = some c := rfl
     generalize hH0 : mkH k s n c k s n c (.v (.slice none 0 0)) v = H0 at *
     generalize hH1 : mkH k s n c kx sx nx cx (.v (.slice none 0 0)) v = H1 at *
     simp only [mkV, c10, start, List.replicate, c10_0, c10_1, c10_2, c10_4, c10_5, c10_6, c10_7, c10_8, c10_9, c10_11, c10_12, bxa, q6, bxb, e1, hf, hck, n0, hv, hqs, hn, hrs, hrl, hql, bld, bxc, stc, ldr, ldc, hrf, hi, i0, i1, m0, m1, lx, fy, gg1, Q123, sth, stb, snap_str, snap_int, Q0, Q1, Q2, Q3, Q4, Q5, Q6, Q7, Q8, Q9, Q10, Q11, Q12, Q13, Q14, Q15, Q16, Q17, Q18, Q19, Q20, Q21, Q22, Q23, Q24, Q25, Q26, Q27, Q28, Q29, Q30, Q31, Q32, Q33, Q35, Q36, Q37, Q38, Q39, Q40, Q41, Q42, Q43, Q44, Q45, Q46, Q47, Q48, Q49, Q50, Q51, Q52, Q53, Q54, Q55, Q56, Q57, Q58, Q59, Q60, Q61, Q62, Q63, Q64, Q65, Q66, Q67, Q68, Q69, Q70, Q71, Q72, Q73, Q99, Q100, Q101, Q102, Q103, Q74, Q75, Q77, Q78, Q79, Q80, Q81, Q82, Q83, Q84, clr, List.length_nil, List.length_cons, List.getElem?_cons_zero, List.getElem?_cons_succ, Nat.reduceAdd, Nat.zero_add, Nat.add_zero, Nat.reduceLeDiff, Nat.reduceSub, ↓reduceIte, List.drop_succ_cons, List.drop_zero, List.take_succ_cons, List.take_zero, Bool.false_eq_true, List.nil_append, List.cons_append, Bool.not_true, Bool.not_false, cond_true, cond_false, bne, Q85, Q86, Q87, Q88, Q89, Q90, Q91, Q92, Q93, Q94, Q95, Q96, Q97, Q98, Q110, Q111, Q116, Q117, Q118, Q119, Q120, Q121, Q122, Q123, Option.map_some, Option.map_none]
    ·have := g2 h
     rw [cutC, h2]
     exact this
   ·rw [if_neg hge]
    have hgb : (goalsE y == 0) = false := by simpa using hge
    refine ⟨.agg zero6, ⟨rfl, rfl⟩, callW_pure (c := c10) rfl rfl 0 ?_, fun h => absurd h hge⟩
    have st0 : Q113 (mkH k s n c k s n c (.v (.slice none 0 0)) v) 6 (.ptr 1 0) (.agg zero6) = some (mkH k s n c k s n c (.v (.slice none 0 0)) v) := rfl
    have ld0 : Q76 (mkH k s n c k s n c (.v (.slice none 0 0)) v) true 6 (.ptr 1 0) = some (.agg zero6) := rfl
    rw [show c10.body = (.seq (.region [] [] c10_0) (.seq (.seq (.region [] [] c10_1) (.seq (.region [] [] c10_2) (.cond (.var 9) (.seq (.region [] [] c10_3) .ret) .skip))) (.seq (.region [] [] c10_4) (.seq (.region [] [] c10_5) (.seq (.region [] [] c10_6) (.seq (.seq (.region [] [] c10_7) (.cond (.var 10) (.seq (.region [] [] c10_8) (.seq (.seq (.region [] [] c10_9) (.cond (.var 11) (.seq (.region [] [] c10_10) .ret) .skip)) (.seq (.region [] [] c10_11) (.region [] [] c10_12)))) .skip)) tailC)))))) from rfl, show c10.res = [.cell 2 true 6, .var 3] from rfl]
    generalize tailC = TC
    simp only [neck] at hi
    generalize hH0 : mkH k s n c k s n c (.v (.slice none 0 0)) v = H0 at *
    simp only [mkV, c10, start, List.replicate, c10_0, c10_1, c10_2, c10_4, c10_5, c10_6, c10_7, c10_8, c10_9, c10_10, bxa, q6, bxb, e1, hf, hck, n0, hgb, hv, hqs, hn, hrs, hrl, hql, bld, bxc, stc, ldr, ldc, hrf, hi, i0, i1, m0, m1, fx, fy, gg1, e6, st0, ld0, f0, snap_str, snap_int, Q0, Q1, Q2, Q3, Q4, Q5, Q6, Q7, Q8, Q9, Q10, Q11, Q12, Q13, Q14, Q15, Q16, Q17, Q18, Q19, Q20, Q21, Q22, Q23, Q24, Q25, Q26, Q27, Q28, Q29, Q30, Q31, Q32, Q33, Q35, Q36, Q37, Q38, Q39, Q40, Q41, Q42, Q43, Q44, Q45, Q46, Q47, Q48, Q49, Q50, Q51, Q52, Q53, Q54, Q55, Q56, Q57, Q58, Q59, Q60, Q61, Q62, Q63, Q64, Q65, Q66, Q67, Q68, Q69, Q70, Q71, Q72, Q73, Q99, Q100, Q101, Q102, Q103, Q74, Q75, Q77, Q78, Q79, Q80, Q81, Q82, Q83, Q84, clr, List.length_nil, List.length_cons, List.getElem?_cons_zero, List.getElem?_cons_succ, Nat.reduceAdd, Nat.zero_add, Nat.add_zero, Nat.reduceLeDiff, Nat.reduceSub, ↓reduceIte, List.drop_succ_cons, List.drop_zero, List.take_succ_cons, List.take_zero, Bool.false_eq_true, List.nil_append, List.cons_append, Bool.not_true, Bool.not_false, cond_true, cond_false, bne, Q85, Q86, Q87, Q88, Q89, Q90, Q91, Q92, Q93, Q94, Q95, Q96, Q97, Q98, Q110, Q111, Q116, Q117, Q118, Q119, Q120, Q121, Q122, Q123, Option.map_some, Option.map_none]
 ·rw [if_neg hc]
  have hcb : (checkT t == 0) = false := by simpa using hc
  refine ⟨.agg zero6, ⟨rfl, rfl⟩, callW_pure (c := c10) rfl rfl 0 ?_, fun h => absurd h hc⟩
  have st0 : Q113 [.box 32 a.cells, .box 35 zero6] 6 (.ptr 1 0) (.agg zero6) = some [.box 32 a.cells, .box 35 zero6] := rfl
  have ld0 : Q76 [.box 32 a.cells, .box 35 zero6] true 6 (.ptr 1 0) = some (.agg zero6) := rfl
  generalize checkT t = E at *
  simp only [c10, start, List.replicate, c10_0, c10_1, c10_2, c10_3, bxa, q6, bxb, e1, hf, hck, hcb, e6, st0, ld0, f0, snap_str, snap_int, Q0, Q1, Q2, Q3, Q4, Q5, Q6, Q7, Q8, Q9, Q10, Q11, Q12, Q13, Q14, Q15, Q16, Q17, Q18, Q19, Q20, Q21, Q22, Q23, Q24, Q25, Q26, Q27, Q28, Q29, Q30, Q31, Q32, Q33, Q35, Q36, Q37, Q38, Q39, Q40, Q41, Q42, Q43, Q44, Q45, Q46, Q47, Q48, Q49, Q50, Q51, Q52, Q53, Q54, Q55, Q56, Q57, Q58, Q59, Q60, Q61, Q62, Q63, Q64, Q65, Q66, Q67, Q68, Q69, Q70, Q71, Q72, Q73, Q99, Q100, Q101, Q102, Q103, Q74, Q75, Q77, Q78, Q79, Q80, Q81, Q82, Q83, Q84, clr, List.length_nil, List.length_cons, List.getElem?_cons_zero, List.getElem?_cons_succ, Nat.reduceAdd, Nat.zero_add, Nat.add_zero, Nat.reduceLeDiff, Nat.reduceSub, ↓reduceIte, List.drop_succ_cons, List.drop_zero, List.take_succ_cons, List.take_zero, Bool.false_eq_true, List.nil_append, List.cons_append, Bool.not_true, Bool.not_false, cond_true, cond_false, bne, Q85, Q86, Q87, Q88, Q89, Q90, Q91, Q92, Q93, Q94, Q95, Q96, Q97, Q98, Q110, Q111, Q116, Q117, Q118, Q119, Q120, Q121, Q122, Q123, Option.map_some, Option.map_none]
end Go.AE.YtghgbbiklkpbnaaDoor
end

section
namespace Go.AE.YtghgbbiklkpbnaaDoor
open Go Go.AE Go.Proofs.YtghgbbiklkpbnaaDoor

theorem wf_k {t : Tm} (h : wfT t) (c : isC t = false) : t.k = 1 ∨ t.k = 2 ∨ t.k = 3 := by
 cases t with | mk k s n l =>
 rw [wfT] at h
 have c : ¬ k = 4 := of_decide_eq_false c
 simp only [Tm.k]
 rcases h with h | h | h | h
 ·exact .inl h.1
 ·exact .inr (.inl h.1)
 ·exact .inr (.inr h.1)
 ·exact absurd h.1 c
mutual
theorem innT_le : ∀ t : Tm, innT true t ≤ zT t
 | .mk k s n l => by
  have := innL_le l
  rw [innT, zT]; split <;> omega
theorem innL_le : ∀ l : List Tm, innL l ≤ zL l
 | [] => by simp [innL, zL]
 | t :: l => by
  have := innT_le t
  have := innL_le l
  rw [innL, zL]; omega
end
theorem kT_le (t : Tm) : kT t ≤ 2 * zT t := by
 have : innL t.l ≤ zT t := by
  cases t with | mk k s n l =>
  have := innL_le l
  rw [zT]; simp only [Tm.l]; omega
 rw [kT]; omega
theorem setA_next : ∀ (l : List Tm) (ks : List Nat) (g : Sg), (setA g l ks).2.next = g.next
 | [], ks, g => by cases ks <;> rfl
 | t :: l, [], g => rfl
 | t :: l, k :: ks, g => by
  rw [setA]
  split
  ·exact setA_next l ks g
  ·simp only [setA_next l ks]; exact pSg_next g t
mutual
theorem putC_next : ∀ (t : Tm) (r : Nat) (g : Sg), (putC r g t).2.next = g.next + cL t.l
 | .mk k s n l, r, g => by
  rw [putC]
  simp only [setA_next, putA_next l g, Tm.l]
theorem putA_next : ∀ (l : List Tm) (g : Sg), (putA g l).2.2.next = g.next + cL l
 | [], g => by rw [putA, cL]; rfl
 | .mk k s n m :: l, g => by
  rw [putA, cL]
  by_cases hk : k = 4
  ·simp only [hk, if_true]
   rw [putA_next l, putC_next (.mk 4 s n m), cT, if_pos rfl]
   simp only [Tm.l]; omega
  ·simp only [hk, if_false]
   rw [putA_next l g, cT, if_neg hk]; omega
end

def regs (ks : List Nat) (n : Nat) : List AV := (ks.map fun k : Nat => iv k) ++ List.replicate (n - ks.length) (iv 0)
theorem el_iv (n : Int) : El false 1 (iv n) := El.int n
def loc (tc : List AV) (ks : List Nat) (n : Nat) (tl : List AO) : List AO := .box 32 tc :: .row 3 1 0 (regs ks n) 0 :: tl
section
variable {H : List AO} {tc : List AV} {ks : List Nat} {n B : Nat} {tl : List AO}
end
theorem box_k {e : AV} {t : Tm} (ht : IsT e t) (G : List AO) : Q76 (G ++ [.box 32 e.cells]) false 1 (.ptr G.length 0) = some (.v (.int .i64 t.k)) := by
 cases ht; rw [ld_new]; rfl
end Go.AE.YtghgbbiklkpbnaaDoor
end

section
namespace Go.AE.YtghgbbiklkpbnaaDoor
open Go Go.AE Go.Proofs.YtghgbbiklkpbnaaDoor

end Go.AE.YtghgbbiklkpbnaaDoor
end

section
namespace Go.AE.YtghgbbiklkpbnaaDoor
open Go Go.AE Go.Proofs.YtghgbbiklkpbnaaDoor

def Gb (B : Nat) (ix : List Nat) (h h' : List AO) : Prop := h.length ≤ h'.length ∧ ∀ j, j < B → j ∉ ix → h'[j]? = h[j]?
theorem Gb.refl {B : Nat} {ix : List Nat} (h : List AO) : Gb B ix h h := ⟨Nat.le_refl _, fun _ _ _ => rfl⟩
theorem Gb.trans {B : Nat} {ix : List Nat} {h h' h'' : List AO} (a : Gb B ix h h') (b : Gb B ix h' h'') : Gb B ix h h'' := ⟨Nat.le_trans a.1 b.1, fun j h1 h2 => (b.2 j h1 h2).trans (a.2 j h1 h2)⟩
theorem Rs.gb {B : Nat} {ix : List Nat} {h h' : List AO} (a : Rs ix h h') : Gb B ix h h' := ⟨Nat.le_of_eq a.1.symm, fun j _ h2 => a.2 j h2⟩
theorem Gb.app {B : Nat} {ix : List Nat} {h : List AO} (hB : B ≤ h.length) (l : List AO) : Gb B ix h (h ++ l) := ⟨by simp, fun j h1 _ => List.getElem?_append_left (by omega)⟩

def Wt (e : AV) (p : Nat × Tm) : Prop := ∃ a, IsT a p.2 ∧ e = .agg (.v (.int .i64 (p.1 : Int)) :: a.cells)
theorem Wt.elm {e : AV} {p : Nat × Tm} (h : Wt e p) : El true 5 e := by
 obtain ⟨r, t⟩ := p
 obtain ⟨a, ha, rfl⟩ := h
 simp only at ha
 cases ha with
 | mk k s n c l hc => cases hc <;> exact ⟨rfl, rfl, fun _ => rfl, rfl, rfl, rfl⟩
inductive Qr (rt : TypeId) (H : List AO) (B : Nat) : AV → List AV → Prop
 | nil : Qr rt H B (.v (.slice none 0 0)) []
 | slc (es : List AV) : Qr rt H B (.slc 5 true true es) es
 | own (id ver off : Nat) (L es : List AV) (hr : H[id]? = some (.row rt 5 ver L 0)) (hd : L.drop off = es) (ho : off + es.length = L.length) (hB : B ≤ id) : Qr rt H B (.own 5 id ver off es.length) es
section
variable {rt : TypeId} {H : List AO} {B b rl m : Nat} {code : List Op5} {g : Sg} {Q Qz0 : AV} {es : List AV}
theorem Qr.of {H' : List AO} (q : Qr rt H B Q es) (h : ∀ id, B ≤ id → (∃ ver L, H[id]? = some (.row rt 5 ver L 0)) → H'[id]? = H[id]?) : Qr rt H' B Q es := by
 cases q with
 | nil => exact .nil
 | slc es => exact .slc es
 | own id ver off L es hr hd ho hB => exact .own id ver off L _ ((h id hB ⟨_, _, hr⟩).trans hr) hd ho hB
theorem Qr.app (q : Qr rt H B Q es) (l : List AO) : Qr rt (H ++ l) B Q es := q.of fun id _ ⟨ver, L, h⟩ => (his_get h).trans h.symm
theorem Qr.len (q : Qr rt H B Q es) (H' : List AO) : evLen H' .slice Q = some es.length := by cases q <;> rfl
theorem Qr.cl (q : Qr rt H B Q es) : Q.cl = some [Q] := by cases q <;> rfl
theorem Qr.bel (q : Qr rt H B Q es) : Q.below1 H.length = true := by
 cases q with
 | nil => rfl
 | slc es => rfl
 | own id ver off L es hr hd ho hB => simp [AV.below1, AV.below0, (List.getElem?_eq_some_iff.1 hr).1]
theorem Qr.head {e : AV} {p : Nat × Tm} (q : Qr rt H B Q (e :: es)) (hw : Wt e p) : ∃ x, iaV H 5 Q (some 0) = some x ∧ Q76 H true 5 x = some e := by
 generalize hE : e :: es = E at q
 cases q with
 | nil => cases hE
 | slc es' =>
  refine ⟨_, iaV_slc (i := 0) (el := e) (by rw [← hE]; rfl), hw.elm.ld H⟩
 | own id ver off L es' hr hd ho hB =>
  have hl : L[off]? = some e := by
   have : (L.drop off)[0]? = some e := by rw [hd, ← hE]; rfl
   simpa using this
  have hE1 : E.length = es.length + 1 := by rw [← hE]; rfl
  refine ⟨.ep 5 id ver off 0, ?_, ?_⟩
  ·simp only [iaV, hE1, Nat.succ_pos, and_self, if_true, Nat.add_zero]
   rw [row_at hr (by omega)]; rfl
  ·exact row_ld hr hl hw.elm
theorem Qr.tail {e : AV} (q : Qr rt H B Q (e :: es)) : ∃ Q', slV H 5 (some (some 1)) none Q = some Q' ∧ Qr rt H B Q' es := by
 generalize hE : e :: es = E at q
 cases q with
 | nil => cases hE
 | slc es' =>
  refine ⟨.slc 5 true true es, ?_, .slc es⟩
  subst hE
  simp [slV, slo]
 | own id ver off L es' hr hd ho hB =>
  have hE1 : E.length = es.length + 1 := by rw [← hE]; rfl
  refine ⟨.own 5 id ver (off + 1) es.length, ?_, .own id ver (off + 1) L es hr ?_ (by omega) hB⟩
  ·simp [slV, slo, hE1]
  ·have := congrArg List.tail hd
   rw [← hE] at this
   simpa [List.tail_drop] using this
theorem Cp.keep {H' : List AO} (c : Cp H b rl m code g Qz0) (hl : H.length ≤ H'.length) (hb : H'.all (AO.below H'.length) = true) (h : ∀ j : Nat, (∃ o : AO, H[j]? = some o ∧ ∀ ver L, o ≠ AO.row 130 5 ver L 0) → H'[j]? = H[j]?) : Cp H' b rl m code g Qz0 := by
 obtain ⟨ver, h1, h2⟩ := c.ob.ex
 obtain ⟨x, hx⟩ := c.mp
 exact ⟨⟨ver, (h b ⟨_, h1, by simp⟩).trans h1, (h rl ⟨_, h2, by simp⟩).trans h2⟩, ⟨x, (h m ⟨_, hx, by simp⟩).trans hx⟩, hb⟩
theorem Cp.addQ (c : Cp H b rl m code g Qz0) (q : Qr 130 H B Q es) (hB : B ≤ H.length) (w : AV) (hf : es.length ≤ 900000) :
  ∃ Q' H', evAppend H 130 5 64 Q (.slc 5 true true [w]) = some (Q', H') ∧ Cp H' b rl m code g Qz0 ∧ Qr 130 H' B Q' (es ++ [w]) ∧ Gb B [b, rl, m] H H' := by
 have fit : fits (es.length + 1) 64 = true := fits_small (by omega) (by omega)
 cases q with
 | nil =>
  refine ⟨.own 5 H.length 0 0 1, H ++ [.row 130 5 0 [w] 0], ?_, c.app (by rfl), ?_, Gb.app hB _⟩
  ·rw [evAppend, elems_one]
   have fit : fits 1 64 = true := fits_small (by omega) (by omega)
   simp [evAppendL, fit]
  ·exact Qr.own (rt := 130) (H := H ++ [.row 130 5 0 [w] 0]) (B := B) H.length 0 0 [w] [w] (by simp) (by simp) (by simp) hB
 | slc es =>
  refine ⟨.own 5 H.length 0 0 (es.length + 1), H ++ [.row 130 5 0 (es ++ [w]) 0], ?_, c.app (by rfl), ?_, Gb.app hB _⟩
  ·rw [evAppend, elems_one]
   simp [evAppendL, fit]
  ·have := Qr.own (rt := 130) (H := H ++ [.row 130 5 0 (es ++ [w]) 0]) (B := B) H.length 0 0 (es ++ [w]) (es ++ [w]) (by simp) (by simp) (by simp) hB
   rwa [List.length_append, List.length_singleton] at this
 | own id ver off L es hr hd ho hBi =>
  have hlt := (List.getElem?_eq_some_iff.1 hr).1
  have ht : rowT H id = 130 := by simp only [rowT, hr]
  have htk : (L.drop off).take es.length = es := by rw [hd, List.take_of_length_le (Nat.le_refl _)]
  refine ⟨.own 5 id (ver + 1) 0 (es.length + 1), H.set id (.row 130 5 (ver + 1) (es ++ [w]) 0), ?_, ?_, ?_, ⟨by simp, fun j h1 h2 => by rw [List.getElem?_set_ne (by omega)]⟩⟩
  ·rw [evAppend, elems_one]
   simp only [evAppendL, if_true, row_at hr (show off + es.length ≤ L.length by omega), ht, Nat.zero_le, and_self, htk]
   rw [if_neg (by simp), if_pos (by simpa using fit)]
   simp
  ·refine c.keep (by simp) ?_ fun j ⟨o, h1, h2⟩ => ?_
   ·have hb := c.bel
    rw [List.all_eq_true] at hb ⊢
    intro o ho
    rw [List.length_set]
    rcases List.mem_or_eq_of_mem_set ho with h' | rfl
    ·exact hb o h'
    ·rfl
   ·rw [List.getElem?_set_ne]
    rintro rfl
    rw [hr] at h1; cases h1
    exact h2 _ _ rfl
  ·have := Qr.own (rt := 130) (H := H.set id (.row 130 5 (ver + 1) (es ++ [w]) 0)) (B := B) id (ver + 1) 0 (es ++ [w]) (es ++ [w]) (by simp [hlt]) (by simp) (by simp) hBi
   rwa [List.length_append, List.length_singleton] at this
theorem Qr.rs {H' : List AO} (q : Qr 130 H B Q es) (c : Cp H b rl m code g Qz0) (rs : Rs [b, rl, m] H H') : Qr 130 H' B Q es := by
 refine q.of fun id hB ⟨ver, L, h⟩ => rs.2 id ?_
 obtain ⟨v, h1, h2⟩ := c.ob.ex
 obtain ⟨x, hx⟩ := c.mp
 simp only [List.mem_cons, List.not_mem_nil, or_false]
 rintro (rfl | rfl | rfl)
 ·rw [h1] at h; cases h
 ·rw [h2] at h; cases h
 ·rw [hx] at h; cases h
theorem Rs.box {H' : List AO} {e : List AV} (c : Cp H b rl m code g Qz0) (rs : Rs [b, rl, m] (H ++ [.box 32 e]) H') : H'[H.length]? = some (.box 32 e) := by
 have := c.ob.ltb
 have := c.ob.ltr
 have := c.mb.2.2
 rw [rs.2 H.length (by simp; omega)]; simp
end
theorem bs5 {w : AV} (h : El true 5 w) (H : List AO) : bs1 H 5 (some w) = some (.slc 5 true true [w], H) := bs1_some h.cl h.len
theorem bd5_ok {e : AV} {t : Tm} (hT : IsT e t) (n : Nat) (vars env : List AV) : evBuild vars (e :: .v (.int .i64 (n : Int)) :: env) [.v (.int .i64 0), .v (.int .i64 0), .v (.string ⟨#[]⟩), .v (.int .i64 0), .v (.slice none 0 0)] [(0, 1, (.loc 1)), (1, 4, (.loc 0))] = some (.v (.int .i64 (n : Int)) :: e.cells) := by
 cases hT with | mk k s n c l hc => cases hc <;> rfl
end Go.AE.YtghgbbiklkpbnaaDoor
end

section
namespace Go.AE.YtghgbbiklkpbnaaDoor
open Go Go.AE Go.Proofs.YtghgbbiklkpbnaaDoor

theorem Cp.obj {H H' : List AO} {o : AO} {b rl m : Nat} {code : List Op5} {g : Sg} {Qz0 : AV} (c : Cp H b rl m code g Qz0) (rs : Rs [b, rl, m] (H ++ [o]) H') : H'[H.length]? = some o := by
 have := c.ob.ltb
 have := c.ob.ltr
 have := c.mb.2.2
 rw [rs.2 H.length (by simp; omega)]; simp
theorem sum_ge {α : Type} {f : α → Nat} : ∀ (q : List α), (∀ p ∈ q, 1 ≤ f p) → q.length ≤ (q.map f).sum
 | [], _ => by simp
 | p :: q, h => by
  have := sum_ge q fun p hp => h p (by simp [hp])
  have := h p (by simp)
  simp only [List.length_cons, List.map_cons, List.sum_cons]; omega
theorem gtr0_1 (n : Nat) : decide (((n + 1 : Nat) : Int) > 0) = true := by simp
theorem nat_0 : natV (.v (.int .i64 0)) = some 0 := rfl
theorem nat_1 : natV (.v (.int .i64 1)) = some 1 := rfl
theorem gtr0_0 : decide (((0 : Nat) : Int) > 0) = false := rfl
end Go.AE.YtghgbbiklkpbnaaDoor
end

section
namespace Go.AE.YtghgbbiklkpbnaaDoor
open Go Go.AE Go.Proofs.YtghgbbiklkpbnaaDoor

theorem putT_next (r : Nat) (g : Sg) (t : Tm) : (putT r g t).2.next ≤ g.next + zT t := by
 have := cT_le t
 cases hc : isC t with
 | true =>
  have h1 := cT_comp hc
  rw [putT, if_pos hc, putC_next]; omega
 | false => rw [putT, if_neg (by simp [hc])]; rw [pSg_next]; omega
theorem putT_len {t : Tm} (hw : wfT t) (r : Nat) (g : Sg) : (putT r g t).1.length ≤ 2 * zT t := by
 cases hc : isC t with
 | true =>
  have := kT_le t
  rw [putT, if_pos hc, putC_len r g hw hc]; exact this
 | false =>
  rw [putT, if_neg (by simp [hc])]
  cases t; rw [zT]; simp; omega
theorem getQ_next : ∀ (n : Nat) (q : List (Nat × Tm)) (g : Sg), qC q ≤ n → (∀ p ∈ q, isC p.2 = true) → (getQ n q g).2.next + q.length = g.next + qC q
 | 0, [], g, _, _ => rfl
 | 0, p :: q, g, hn, hq => by
  have := cT_comp (hq p (by simp))
  simp [qC] at hn; omega
 | n + 1, [], g, _, _ => rfl
 | n + 1, (r, t) :: q, g, hn, hq => by
  have h1 := cT_comp (hq (r, t) (by simp))
  obtain ⟨w1, w2, w3⟩ := wArgs_len t.l g
  simp only at h1
  have e1 : qC ((r, t) :: q) = cT t + qC q := by simp [qC]
  have e2 : qC (wArgs t.l g).2.1 = cL t.l := w3
  have ih := getQ_next n (q ++ (wArgs t.l g).2.1) (wArgs t.l g).2.2
   (by rw [qC_app]; omega)
   (fun p hp => by
    rcases List.mem_append.1 hp with hp | hp
    ·exact hq p (by simp [hp])
    ·have : p.2 ∈ comps t.l := by rw [← wArgs_ws t.l g]; exact List.mem_map.2 ⟨p, hp, rfl⟩
     exact (List.mem_filter.1 this).2)
  rw [qC_app, List.length_append] at ih
  simp only [getQ, List.length_cons]
  omega
theorem getT_next (r : Nat) (g : Sg) (t : Tm) : (getT r g t).2.next ≤ g.next + cT t := by
 cases hc : isC t with
 | true =>
  have := getQ_next (cT t) [(r, t)] g (by simp [qC]) (by simp [hc])
  have e : qC [(r, t)] = cT t := by simp [qC]
  rw [getT, if_pos hc]
  simp only [List.length_singleton] at this
  omega
 | false => rw [getT, if_neg (by simp [hc])]; rw [pSg_next]; omega

def K26a : List Bool := [false, true, true, true, false, false, false, false, false, true, true, true, false, false, false, false, false, false, false, false, false, false]
def V26a (B b n : Nat) (c : AV) (i : Int) (x4 x5 x12 : AV) : List AV := [.junk, .ptr B 0, .ptr (B + 1) 0, .ptr b 0, x4, x5, .junk, .junk, .junk, c, .v (.int .i64 n), .v (.int .i64 i), x12, .junk, .junk, .junk, .junk, .junk, .junk, .junk, .junk, .junk]
def K26c : List Bool := [false, true, true, true, false, false, true, false, false, false, false, false, false, true, true, true, false, false, true, true, true, false]
def V26c (B b G bn : Nat) (bc : AV) (j : Int) (n : Nat) (c : AV) (i : Int) (x7 x8 x21 : AV) : List AV := [.junk, .ptr B 0, .ptr (B + 1) 0, .ptr b 0, .junk, .junk, .ptr G 0, x7, x8, .junk, .junk, .junk, .junk, bc, .v (.int .i64 bn), .v (.int .i64 j), .junk, .junk, c, .v (.int .i64 n), .v (.int .i64 i), x21]
end Go.AE.YtghgbbiklkpbnaaDoor
end

section
namespace Go.AE.YtghgbbiklkpbnaaDoor
open Go Go.AE Go.Proofs.YtghgbbiklkpbnaaDoor

theorem args_putT_next : ∀ (l : List Tm) (i : Nat) (g : Sg), (args putT i g l).2.next ≤ g.next + zL l
 | [], i, g => by simp [args]
 | t :: l, i, g => by
  have h1 := putT_next i g t
  have h2 := args_putT_next l (i + 1) (putT i g t).2
  simp only [args, zL]; omega
theorem args_putT_len : ∀ {l : List Tm}, wfL l → ∀ (i : Nat) (g : Sg), (args putT i g l).1.length ≤ 2 * zL l
 | [], _, i, g => by simp [args]
 | t :: l, h, i, g => by
  rw [wfL] at h
  have h1 := putT_len h.1 i g
  have h2 := args_putT_len h.2 (i + 1) (putT i g t).2
  simp only [args, zL, List.length_append]; omega
theorem args_getT_next : ∀ (l : List Tm) (i : Nat) (g : Sg), (args getT i g l).2.next ≤ g.next + zL l
 | [], i, g => by simp [args]
 | t :: l, i, g => by
  have h1 := getT_next i g t
  have h2 := args_getT_next l (i + 1) (getT i g t).2
  have h3 := cT_le t
  simp only [args, zL]; omega
theorem args_getT_len : ∀ {l : List Tm}, wfL l → ∀ (i : Nat) (g : Sg), (args getT i g l).1.length ≤ 2 * zL l
 | [], _, i, g => by simp [args]
 | t :: l, h, i, g => by
  rw [wfL] at h
  have h1 := getT_len h.1 i g
  have h2 := args_getT_len h.2 (i + 1) (getT i g t).2
  have h3 := kT_le t
  simp only [args, zL, List.length_append]; omega
theorem goalT_next (g : Sg) (t : Tm) : (goalT g t).2.next ≤ g.next + zT t := by
 rw [goalT]
 split
 ·simp
 ·have := args_putT_next t.l 0 g
  cases t; simp only [zT, Tm.l] at this ⊢; omega
theorem goalT_len {t : Tm} (h : wfT t) (g : Sg) : (goalT g t).1.length ≤ 2 * zT t := by
 rw [goalT]
 split
 ·cases t; simp only [zT, List.length_singleton]; omega
 ·have := args_putT_len h.l 0 g
  cases t; simp only [zT, Tm.l, List.length_append, List.length_singleton] at this ⊢; omega
theorem goalsT_len : ∀ {l : List Tm}, wfL l → ∀ (g : Sg), (goalsT g l).1.length ≤ 2 * zL l
 | [], _, g => by simp [goalsT]
 | t :: l, h, g => by
  rw [wfL] at h
  have h1 := goalT_len h.1 g
  have h2 := goalsT_len h.2 (goalT g t).2
  simp only [goalsT, zL, List.length_append]; omega
theorem tm_ld0 {H : List AO} {id : Nat} {k : Int} {s n c : AV} (h : H[id]? = some (.box 32 [.v (.int .i64 k), s, n, c])) : Q76 H false 1 (.ptr id 0) = some (.v (.int .i64 k)) := by
 rw [bx_ld h]; rfl
theorem tm_ld1 {H : List AO} {id : Nat} {s : ByteArray} {k n c : AV} (h : H[id]? = some (.box 32 [k, .v (.string s), n, c])) : Q76 H false 1 (.ptr id 1) = some (.v (.string s)) := by
 rw [bx_ld h]; rfl
theorem tm_ld3 {H : List AO} {id : Nat} {k s n c : AV} (h : H[id]? = some (.box 32 [k, s, n, c])) : Q76 H false 1 (.ptr id 3) = some c := by
 rw [bx_ld h]; simp [Q77]
def K26b : List Bool := [false, true, true, true, false, false, false, false, false, false, false, false, false, true, true, true, false, false, false, false, false, false]
def V26b (B b bn : Nat) (bc : AV) (j : Int) (x6 x16 x17 x18 x19 x20 x21 : AV) : List AV := [.junk, .ptr B 0, .ptr (B + 1) 0, .ptr b 0, .junk, .junk, x6, .junk, .junk, .junk, .junk, .junk, .junk, bc, .v (.int .i64 bn), .v (.int .i64 j), x16, x17, x18, x19, x20, x21]
theorem leave_cell2 {c : CFun} {vars : List AV} {H : List AO} {cs ds : List AV} (hc : c.res = [.cell 2 true 4]) (hv : vars.getD 2 .junk = .ptr 1 0) (hb : H[1]? = some (.box 24 cs)) (hl : cs.length = 4) (hf : cs.mapM (AV.frz0 0 H) = some ds) : leave 0 c (some (.ret, vars, H)) = some (.agg ds, []) := by
 have ld : Q76 H true 4 (.ptr 1 0) = some (.agg cs) := by
  rw [bx_ld hb, if_pos (by omega), List.drop_zero, List.take_of_length_le (by omega)]
  match cs, hl with
  | [a, b, c, d], _ => rfl
 simp only [leave, hc, List.mapM_cons, List.mapM_nil, resOf, hv, ld, Option.pure_def, Option.bind_eq_bind, Option.bind_some, pack, AV.frz2, AV.frz1, hf, Option.map_some, Nat.zero_le, List.take_zero, List.all_nil, and_self, if_true]
def hH (cc : List AV) : List AO := [.box 35 cc, .box 24 [.v (.string ⟨#[]⟩), .v (.int .i64 0), .v (.int .i64 0), .v (.slice none 0 0)], .map (.int .i64) 0 [], .box 92 [.own 5 4 0 0 0, .mp 2, .v (.int .i64 16), .v (.slice none 0 0)], .row 41 5 0 [] 0]
theorem z4 : (ofVal (.agg #[(.string ⟨#[]⟩), (.int .i64 0), (.int .i64 0), (.slice none 0 0)])).cl = some [.v (.string ⟨#[]⟩), .v (.int .i64 0), .v (.int .i64 0), .v (.slice none 0 0)] := by simp [ofVal, AV.cl, Value.oneCell']
theorem allR_o5 : ∀ l : List Op5, AllR (fun x i => x = o5 i) (l.map o5) l
 | [] => .nil
 | i :: l => .cons _ _ _ _ rfl (allR_o5 l)
end Go.AE.YtghgbbiklkpbnaaDoor
end

section
namespace Go.AE.YtghgbbiklkpbnaaDoor
open Go Go.AE Go.Proofs.YtghgbbiklkpbnaaDoor

structure Dp (h : List AO) (b rl m : Nat) (code : List Op5) (g : Sg) : Prop where
 ex : ∃ v2 kk, Ob h b rl 68 (.own 1 m v2 0 g.met.length) [] code g.next ∧ h[m]? = some (.row 2 1 v2 (g.met.map iv) kk) ∧ kk ≤ g.met.length
 bel : h.all (AO.below h.length) = true
section
variable {h : List AO} {b rl m : Nat} {code : List Op5} {g : Sg}
theorem Dp.mb (c : Dp h b rl m code g) : b < h.length ∧ rl < h.length ∧ m < h.length ∧ m ≠ b ∧ m ≠ rl ∧ b ≠ rl := by
 obtain ⟨v2, kk, ob, hm, hk⟩ := c.ex
 obtain ⟨ver, h1, h2⟩ := ob.ex
 refine ⟨ob.ltb, ob.ltr, (List.getElem?_eq_some_iff.1 hm).1, ?_, ?_, ob.ne⟩
 ·rintro rfl; rw [h1] at hm; cases hm
 ·rintro rfl; rw [h2] at hm; cases hm
theorem Dp.nin (c : Dp h b rl m code g) {j : Nat} (hj : h.length ≤ j) : j ∉ [b, rl, m] := by
 have := c.mb
 simp; omega
theorem Dp.lay (c : Dp h b rl m code g) (hn : code.length ≤ 900000) (i : Op5) :
  ∃ h', callW F 30 [.ptr b 0, o5 i] h = some (.tup [], h') ∧ Dp h' b rl m (code ++ [i]) g ∧ Rs [b, rl, m] h h' := by
 obtain ⟨_, _, _, m1, m2, _⟩ := c.mb
 obtain ⟨v2, kk, ob, hm, hk⟩ := c.ex
 obtain ⟨h', g1, g2, g3, g4⟩ := ob.lay (f := 30) rfl c.bel hn i
 exact ⟨h', g1, ⟨⟨v2, kk, g2, (g3.2 m (by simp [m1, m2])).trans hm, hk⟩, g4⟩, g3.sub (by simp)⟩
theorem Dp.temp (c : Dp h b rl m code g) (hn : g.next ≤ 3000000) :
  ∃ h', callW F 49 [.ptr b 0] h = some (.v (.int .i64 g.next), h') ∧ Dp h' b rl m code { g with next := g.next + 1 } ∧ Rs [b, rl, m] h h' := by
 obtain ⟨_, _, _, m1, m2, _⟩ := c.mb
 obtain ⟨v2, kk, ob, hm, hk⟩ := c.ex
 obtain ⟨h', g1, g2, g3, g4⟩ := ob.temp (f := 49) rfl c.bel hn
 exact ⟨h', g1, ⟨⟨v2, kk, g2, (g3.2 m (by simp [m1, m2])).trans hm, hk⟩, g4⟩, g3.sub (by simp)⟩
theorem Dp.app (c : Dp h b rl m code g) {l : List AO} (hl : l.all (AO.below (h ++ l).length) = true) : Dp (h ++ l) b rl m code g := by
 obtain ⟨v2, kk, ob, hm, hk⟩ := c.ex
 refine ⟨⟨v2, kk, ob.app l, his_get hm, hk⟩, ?_⟩
 rw [List.all_append, Bool.and_eq_true]
 exact ⟨all_below_mono (by simp) c.bel, hl⟩
theorem Dp.of {h' : List AO} (c : Dp h b rl m code g) (e : ∀ j ∈ [b, rl, m], h'[j]? = h[j]?) (hb : h'.all (AO.below h'.length) = true) : Dp h' b rl m code g := by
 obtain ⟨v2, kk, ob, hm, hk⟩ := c.ex
 exact ⟨⟨v2, kk, ob.of (e b (by simp)) (e rl (by simp)), (e m (by simp)).trans hm, hk⟩, hb⟩
theorem Dp.part {l h2 : List AO} {code' : List Op5} {g' : Sg} (cp1 : Dp h b rl m code g) (cp2 : Dp h2 b rl m code' g') (rs : Rs [b, rl, m] (h ++ l) h2) :
  ∃ h3, h2 = h3 ++ l ∧ Dp h3 b rl m code' g' ∧ Rs [b, rl, m] h h3 := by
 obtain ⟨hlb, hlr, hlt, _⟩ := cp1.mb
 have hsz : h2.length = h.length + l.length := by rw [rs.1]; simp
 have hdrop : h2.drop h.length = l := by
  apply List.ext_getElem?
  intro j
  rw [List.getElem?_drop]
  have hj : h.length + j ∉ [b, rl, m] := by simp; omega
  rw [rs.2 _ hj, List.getElem?_append_right (by omega), Nat.add_sub_cancel_left]
 have get : ∀ j, j < h.length → (h2.take h.length)[j]? = h2[j]? := fun j hj => by rw [List.getElem?_take_of_lt hj]
 have hl : (h2.take h.length).length = h.length := by simp [hsz]
 have rs3 : Rs [b, rl, m] h (h2.take h.length) := by
  refine ⟨hl, fun j hj => ?_⟩
  by_cases hjl : j < h.length
  ·rw [get j hjl, rs.2 j hj, List.getElem?_append_left hjl]
  ·rw [List.getElem?_eq_none (by omega), List.getElem?_eq_none (by omega)]
 refine ⟨h2.take h.length, by rw [← hdrop, List.take_append_drop], cp2.of ?_ ?_, rs3⟩
 ·intro j hj
  refine get j ?_
  simp only [List.mem_cons, List.not_mem_nil, or_false] at hj
  rcases hj with rfl | rfl | rfl <;> assumption
 ·refine rs3.below cp1.bel fun j hj o ho => ?_
  obtain ⟨v2, kk, ob, hm, hk⟩ := cp2.ex
  obtain ⟨ver, e1, e2⟩ := ob.ex
  simp only [List.mem_cons, List.not_mem_nil, or_false] at hj
  rcases hj with rfl | rfl | rfl
  ·rw [(get j hlb).trans e1] at ho; cases ho
   simp [AO.below, AV.below1, AV.below0, hl, hlr, hlt]
  ·rw [(get j hlr).trans e2] at ho; cases ho; rfl
  ·rw [(get j hlt).trans hm] at ho; cases ho; rfl
theorem Dp.layA (c : Dp h b rl m code g) (hn : code.length ≤ 900000) (l : List AO) (hl : l.all (AO.below (h ++ l).length) = true) (i : Op5) :
  ∃ h', callW F 30 [.ptr b 0, o5 i] (h ++ l) = some (.tup [], h' ++ l) ∧ Dp h' b rl m (code ++ [i]) g ∧ Rs [b, rl, m] h h' := by
 obtain ⟨h2, g1, cp2, rs2⟩ := (c.app hl).lay hn i
 obtain ⟨h3, e, cp3, rs3⟩ := c.part cp2 rs2
 exact ⟨h3, by rw [g1, e], cp3, rs3⟩
theorem Dp.has (c : Dp h b rl m code g) (hm : g.met.length ≤ 1000000) (n : Int) (l : List AO) :
  ∃ M h', (∀ l : List AO, Q76 (h ++ l) false 1 (.ptr b 1) = some M) ∧ cf (callW F) 39 (h ++ l) [M, .v (.int .i64 n)] = some (.v (.bool (g.met.contains n)), h' ++ l) ∧ Dp h' b rl m code g ∧ Rs [b, rl, m] h h' ∧ (∀ l : List AO, Q76 (h' ++ l) false 1 (.ptr b 1) = some M) := by
 obtain ⟨hlb, hlr, hlt, n1, n2, n3⟩ := c.mb
 have hc := c
 obtain ⟨v2, kk, ob, hr, hk⟩ := c.ex
 obtain ⟨ver, h1, h2⟩ := ob.ex
 have hra : ∀ l, rowAt (h ++ l) 1 m v2 (0 + g.met.length) = some (g.met.map iv, kk) := fun l => row_at (his_get hr) (by simp)
 have hrt : ∀ l, rowT (h ++ l) m = 2 := fun l => by simp only [rowT, his_get hr]
 have hrs : Rs [b, rl, m] h (h.set m (.row 2 1 v2 (g.met.map iv) (max kk (0 + g.met.length)))) := Rs.set (by simp)
 have hmm : (h.set m (.row 2 1 v2 (g.met.map iv) (max kk (0 + g.met.length))))[m]? = some (.row 2 1 v2 (g.met.map iv) (max kk (0 + g.met.length))) := by simp [hlt]
 have hbb : (h.set m (.row 2 1 v2 (g.met.map iv) (max kk (0 + g.met.length))))[b]? = some (.box 68 [.own 5 rl ver 0 code.length, .own 1 m v2 0 g.met.length, .v (.int .i64 g.next)]) := by
  rw [List.getElem?_set_ne n1]; exact h1
 refine ⟨.own 1 m v2 0 g.met.length, h.set m (.row 2 1 v2 (g.met.map iv) (max kk (0 + g.met.length))), fun l => by rw [bx_ld (his_get h1)]; simp [Q77], ?_, ⟨⟨v2, _, ob.of (List.getElem?_set_ne n1) (List.getElem?_set_ne n2), hmm, by omega⟩, ?_⟩, hrs, fun l => by rw [bx_ld (his_get hbb)]; simp [Q77]⟩
 ·refine cf_of (vs := [.slc 1 false false (g.met.map iv), .v (.int .i64 n)]) ?_ ?_ (has_ok (.slc false false _) hm n)
  ·simp only [List.foldl_cons, List.foldl_nil, raise1, raise0, raise, hra l, hrt l]
   rw [set_app hlt]
  ·have : AV.snap1 (h.set m (.row 2 1 v2 (g.met.map iv) (max kk (0 + g.met.length))) ++ l) (.own 1 m v2 0 g.met.length) = some (.slc 1 false false (g.met.map iv)) := by
    simp only [AV.snap1, AV.snap0, row_at (his_get hmm) (show 0 + g.met.length ≤ (g.met.map iv).length by simp)]
    rw [if_pos (Nat.le_max_right _ _), List.drop_zero, List.take_of_length_le (by simp)]
   simp only [List.mapM_cons, List.mapM_nil, this, snap_int, Option.pure_def, Option.bind_eq_bind, Option.bind_some]
 ·refine hrs.below c.bel fun j hj o ho => ?_
  simp only [List.mem_cons, List.not_mem_nil, or_false] at hj
  have hb := List.all_eq_true.1 c.bel
  rw [hrs.1]
  rcases hj with rfl | rfl | rfl
  ·rw [List.getElem?_set_ne n1] at ho; exact hb o (List.mem_of_getElem? ho)
  ·rw [List.getElem?_set_ne n2] at ho; exact hb o (List.mem_of_getElem? ho)
  ·rw [hmm] at ho; cases ho; rfl
theorem Dp.name (c : Dp h b rl m code g) (hl : g.met.length ≤ 900000) (n : Int) {M : AV} (hM : ∀ l : List AO, Q76 (h ++ l) false 1 (.ptr b 1) = some M) :
  ∃ M' h1 h2, (∀ l : List AO, evAppend (h ++ l) 2 1 8 M (.slc 1 true true [.v (.int .i64 n)]) = some (M', h1 ++ l)) ∧ (∀ l : List AO, Q113 (h1 ++ l) 1 (.ptr b 1) M' = some (h2 ++ l)) ∧ Dp h2 b rl m code { g with met := g.met ++ [n] } ∧ Rs [b, rl, m] h h2 := by
 obtain ⟨hlb, hlr, hlt, n1, n2, n3⟩ := c.mb
 obtain ⟨v2, kk, ob, hr, hk⟩ := c.ex
 obtain ⟨ver, h1, h2⟩ := ob.ex
 have hMe : M = .own 1 m v2 0 g.met.length := by
  have := hM []
  rw [bx_ld (his_get h1)] at this
  simpa [Q77] using this.symm
 subst hMe
 have hra : ∀ l, rowAt (h ++ l) 1 m v2 (0 + g.met.length) = some (g.met.map iv, kk) := fun l => row_at (his_get hr) (by simp)
 have hrt : ∀ l, rowT (h ++ l) m = 2 := fun l => by simp only [rowT, his_get hr]
 have fit : fits (g.met.length + 1) 8 = true := fits_small (by omega) (by omega)
 obtain ⟨k1, hk1⟩ : ∃ k1, h.set m (.row 2 1 (v2 + 1) ((g.met ++ [n]).map iv) kk) = k1 := ⟨_, rfl⟩
 have hl1 : k1.length = h.length := by rw [← hk1]; simp
 have hb1 : k1[b]? = some (.box 68 [.own 5 rl ver 0 code.length, .own 1 m v2 0 g.met.length, .v (.int .i64 g.next)]) := by rw [← hk1, List.getElem?_set_ne n1]; exact h1
 obtain ⟨k2, hk2⟩ : ∃ k2, k1.set b (.box 68 [.own 5 rl ver 0 code.length, .own 1 m (v2 + 1) 0 (g.met.length + 1), .v (.int .i64 g.next)]) = k2 := ⟨_, rfl⟩
 have hrs : Rs [b, rl, m] h k2 := by
  rw [← hk2, ← hk1]
  exact (Rs.set (by simp)).trans (Rs.set (by simp))
 have hm2 : k2[m]? = some (.row 2 1 (v2 + 1) ((g.met ++ [n]).map iv) kk) := by rw [← hk2, List.getElem?_set_ne (Ne.symm n1), ← hk1]; simp [hlt]
 have hb2 : k2[b]? = some (.box 68 [.own 5 rl ver 0 code.length, .own 1 m (v2 + 1) 0 (g.met.length + 1), .v (.int .i64 g.next)]) := by rw [← hk2]; simp [hl1, hlb]
 have hr2 : k2[rl]? = some (.row 41 5 ver (code.map o5) 0) := by rw [← hk2, List.getElem?_set_ne n3, ← hk1, List.getElem?_set_ne n2]; exact h2
 refine ⟨.own 1 m (v2 + 1) 0 (g.met.length + 1), k1, k2, fun l => ?_, fun l => ?_, ⟨⟨v2 + 1, kk, ⟨ver, ?_, hr2⟩, hm2, by simp; omega⟩, ?_⟩, hrs⟩
 ·have e : ((g.met.map iv).drop 0).take g.met.length = g.met.map iv := by rw [List.drop_zero, List.take_of_length_le (by simp)]
  rw [evAppend, elems_one]
  simp only [evAppendL, if_true, hra l, hrt l, show kk ≤ 0 + g.met.length by omega, and_self]
  rw [if_neg (by simp), if_pos (by simpa using fit), e, set_app hlt, ← hk1, List.map_append]
  rfl
 ·rw [bx_st (his_get hb1) (n := 1) (xs := [.own 1 m (v2 + 1) 0 (g.met.length + 1)]) rfl rfl (by simp), set_app (by omega), ← hk2]
  rfl
 ·rw [hb2, List.length_append]; rfl
 ·refine hrs.below c.bel fun j hj o ho => ?_
  rw [hrs.1]
  simp only [List.mem_cons, List.not_mem_nil, or_false] at hj
  rcases hj with rfl | rfl | rfl
  ·rw [hb2] at ho; cases ho
   simp [AO.below, AV.below1, AV.below0, hlr, hlt]
  ·rw [hr2] at ho; cases ho; rfl
  ·rw [hm2] at ho; cases ho; rfl
theorem bxl {H : List AO} {cs : List AV} {bt : TypeId} : (H ++ [AO.box bt cs])[H.length]? = some (.box bt cs) := by simp
theorem var_ok (c : Dp h b rl m code g) (hn : code.length ≤ 900000) (hl : g.met.length ≤ 900000) {e : AV} {t : Tm} (ht : IsT e t) (hk : t.k = 1) {op op2 a : Int} (hop : op2 = op + 1) :
  ∃ h', callW F 45 [.ptr b 0, .v (.int .i64 op), .v (.int .i64 op2), .v (.int .i64 a), e] h = some (.tup [], h') ∧ Dp h' b rl m (code ++ [pIns op a g t]) (pSg g t) ∧ Rs [b, rl, m] h h' := by
 subst hop
 have hbe : AO.below 0 (.box 32 e.cells) = true := ht.bel
 have hf := ht.facts
 cases ht with
 | mk k s n cc l hc =>
 simp only [Tm.k] at hk
 subst hk
 obtain ⟨M, h1, ldM, cf1, c1, rs1, ldM1⟩ := c.has (by omega) n [.box 32 [.v (.int .i64 1), .v (.string s), .v (.int .i64 n), cc]]
 have bxt : bx h 32 (some [.v (.int .i64 1), .v (.string s), .v (.int .i64 n), cc]) = some (.ptr h.length 0, h ++ [.box 32 [.v (.int .i64 1), .v (.string s), .v (.int .i64 n), cc]]) := rfl
 have cl := hf.2.2.2.2
 simp only [AV.cells] at cl hbe
 have ldn : ∀ H : List AO, H.length = h.length → Q76 (H ++ [.box 32 [.v (.int .i64 1), .v (.string s), .v (.int .i64 n), cc]]) false 1 (.ptr h.length 2) = some (.v (.int .i64 n)) := by
  intro H hH
  rw [← hH, bx_ld bxl]; rfl
 have ldM0 := ldM [.box 32 [.v (.int .i64 1), .v (.string s), .v (.int .i64 n), cc]]
 have ldM1' := ldM1 [.box 32 [.v (.int .i64 1), .v (.string s), .v (.int .i64 n), cc]]
 have ldn0 := ldn h rfl
 have ldn1 := ldn h1 rs1.1
 have hbl : ∀ N, ([AO.box 32 [.v (.int .i64 1), .v (.string s), .v (.int .i64 n), cc]] : List AO).all (AO.below N) = true := fun N => by simp [below_mono (Nat.zero_le _) _ hbe]
 have bld : ∀ (vars env : List AV) (o : Int) (x : AV), evBuild vars (.v (.int .i64 n) :: x :: .v (.int .i64 a) :: .v (.int .i64 o) :: env) [.v (.int .i64 0), .v (.int .i64 0), .v (.int .i64 0), .v (.string ⟨#[]⟩), .v (.int .i64 0)] [(0, 1, (.loc 3)), (1, 1, (.loc 2)), (2, 1, (.loc 0))] = some [.v (.int .i64 o), .v (.int .i64 a), .v (.int .i64 n), .v (.string ⟨#[]⟩), .v (.int .i64 0)] := fun _ _ _ _ => rfl
 have b1 : ∀ H : List AO, bs1 H 1 (some (.v (.int .i64 n))) = some (.slc 1 true true [.v (.int .i64 n)], H) := fun H => bs1_some rfl rfl
 by_cases hmem : n ∈ g.met
 ·have hct : g.met.contains n = true := by simpa using hmem
  rw [hct] at cf1
  obtain ⟨h3, g3, c3, rs3⟩ := c1.layA hn [.box 32 [.v (.int .i64 1), .v (.string s), .v (.int .i64 n), cc]] (hbl _) ⟨op + 1, a, n, nos, 0⟩
  have rs := rs1.trans rs3
  refine ⟨h3, callW_own (c := c45) rfl rfl 0 ?_, by simp only [pIns, pSg, if_true, if_pos hmem]; exact c3, rs⟩
  have lvv : leave h.length c45 (some (.normal, [.ptr b 0, .v (.int .i64 op), .v (.int .i64 (op + 1)), .v (.int .i64 a), .agg [.v (.int .i64 1), .v (.string s), .v (.int .i64 n), cc], .ptr h.length 0, .v (.int .i64 (op + 1)), .v (.bool false)], h3 ++ [.box 32 [.v (.int .i64 1), .v (.string s), .v (.int .i64 n), cc]])) = some (.tup [], h3) := leaveN _ (.inr rfl) rfl rs.1 (by rw [← rs.1]; exact c3.bel)
  rw [← lvv]
  congr 1
  simp only [o5, nos] at g3
  simp only [c45, start, List.replicate, List.append_nil, c45_0, c45_1, c45_2, c45_5, bxt, cl, ldM0, ldn0, ldn1, cf1, e_callf, bld, g3, Q106, Q107, toL, e_callh, List.map_cons, List.map_nil, Q0, Q1, Q2, Q3, Q4, Q5, Q6, Q7, Q8, Q9, Q10, Q11, Q12, Q13, Q14, Q15, Q16, Q17, Q18, Q19, Q20, Q21, Q22, Q23, Q24, Q25, Q26, Q27, Q28, Q29, Q30, Q31, Q32, Q33, Q35, Q36, Q37, Q38, Q39, Q40, Q41, Q42, Q43, Q44, Q45, Q46, Q47, Q48, Q49, Q50, Q51, Q52, Q53, Q54, Q55, Q56, Q57, Q58, Q59, Q60, Q61, Q62, Q63, Q64, Q65, Q66, Q67, Q68, Q69, Q70, Q71, Q72, Q73, Q99, Q100, Q101, Q102, Q103, Q74, Q75, Q77, Q78, Q79, Q80, Q81, Q82, Q83, Q84, clr, List.length_nil, List.length_cons, List.getElem?_cons_zero, List.getElem?_cons_succ, Nat.reduceAdd, Nat.zero_add, Nat.add_zero, Nat.reduceLeDiff, Nat.reduceSub, ↓reduceIte, List.drop_succ_cons, List.drop_zero, List.take_succ_cons, List.take_zero, Bool.false_eq_true, List.nil_append, List.cons_append, Bool.not_true, Bool.not_false, cond_true, cond_false, bne, Q85, Q86, Q87, Q88, Q89, Q90, Q91, Q92, Q93, Q94, Q95, Q96, Q97, Q98, Q110, Q111, Q116, Q117, Q118, Q119, Q120, Q121, Q122, Q123, Option.map_some, Option.map_none]
 ·have hct : g.met.contains n = false := by simpa using hmem
  rw [hct] at cf1
  obtain ⟨M', h2a, h2, ap2, st2, c2, rs2⟩ := c1.name hl n ldM1
  obtain ⟨h3, g3, c3, rs3⟩ := c2.layA hn [.box 32 [.v (.int .i64 1), .v (.string s), .v (.int .i64 n), cc]] (hbl _) ⟨op, a, n, nos, 0⟩
  have rs := (rs1.trans rs2).trans rs3
  have ldn2 := ldn h2 (rs2.1.trans rs1.1)
  have ap2' := ap2 [.box 32 [.v (.int .i64 1), .v (.string s), .v (.int .i64 n), cc]]
  have st2' := st2 [.box 32 [.v (.int .i64 1), .v (.string s), .v (.int .i64 n), cc]]
  refine ⟨h3, callW_own (c := c45) rfl rfl 0 ?_, by simp only [pIns, pSg, if_true, if_neg hmem]; exact c3, rs⟩
  have lvv : leave h.length c45 (some (.normal, [.ptr b 0, .v (.int .i64 op), .v (.int .i64 (op + 1)), .v (.int .i64 a), .agg [.v (.int .i64 1), .v (.string s), .v (.int .i64 n), cc], .ptr h.length 0, .v (.int .i64 op), .v (.bool true)], h3 ++ [.box 32 [.v (.int .i64 1), .v (.string s), .v (.int .i64 n), cc]])) = some (.tup [], h3) := leaveN _ (.inr rfl) rfl rs.1 (by rw [← rs.1]; exact c3.bel)
  rw [← lvv]
  congr 1
  simp only [o5, nos] at g3
  simp only [c45, start, List.replicate, List.append_nil, c45_0, c45_1, c45_2, c45_3, c45_4, c45_5, bxt, cl, ldM0, ldM1', ldn0, ldn1, ldn2, cf1, e_callf, b1, snap_int, Q104, e_append, ap2', st2', bld, g3, Q106, Q107, toL, e_callh, List.map_cons, List.map_nil, Q0, Q1, Q2, Q3, Q4, Q5, Q6, Q7, Q8, Q9, Q10, Q11, Q12, Q13, Q14, Q15, Q16, Q17, Q18, Q19, Q20, Q21, Q22, Q23, Q24, Q25, Q26, Q27, Q28, Q29, Q30, Q31, Q32, Q33, Q35, Q36, Q37, Q38, Q39, Q40, Q41, Q42, Q43, Q44, Q45, Q46, Q47, Q48, Q49, Q50, Q51, Q52, Q53, Q54, Q55, Q56, Q57, Q58, Q59, Q60, Q61, Q62, Q63, Q64, Q65, Q66, Q67, Q68, Q69, Q70, Q71, Q72, Q73, Q99, Q100, Q101, Q102, Q103, Q74, Q75, Q77, Q78, Q79, Q80, Q81, Q82, Q83, Q84, clr, List.length_nil, List.length_cons, List.getElem?_cons_zero, List.getElem?_cons_succ, Nat.reduceAdd, Nat.zero_add, Nat.add_zero, Nat.reduceLeDiff, Nat.reduceSub, ↓reduceIte, List.drop_succ_cons, List.drop_zero, List.take_succ_cons, List.take_zero, Bool.false_eq_true, List.nil_append, List.cons_append, Bool.not_true, Bool.not_false, cond_true, cond_false, bne, Q85, Q86, Q87, Q88, Q89, Q90, Q91, Q92, Q93, Q94, Q95, Q96, Q97, Q98, Q110, Q111, Q116, Q117, Q118, Q119, Q120, Q121, Q122, Q123, Option.map_some, Option.map_none]
end
end Go.AE.YtghgbbiklkpbnaaDoor
end

section
namespace Go.AE.YtghgbbiklkpbnaaDoor
open Go Go.AE Go.Proofs.YtghgbbiklkpbnaaDoor

section
variable {rt : TypeId} {h H : List AO} {B b rl m : Nat} {code : List Op5} {g : Sg} {Q : AV} {es ys : List AV}
theorem Dp.obj {H' : List AO} {o : AO} (c : Dp H b rl m code g) (rs : Rs [b, rl, m] (H ++ [o]) H') : H'[H.length]? = some o := by
 rw [rs.2 H.length (c.nin (Nat.le_refl _))]; simp
theorem Dp.pre {code' : List Op5} {g' : Sg} (c : Dp h b rl m code g) (c2 : Dp H b rl m code' g') (gb : Gb h.length [b, rl, m] h H) : ∃ h3 l, H = h3 ++ l ∧ Dp h3 b rl m code' g' ∧ Rs [b, rl, m] h h3 := by
 obtain ⟨hlb, hlr, hlt, _⟩ := c.mb
 have hle := gb.1
 have get : ∀ j, j < h.length → (H.take h.length)[j]? = H[j]? := fun j hj => by rw [List.getElem?_take_of_lt hj]
 have hl : (H.take h.length).length = h.length := by simp [hle]
 have rs3 : Rs [b, rl, m] h (H.take h.length) := by
  refine ⟨hl, fun j hj => ?_⟩
  by_cases hjl : j < h.length
  ·rw [get j hjl, gb.2 j hjl hj]
  ·rw [List.getElem?_eq_none (by omega), List.getElem?_eq_none (by omega)]
 refine ⟨H.take h.length, H.drop h.length, (List.take_append_drop _ _).symm, c2.of ?_ ?_, rs3⟩
 ·intro j hj
  refine get j ?_
  simp only [List.mem_cons, List.not_mem_nil, or_false] at hj
  rcases hj with rfl | rfl | rfl <;> assumption
 ·refine rs3.below c.bel fun j hj o ho => ?_
  obtain ⟨v2, kk, ob, hm, hk⟩ := c2.ex
  obtain ⟨ver, e1, e2⟩ := ob.ex
  simp only [List.mem_cons, List.not_mem_nil, or_false] at hj
  rcases hj with rfl | rfl | rfl
  ·rw [(get j hlb).trans e1] at ho; cases ho
   simp [AO.below, AV.below1, AV.below0, hl, hlr, hlt]
  ·rw [(get j hlr).trans e2] at ho; cases ho; rfl
  ·rw [(get j hlt).trans hm] at ho; cases ho; rfl
def Hd (x : AV) (es : List AV) : Prop := (x = .v (.slice none 0 0) ∧ es = []) ∨ ∃ ex, x = .slc 5 ex ex es
theorem Hd.elems {x : AV} (a : Hd x es) (H : List AO) : elemsOf H 5 x = some es := by
 rcases a with ⟨rfl, rfl⟩ | ⟨ex, rfl⟩ <;> rfl
theorem Dp.addQ (c : Dp H b rl m code g) (q : Qr rt H B Q es) (hB : B ≤ H.length) (hb : b < B) (hr : rl < B) (hm : m < B) {x : AV} (hx : elemsOf H 5 x = some ys) (hf : es.length + ys.length ≤ 950000) :
  ∃ Q' H', evAppend H rt 5 64 Q x = some (Q', H') ∧ Dp H' b rl m code g ∧ Qr rt H' B Q' (es ++ ys) ∧ Gb B [b, rl, m] H H' := by
 have fit : fits (es.length + ys.length) 64 = true := fits_small (by omega) (by omega)
 rw [evAppend, hx]
 by_cases hy : ys = []
 ·subst hy
  refine ⟨Q, H, ?_, c, by simpa using q, .refl H⟩
  cases q with
  | nil => rfl
  | slc es => simp [evAppendL]
  | own id ver off L es hr hd ho hBi =>
   have ht : rowT H id = rt := by simp only [rowT, hr]
   simp only [evAppendL, if_true, row_at hr (show off + es.length ≤ L.length by omega), ht, Nat.zero_le, and_self]
 ·have hbr : ∀ L v k, (AO.row rt 5 v L k).below 0 = true := fun _ _ _ => rfl
  cases q with
  | nil =>
   refine ⟨.own 5 H.length 0 0 ys.length, H ++ [.row rt 5 0 ys 0], ?_, c.app (by rfl), Qr.own (rt := rt) (H := H ++ [.row rt 5 0 ys 0]) (B := B) H.length 0 0 ys ys (by simp) (by simp) (by simp) hB, Gb.app hB _⟩
   have fit' : fits ys.length 64 = true := by simpa using fit
   simp [evAppendL, hy, fit']
  | slc es =>
   refine ⟨.own 5 H.length 0 0 (es.length + ys.length), H ++ [.row rt 5 0 (es ++ ys) 0], ?_, c.app (by rfl), ?_, Gb.app hB _⟩
   ·simp [evAppendL, hy, fit]
   ·have := Qr.own (rt := rt) (H := H ++ [.row rt 5 0 (es ++ ys) 0]) (B := B) H.length 0 0 (es ++ ys) (es ++ ys) (by simp) (by simp) (by simp) hB
    rwa [List.length_append] at this
  | own id ver off L es hr' hd ho hBi =>
   have hlt := (List.getElem?_eq_some_iff.1 hr').1
   have ht : rowT H id = rt := by simp only [rowT, hr']
   have htk : (L.drop off).take es.length = es := by rw [hd, List.take_of_length_le (Nat.le_refl _)]
   have rs : ∀ j, j ≠ id → (H.set id (.row rt 5 (ver + 1) (es ++ ys) 0))[j]? = H[j]? := fun j hj => List.getElem?_set_ne (Ne.symm hj)
   refine ⟨.own 5 id (ver + 1) 0 (es.length + ys.length), H.set id (.row rt 5 (ver + 1) (es ++ ys) 0), ?_, c.of ?_ ?_, ?_, ⟨by simp, fun j h1 h2 => rs j (by omega)⟩⟩
   ·simp only [evAppendL, if_true, row_at hr' (show off + es.length ≤ L.length by omega), ht, Nat.zero_le, and_self, htk]
    rw [if_neg hy, if_pos fit]
    simp
   ·intro j hj
    simp only [List.mem_cons, List.not_mem_nil, or_false] at hj
    exact rs j (by omega)
   ·have hb := c.bel
    rw [List.all_eq_true] at hb ⊢
    intro o ho
    rw [List.length_set]
    rcases List.mem_or_eq_of_mem_set ho with h' | rfl
    ·exact hb o h'
    ·rfl
   ·have := Qr.own (rt := rt) (H := H.set id (.row rt 5 (ver + 1) (es ++ ys) 0)) (B := B) id (ver + 1) 0 (es ++ ys) (es ++ ys) (by simp [hlt]) (by simp) (by simp) hBi
    rwa [List.length_append] at this
theorem Qr.rsB {H' : List AO} (q : Qr rt H B Q es) (hb : b < B) (hr : rl < B) (hm : m < B) (rs : Rs [b, rl, m] H H') : Qr rt H' B Q es :=
 q.of fun id hB _ => rs.2 id (by simp; omega)
theorem Qr.frz (q : Qr rt H B Q es) : ∃ R, Q.frz2 B H = some R ∧ (R = .v (.slice none 0 0) ∧ es = [] ∨ ∃ ex nn, R = .slc 5 ex nn es) := by
 cases q with
 | nil => exact ⟨_, rfl, .inl ⟨rfl, rfl⟩⟩
 | slc es => exact ⟨_, rfl, .inr ⟨_, _, rfl⟩⟩
 | own id ver off L es hr hd ho hB =>
  refine ⟨.slc 5 false false es, ?_, .inr ⟨_, _, rfl⟩⟩
  simp only [AV.frz2, AV.frz1, AV.frz0, Nat.not_lt.2 hB, if_false, row_at hr (show off + es.length ≤ L.length by omega), hd]
  rw [List.take_of_length_le (Nat.le_refl _)]
end
def K89 : List Bool := [true, false, false, false, false, true, false, false, true, true, true, false, false, false, false, false]
def V89 (b n : Nat) (c : AV) (i : Int) (Q x6 x7 x11 x12 x13 x14 x15 : AV) : List AV := [.ptr b 0, .junk, .junk, .junk, .junk, Q, x6, x7, c, .v (.int .i64 n), .v (.int .i64 i), x11, x12, x13, x14, x15]
theorem pSg_len (g : Sg) (t : Tm) : (pSg g t).met.length ≤ g.met.length + 1 := by
 cases t with | mk k s n l =>
 simp only [pSg]
 split
 ·split <;> simp
 ·omega
theorem within2_loop {K b rl m B : Nat} (hbB : b < B) (hrB : rl < B) (hmB : m < B) {c : AV} {es : List AV} {l : List Tm} (hs : Sl 4 c es) (hes : All2 es l) (hwf : wfL l) (hm : es.length ≤ 900000) :
  ∀ (l' : List Tm) (i : Nat) (H : List AO) (code : List Op5) (g : Sg) (Q : AV) (ws : List AV) (q : List (Nat × Tm)) (vars : List AV), i + l'.length = es.length → l' = l.drop i → Dp H b rl m code g → Qr 82 H B Q ws → AllR Wt ws q → B ≤ H.length →
   code.length + l'.length ≤ 900000 → g.next + l'.length ≤ 3000000 → g.met.length + l'.length ≤ 900000 → ws.length + l'.length ≤ 900000 → clr K89 vars = V89 b es.length c i Q .junk .junk .junk .junk .junk .junk .junk →
   ∃ H' Q' ws', loopN (exec (callW F) K c46_17) K89 (l'.length + 1) vars H = some (.exit 0, V89 b es.length c es.length Q' .junk .junk (.v (.bool false)) .junk .junk .junk .junk, H') ∧
    Dp H' b rl m (code ++ (wArgs l' g).1) (wArgs l' g).2.2 ∧ Qr 82 H' B Q' ws' ∧ AllR Wt ws' (q ++ (wArgs l' g).2.1) ∧ Gb B [b, rl, m] H H' := by
 have hll := hes.length
 intro l'
 induction l' with
 | nil =>
  intro i H code g Q ws q vars hil _ cp hQ hW hB _ _ _ _ hv
  have hil : i = es.length := by simpa using hil
  subst hil
  have hlt := lt_f (n := es.length)
  refine ⟨H, Q, ws, ?_, by simpa [wArgs] using cp, hQ, by simpa [wArgs] using hW, .refl H⟩
  rw [List.length_nil, Nat.zero_add]
  refine loop_exit ?_
  rw [hv]
  simp only [V89, c46_17, c46_4, hlt, Q0, Q1, Q2, Q3, Q4, Q5, Q6, Q7, Q8, Q9, Q10, Q11, Q12, Q13, Q14, Q15, Q16, Q17, Q18, Q19, Q20, Q21, Q22, Q23, Q24, Q25, Q26, Q27, Q28, Q29, Q30, Q31, Q32, Q33, Q35, Q36, Q37, Q38, Q39, Q40, Q41, Q42, Q43, Q44, Q45, Q46, Q47, Q48, Q49, Q50, Q51, Q52, Q53, Q54, Q55, Q56, Q57, Q58, Q59, Q60, Q61, Q62, Q63, Q64, Q65, Q66, Q67, Q68, Q69, Q70, Q71, Q72, Q73, Q99, Q100, Q101, Q102, Q103, Q74, Q75, Q77, Q78, Q79, Q80, Q81, Q82, Q83, Q84, clr, List.length_nil, List.length_cons, List.getElem?_cons_zero, List.getElem?_cons_succ, Nat.reduceAdd, Nat.zero_add, Nat.add_zero, Nat.reduceLeDiff, Nat.reduceSub, ↓reduceIte, List.drop_succ_cons, List.drop_zero, List.take_succ_cons, List.take_zero, Bool.false_eq_true, List.nil_append, List.cons_append, Bool.not_true, Bool.not_false, cond_true, cond_false, bne, Q85, Q86, Q87, Q88, Q89, Q90, Q91, Q92, Q93, Q94, Q95, Q96, Q97, Q98, Q110, Q111, Q116, Q117, Q118, Q119, Q120, Q121, Q122, Q123, Option.map_some, Option.map_none, Q34]
 | cons t l' ih =>
  intro i H code g Q ws q vars hil hd cp hQ hW hB hcl hnx hml hwl hv
  have hil' : i < es.length := by simp at hil; omega
  have hll' : i < l.length := by omega
  have hti : l[i] = t := by
   have h1 := List.drop_eq_getElem_cons hll'
   rw [← hd] at h1
   exact (List.cons.inj h1).1.symm
  have hd' : l' = l.drop (i + 1) := by
   have h1 := List.drop_eq_getElem_cons hll'
   rw [← hd] at h1
   exact (List.cons.inj h1).2
  have hT := hes.at hil' hll'
  rw [hti] at hT
  have htm : t ∈ l := by rw [← hti]; exact List.getElem_mem hll'
  have he : es[i]? = some es[i] := List.getElem?_eq_getElem hil'
  generalize es[i] = e at hT he
  have hf := hT.facts
  have q1 := fun h : List AO => hs.ia he h
  have hlt := lt_t hil'
  have hw := wrap_succ hil' (small_maxM hm)
  have q9 : ∀ h : List AO, bx h 32 (ofVal (.agg #[(.int .i64 0), (.string ⟨#[]⟩), (.int .i64 0), (.slice none 0 0)])).cl = some (.ptr h.length 0, h ++ [.box 32 [.v (.int .i64 0), .v (.string ⟨#[]⟩), .v (.int .i64 0), .v (.slice none 0 0)]]) := fun h => by rw [q9z]; rfl
  rw [show (t :: l').length + 1 = (l'.length + 1) + 1 from rfl]
  simp only [List.length_cons] at hcl hil hnx hwl hml
  have hbe : AO.below 0 (.box 32 e.cells) = true := hT.bel
  have cpa := cp.app (l := [.box 32 e.cells]) (by simp [below_mono (Nat.zero_le _) _ hbe])
  have hwt := wfL_mem hwf t htm
  have hQa := hQ.app [.box 32 e.cells]
  have gba : Gb B [b, rl, m] H (H ++ [.box 32 e.cells]) := Gb.app hB _
  cases hc : isC t with
  | false =>
   -- an instruction of its own
   suffices step : ∃ H2 vs2, exec (callW F) K c46_17 (V89 b es.length c i Q .junk .junk .junk .junk .junk .junk .junk) H = some (.normal, vs2, H2) ∧
     clr K89 vs2 = V89 b es.length c ((i + 1 : Nat) : Int) Q .junk .junk .junk .junk .junk .junk .junk ∧ Dp H2 b rl m (code ++ [pIns 6 0 g t]) (pSg g t) ∧ Rs [b, rl, m] (H ++ [.box 32 e.cells]) H2 by
    obtain ⟨H2, vs2, st, hv2, cp2, rs2⟩ := step
    rw [loop_normal (by rw [hv]; exact st)]
    have hl2 : H2.length = H.length + 1 := by rw [rs2.1]; simp
    have hp := pSg_len g t
    obtain ⟨H', Q', ws', k1, k2, k3, k4, k5⟩ := ih (i + 1) H2 _ _ Q ws q vs2 (by omega) hd' cp2 (hQa.rsB hbB hrB hmB rs2) hW (by omega) (by rw [List.length_append, List.length_singleton]; omega) (by rw [pSg_next]; omega) (by omega) (by omega) hv2
    have hp : wArgs (t :: l') g = (pIns 6 0 g t :: (wArgs l' (pSg g t)).1, (wArgs l' (pSg g t)).2.1, (wArgs l' (pSg g t)).2.2) := by
     rw [wArgs]; simp only [hc, Bool.false_eq_true, if_false]
    rw [hp]
    rw [List.append_assoc, List.singleton_append] at k2
    exact ⟨H', Q', ws', k1, k2, k3, k4, (gba.trans rs2.gb).trans k5⟩
   have hk := wf_k hwt hc
   have ldt : Q76 (H ++ [.box 32 e.cells]) true 4 (.ptr H.length 0) = some e := hf.2.2.2.1 H 32
   cases hT with
   | mk k s n cc l2 hcc =>
   have hob : (H ++ [AO.box 32 [.v (.int .i64 k), .v (.string s), .v (.int .i64 n), cc]])[H.length]? = some (.box 32 [.v (.int .i64 k), .v (.string s), .v (.int .i64 n), cc]) := bxl
   have o0 := tm_ld0 hob
   have o1 := tm_ld1 hob
   have o2 : Q76 (H ++ [AO.box 32 [.v (.int .i64 k), .v (.string s), .v (.int .i64 n), cc]]) false 1 (.ptr H.length 2) = some (.v (.int .i64 n)) := by rw [bx_ld hob]; rfl
   simp only [Tm.k] at hk
   simp only [AV.cells] at hf cpa ldt
   rcases hk with rfl | rfl | rfl
   ·obtain ⟨H2, g1, cp2, rs2⟩ := var_ok cpa (by omega) (by omega) (.mk 1 s n cc l2 hcc) rfl (op := 6) (op2 := 7) (a := 0) rfl
    refine ⟨H2, V89 b es.length c ((i + 1 : Nat) : Int) Q (.ptr H.length 0) .junk (.v (.bool true)) (.v (.int .i64 1)) (.v (.bool true)) .junk .junk, ?_, rfl, cp2, rs2⟩
    have e1 : ((1 : Int) == 1) = true := rfl
    simp only [V89, c46_17, c46_4, c46_5, c46_6, c46_7, c46_8, c46_16, hlt, hw, q1, hf, q9, o0, ldt, e1, g1, e_callh, List.map_cons, List.map_nil, Q0, Q1, Q2, Q3, Q4, Q5, Q6, Q7, Q8, Q9, Q10, Q11, Q12, Q13, Q14, Q15, Q16, Q17, Q18, Q19, Q20, Q21, Q22, Q23, Q24, Q25, Q26, Q27, Q28, Q29, Q30, Q31, Q32, Q33, Q35, Q36, Q37, Q38, Q39, Q40, Q41, Q42, Q43, Q44, Q45, Q46, Q47, Q48, Q49, Q50, Q51, Q52, Q53, Q54, Q55, Q56, Q57, Q58, Q59, Q60, Q61, Q62, Q63, Q64, Q65, Q66, Q67, Q68, Q69, Q70, Q71, Q72, Q73, Q99, Q100, Q101, Q102, Q103, Q74, Q75, Q77, Q78, Q79, Q80, Q81, Q82, Q83, Q84, clr, List.length_nil, List.length_cons, List.getElem?_cons_zero, List.getElem?_cons_succ, Nat.reduceAdd, Nat.zero_add, Nat.add_zero, Nat.reduceLeDiff, Nat.reduceSub, ↓reduceIte, List.drop_succ_cons, List.drop_zero, List.take_succ_cons, List.take_zero, Bool.false_eq_true, List.nil_append, List.cons_append, Bool.not_true, Bool.not_false, cond_true, cond_false, bne, Q85, Q86, Q87, Q88, Q89, Q90, Q91, Q92, Q93, Q94, Q95, Q96, Q97, Q98, Q110, Q111, Q116, Q117, Q118, Q119, Q120, Q121, Q122, Q123, Option.map_some, Option.map_none]
   ·obtain ⟨H2, g1, cp2, rs2⟩ := cpa.lay (by omega) ⟨8, 0, 0, s, 0⟩
    have bld : ∀ (vars env : List AV), evBuild vars (.v (.string s) :: env) [.v (.int .i64 0), .v (.int .i64 0), .v (.int .i64 0), .v (.string ⟨#[]⟩), .v (.int .i64 0)] [(0, 1, (.k (.int .i64 8))), (3, 1, (.loc 0))] = some [.v (.int .i64 8), .v (.int .i64 0), .v (.int .i64 0), .v (.string s), .v (.int .i64 0)] := fun _ _ => rfl
    refine ⟨H2, V89 b es.length c ((i + 1 : Nat) : Int) Q (.ptr H.length 0) .junk (.v (.bool true)) (.v (.int .i64 2)) (.v (.bool false)) (.v (.bool true)) .junk, ?_, rfl, cp2, rs2⟩
    have e1 : ((2 : Int) == 1) = false := rfl
    have e2 : ((2 : Int) == 2) = true := rfl
    simp only [o5] at g1
    simp only [V89, c46_17, c46_4, c46_5, c46_6, c46_7, c46_9, c46_10, c46_16, hlt, hw, q1, hf, q9, o0, o1, bld, Q106, Q107, toL, e1, e2, g1, e_callh, List.map_cons, List.map_nil, Q0, Q1, Q2, Q3, Q4, Q5, Q6, Q7, Q8, Q9, Q10, Q11, Q12, Q13, Q14, Q15, Q16, Q17, Q18, Q19, Q20, Q21, Q22, Q23, Q24, Q25, Q26, Q27, Q28, Q29, Q30, Q31, Q32, Q33, Q35, Q36, Q37, Q38, Q39, Q40, Q41, Q42, Q43, Q44, Q45, Q46, Q47, Q48, Q49, Q50, Q51, Q52, Q53, Q54, Q55, Q56, Q57, Q58, Q59, Q60, Q61, Q62, Q63, Q64, Q65, Q66, Q67, Q68, Q69, Q70, Q71, Q72, Q73, Q99, Q100, Q101, Q102, Q103, Q74, Q75, Q77, Q78, Q79, Q80, Q81, Q82, Q83, Q84, clr, List.length_nil, List.length_cons, List.getElem?_cons_zero, List.getElem?_cons_succ, Nat.reduceAdd, Nat.zero_add, Nat.add_zero, Nat.reduceLeDiff, Nat.reduceSub, ↓reduceIte, List.drop_succ_cons, List.drop_zero, List.take_succ_cons, List.take_zero, Bool.false_eq_true, List.nil_append, List.cons_append, Bool.not_true, Bool.not_false, cond_true, cond_false, bne, Q85, Q86, Q87, Q88, Q89, Q90, Q91, Q92, Q93, Q94, Q95, Q96, Q97, Q98, Q110, Q111, Q116, Q117, Q118, Q119, Q120, Q121, Q122, Q123, Option.map_some, Option.map_none]
   ·obtain ⟨H2, g1, cp2, rs2⟩ := cpa.lay (by omega) ⟨9, 0, 0, nos, n⟩
    have bld : ∀ (vars env : List AV), evBuild vars (.v (.int .i64 n) :: env) [.v (.int .i64 0), .v (.int .i64 0), .v (.int .i64 0), .v (.string ⟨#[]⟩), .v (.int .i64 0)] [(0, 1, (.k (.int .i64 9))), (4, 1, (.loc 0))] = some [.v (.int .i64 9), .v (.int .i64 0), .v (.int .i64 0), .v (.string ⟨#[]⟩), .v (.int .i64 n)] := fun _ _ => rfl
    refine ⟨H2, V89 b es.length c ((i + 1 : Nat) : Int) Q (.ptr H.length 0) .junk (.v (.bool true)) (.v (.int .i64 3)) (.v (.bool false)) (.v (.bool false)) (.v (.bool true)), ?_, rfl, cp2, rs2⟩
    have e1 : ((3 : Int) == 1) = false := rfl
    have e2 : ((3 : Int) == 2) = false := rfl
    have e3 : ((3 : Int) == 3) = true := rfl
    simp only [o5, nos] at g1
    simp only [V89, c46_17, c46_4, c46_5, c46_6, c46_7, c46_9, c46_11, c46_12, c46_16, hlt, hw, q1, hf, q9, o0, o2, bld, Q106, Q107, toL, e1, e2, e3, g1, e_callh, List.map_cons, List.map_nil, Q0, Q1, Q2, Q3, Q4, Q5, Q6, Q7, Q8, Q9, Q10, Q11, Q12, Q13, Q14, Q15, Q16, Q17, Q18, Q19, Q20, Q21, Q22, Q23, Q24, Q25, Q26, Q27, Q28, Q29, Q30, Q31, Q32, Q33, Q35, Q36, Q37, Q38, Q39, Q40, Q41, Q42, Q43, Q44, Q45, Q46, Q47, Q48, Q49, Q50, Q51, Q52, Q53, Q54, Q55, Q56, Q57, Q58, Q59, Q60, Q61, Q62, Q63, Q64, Q65, Q66, Q67, Q68, Q69, Q70, Q71, Q72, Q73, Q99, Q100, Q101, Q102, Q103, Q74, Q75, Q77, Q78, Q79, Q80, Q81, Q82, Q83, Q84, clr, List.length_nil, List.length_cons, List.getElem?_cons_zero, List.getElem?_cons_succ, Nat.reduceAdd, Nat.zero_add, Nat.add_zero, Nat.reduceLeDiff, Nat.reduceSub, ↓reduceIte, List.drop_succ_cons, List.drop_zero, List.take_succ_cons, List.take_zero, Bool.false_eq_true, List.nil_append, List.cons_append, Bool.not_true, Bool.not_false, cond_true, cond_false, bne, Q85, Q86, Q87, Q88, Q89, Q90, Q91, Q92, Q93, Q94, Q95, Q96, Q97, Q98, Q110, Q111, Q116, Q117, Q118, Q119, Q120, Q121, Q122, Q123, Option.map_some, Option.map_none]
  | true =>
   -- it waits
   have hk4 : t.k = 4 := of_decide_eq_true hc
   obtain ⟨H1, t1, cp1, rs1⟩ := cpa.temp (by omega)
   obtain ⟨H2, g2, cp2, rs2⟩ := cp1.lay (by omega) ⟨10, 0, g.next, nos, 0⟩
   have rsT := rs1.trans rs2
   have hQ2 := hQa.rsB hbB hrB hmB rsT
   have hbox := cp.obj rsT
   have hwt' : Wt (.agg (.v (.int .i64 (g.next : Int)) :: e.cells)) (g.next, t) := ⟨e, hT, rfl⟩
   have hlen2 : H2.length = H.length + 1 := by rw [rsT.1]; simp
   obtain ⟨Qz3, H3, a3, cp3, hQ3, gb3⟩ := cp2.addQ hQ2 (by omega) hbB hrB hmB (x := .slc 5 true true [.agg (.v (.int .i64 (g.next : Int)) :: e.cells)]) rfl (by simp only [List.length_singleton]; omega)
   have lda : Q76 H2 true 4 (.ptr H.length 0) = some e := by
    rw [bx_ld hbox, if_pos (by have := hT.cl.2; omega), List.drop_zero]; exact hT.asEl
   have b5 := fun H => bs5 hwt'.elm H
   have sw := fun H => hwt'.elm.snap H
   have bd5 := fun vars env => bd5_ok hT g.next vars env
   have o0 : Q76 (H ++ [AO.box 32 e.cells]) false 1 (.ptr H.length 0) = some (.v (.int .i64 4)) := by rw [box_k hT, hk4]
   have st : exec (callW F) K c46_17 (V89 b es.length c i Q .junk .junk .junk .junk .junk .junk .junk) H = some (.normal, V89 b es.length c ((i + 1 : Nat) : Int) Qz3 (.ptr H.length 0) (.v (.int .i64 g.next)) (.v (.bool true)) (.v (.int .i64 4)) (.v (.bool false)) (.v (.bool false)) (.v (.bool false)), H3) := by
    simp only [o5, nos] at g2
    have bdI : ∀ (vars env : List AV), evBuild vars (.v (.int .i64 (g.next : Int)) :: env) [.v (.int .i64 0), .v (.int .i64 0), .v (.int .i64 0), .v (.string ⟨#[]⟩), .v (.int .i64 0)] [(0, 1, (.k (.int .i64 10))), (2, 1, (.loc 0))] = some [.v (.int .i64 10), .v (.int .i64 0), .v (.int .i64 (g.next : Int)), .v (.string ⟨#[]⟩), .v (.int .i64 0)] := fun _ _ => rfl
    have e1 : ((4 : Int) == 1) = false := rfl
    have e2 : ((4 : Int) == 2) = false := rfl
    have e3 : ((4 : Int) == 3) = false := rfl
    generalize hG : H ++ [AO.box 32 e.cells] = G at *
    simp only [V89, c46_17, c46_4, c46_5, c46_6, c46_7, c46_9, c46_11, c46_13, c46_14, c46_15, c46_16, hlt, hw, q1, hf, q9, hG, t1, g2, o0, e1, e2, e3, lda, a3, bd5, b5, sw, bdI, Q104, e_append, e_callh, List.map_cons, List.map_nil, Q106, Q107, toL, and_self, Q0, Q1, Q2, Q3, Q4, Q5, Q6, Q7, Q8, Q9, Q10, Q11, Q12, Q13, Q14, Q15, Q16, Q17, Q18, Q19, Q20, Q21, Q22, Q23, Q24, Q25, Q26, Q27, Q28, Q29, Q30, Q31, Q32, Q33, Q35, Q36, Q37, Q38, Q39, Q40, Q41, Q42, Q43, Q44, Q45, Q46, Q47, Q48, Q49, Q50, Q51, Q52, Q53, Q54, Q55, Q56, Q57, Q58, Q59, Q60, Q61, Q62, Q63, Q64, Q65, Q66, Q67, Q68, Q69, Q70, Q71, Q72, Q73, Q99, Q100, Q101, Q102, Q103, Q74, Q75, Q77, Q78, Q79, Q80, Q81, Q82, Q83, Q84, clr, List.length_nil, List.length_cons, List.getElem?_cons_zero, List.getElem?_cons_succ, Nat.reduceAdd, Nat.zero_add, Nat.add_zero, Nat.reduceLeDiff, Nat.reduceSub, ↓reduceIte, List.drop_succ_cons, List.drop_zero, List.take_succ_cons, List.take_zero, Bool.false_eq_true, List.nil_append, List.cons_append, Bool.not_true, Bool.not_false, cond_true, cond_false, bne, Q85, Q86, Q87, Q88, Q89, Q90, Q91, Q92, Q93, Q94, Q95, Q96, Q97, Q98, Q110, Q111, Q116, Q117, Q118, Q119, Q120, Q121, Q122, Q123, Option.map_some, Option.map_none]
   rw [loop_normal (by rw [hv]; exact st)]
   obtain ⟨H', Q', ws', k1, k2, k3, k4, k5⟩ := ih (i + 1) H3 _ _ Qz3 (ws ++ [.agg (.v (.int .i64 (g.next : Int)) :: e.cells)]) (q ++ [(g.next, t)]) (V89 b es.length c ((i + 1 : Nat) : Int) Qz3 (.ptr H.length 0) (.v (.int .i64 g.next)) (.v (.bool true)) (.v (.int .i64 4)) (.v (.bool false)) (.v (.bool false)) (.v (.bool false))) (by omega) hd' cp3 hQ3 (AllR.app hW (.one hwt')) (by have := gb3.1; omega) (by rw [List.length_append, List.length_singleton]; omega) (by simp only; omega) (by simp only; omega) (by rw [List.length_append, List.length_singleton]; omega) rfl
   have hp : wArgs (t :: l') g = (⟨10, 0, g.next, nos, 0⟩ :: (wArgs l' { g with next := g.next + 1 }).1, (g.next, t) :: (wArgs l' { g with next := g.next + 1 }).2.1, (wArgs l' { g with next := g.next + 1 }).2.2) := by
    rw [wArgs]; simp only [hc, if_true]
   rw [hp]
   rw [List.append_assoc, List.singleton_append] at k2 k4
   exact ⟨H', Q', ws', k1, k2, k3, k4, (gba.trans rsT.gb).trans (gb3.trans k5)⟩
end Go.AE.YtghgbbiklkpbnaaDoor
end

section
namespace Go.AE.YtghgbbiklkpbnaaDoor
open Go Go.AE Go.Proofs.YtghgbbiklkpbnaaDoor

section
variable {h : List AO} {b rl m : Nat} {code : List Op5} {g : Sg}
theorem within_ok (c : Dp h b rl m code g) {e : AV} {t : Tm} (ht : IsT e t) (hw : wfT t) (hct : isC t = true) (r : Int) (hcl : code.length + 1 + t.l.length ≤ 900000) (hnx : g.next + t.l.length ≤ 3000000) (hml : g.met.length + t.l.length ≤ 900000) :
  ∃ h' R ws, callW F 46 [.ptr b 0, .v (.int .i64 r), e] h = some (R, h') ∧ Dp h' b rl m (code ++ ⟨5, r, 0, t.s, t.l.length⟩ :: (wArgs t.l g).1) (wArgs t.l g).2.2 ∧ (∀ H : List AO, elemsOf H 5 R = some ws) ∧ AllR Wt ws (wArgs t.l g).2.1 ∧ Rs [b, rl, m] h h' := by
 obtain ⟨hlb, hlr, hlt, _⟩ := c.mb
 have hbe : AO.below 0 (.box 32 e.cells) = true := ht.bel
 have hf := ht.facts
 cases ht with
 | mk k s n cc l hc =>
 have wl := hw.l
 simp only [Tm.l, Tm.s] at wl hcl hnx hml ⊢
 obtain ⟨es, hs, hes, hm⟩ := hc.sl
 have hll := hes.length
 have bxt : bx h 32 (some [.v (.int .i64 k), .v (.string s), .v (.int .i64 n), cc]) = some (.ptr h.length 0, h ++ [.box 32 [.v (.int .i64 k), .v (.string s), .v (.int .i64 n), cc]]) := rfl
 simp only [AV.cells] at hf hbe
 have cl := hf.2.2.2.2
 have cpa := c.app (l := [.box 32 [.v (.int .i64 k), .v (.string s), .v (.int .i64 n), cc]]) (by simp [below_mono (Nat.zero_le _) _ hbe])
 have o1 := tm_ld1 (H := h ++ [.box 32 [.v (.int .i64 k), .v (.string s), .v (.int .i64 n), cc]]) bxl
 have o3 := tm_ld3 (H := h ++ [.box 32 [.v (.int .i64 k), .v (.string s), .v (.int .i64 n), cc]]) bxl
 obtain ⟨H1, g1, cp1, rs1⟩ := cpa.lay (by omega) ⟨5, r, 0, s, l.length⟩
 have p3 := tm_ld3 (c.obj rs1)
 have hl1 : H1.length = h.length + 1 := by rw [rs1.1]; simp
 obtain ⟨H', Q', ws', k1, cp2, hQ2, hW2, gb2⟩ := within2_loop (K := l.length + 1) (B := h.length) hlb hlr hlt hs hes wl (by omega) l 0 H1 _ g (.v (.slice none 0 0)) [] []
  [.ptr b 0, .v (.int .i64 r), .agg [.v (.int .i64 k), .v (.string s), .v (.int .i64 n), cc], .ptr h.length 0, .v (.slice none 0 0), .v (.slice none 0 0), .v undef, .v undef, cc, .v (.int .i64 es.length), .v (.int .i64 0), .v undef, .v undef, .v undef, .v undef, .v undef] (by omega) (by simp) cp1 .nil .nil (by omega) (by rw [List.length_append, List.length_singleton]; omega) (by omega) (by omega) (by simp only [List.length_nil]; omega) rfl
 have gb : Gb h.length [b, rl, m] h H' := ((Gb.app (Nat.le_refl _) _).trans rs1.gb).trans gb2
 obtain ⟨h3, L, he, cp3, rs3⟩ := c.pre cp2 gb
 obtain ⟨R, hR, hR2⟩ := hQ2.frz
 have hRe : ∀ H : List AO, elemsOf H 5 R = some ws' := by
  intro H
  rcases hR2 with ⟨rfl, rfl⟩ | ⟨ex, nn, rfl⟩ <;> rfl
 refine ⟨h3, R, ws', callW_own (c := c46) rfl rfl (l.length + 1) ?_, ?_, hRe, by simpa using hW2, rs3⟩
 ·have lvv : leave h.length c46 (some (.ret, [.ptr b 0, .junk, .junk, .junk, Q', Q', .junk, .junk, cc, .v (.int .i64 es.length), .v (.int .i64 es.length), .v (.bool false), .junk, .junk, .junk, .junk], h3 ++ L)) = some (R, h3) := by
   rw [leave_own rs3.1 (by rw [← rs3.1]; exact cp3.bel)]
   have : (c46.res.mapM (resOf [.ptr b 0, .junk, .junk, .junk, Q', Q', .junk, .junk, cc, .v (.int .i64 es.length), .v (.int .i64 es.length), .v (.bool false), .junk, .junk, .junk, .junk] (h3 ++ L))) = some [Q'] := rfl
   rw [this]
   exact lvo_one (by rw [← he]; exact hR)
  rw [← lvv]
  congr 1
  rw [← he]
  simp only [o5, ← hll] at g1
  have q1 := fun H : List AO => hs.len H
  have bld : ∀ (vars env : List AV) (x1 x2 x4 : AV), evBuild vars (.v (.int .i64 es.length) :: x1 :: x2 :: .v (.string s) :: x4 :: .v (.int .i64 r) :: env) [.v (.int .i64 0), .v (.int .i64 0), .v (.int .i64 0), .v (.string ⟨#[]⟩), .v (.int .i64 0)] [(0, 1, (.k (.int .i64 5))), (1, 1, (.loc 5)), (3, 1, (.loc 3)), (4, 1, (.loc 0))] = some [.v (.int .i64 5), .v (.int .i64 r), .v (.int .i64 0), .v (.string s), .v (.int .i64 es.length)] := fun _ _ _ _ _ => rfl
  rw [show c46.body = (.seq (.region [] [] c46_0) (.seq (.region [] [] c46_1) (.seq (.region [] [] c46_2) (.seq (.seq (.region [] [] c46_3) (.block 0 (.loop K89 [] c46_17))) (.seq (.region [] [] c46_18) .ret))))) from rfl]
  generalize c46_17 = bb1 at k1 ⊢
  simp only [c46, start, List.replicate, List.append_nil, c46_0, c46_1, c46_2, c46_3, c46_18, bxt, cl, o1, o3, p3, q1, bld, g1, Q106, Q107, toL, e_callh, List.map_cons, List.map_nil, k1, V89, Q0, Q1, Q2, Q3, Q4, Q5, Q6, Q7, Q8, Q9, Q10, Q11, Q12, Q13, Q14, Q15, Q16, Q17, Q18, Q19, Q20, Q21, Q22, Q23, Q24, Q25, Q26, Q27, Q28, Q29, Q30, Q31, Q32, Q33, Q35, Q36, Q37, Q38, Q39, Q40, Q41, Q42, Q43, Q44, Q45, Q46, Q47, Q48, Q49, Q50, Q51, Q52, Q53, Q54, Q55, Q56, Q57, Q58, Q59, Q60, Q61, Q62, Q63, Q64, Q65, Q66, Q67, Q68, Q69, Q70, Q71, Q72, Q73, Q99, Q100, Q101, Q102, Q103, Q74, Q75, Q77, Q78, Q79, Q80, Q81, Q82, Q83, Q84, clr, List.length_nil, List.length_cons, List.getElem?_cons_zero, List.getElem?_cons_succ, Nat.reduceAdd, Nat.zero_add, Nat.add_zero, Nat.reduceLeDiff, Nat.reduceSub, ↓reduceIte, List.drop_succ_cons, List.drop_zero, List.take_succ_cons, List.take_zero, Bool.false_eq_true, List.nil_append, List.cons_append, Bool.not_true, Bool.not_false, cond_true, cond_false, bne, Q85, Q86, Q87, Q88, Q89, Q90, Q91, Q92, Q93, Q94, Q95, Q96, Q97, Q98, Q110, Q111, Q116, Q117, Q118, Q119, Q120, Q121, Q122, Q123, Option.map_some, Option.map_none]
 ·rw [List.append_assoc, List.singleton_append] at cp2
  obtain ⟨h3', L', he', cp3', rs3'⟩ := c.pre cp2 gb
  have e1 : h3' = h3 := by
   have a1 : h3' = H'.take h.length := by rw [he', ← rs3'.1, List.take_left]
   have a2 : h3 = H'.take h.length := by rw [he, ← rs3.1, List.take_left]
   rw [a1, a2]
  rw [← e1]; exact cp3'
def Kg61 : List Bool := [true, false, false, false, true, false, false, false, false, false, false, false]
def Vg61 (b : Nat) (Q x5 x11 : AV) : List AV := [.ptr b 0, .junk, .junk, .junk, Q, x5, .junk, .junk, .junk, .junk, .junk, x11]
theorem wArgs_met : ∀ (l : List Tm) (g : Sg), (wArgs l g).2.2.met.length ≤ g.met.length + l.length
 | [], g => by simp [wArgs]
 | t :: l, g => by
  rw [wArgs]
  split
  ·have := wArgs_met l { g with next := g.next + 1 }
   simp only [List.length_cons] at this ⊢; omega
  ·have := wArgs_met l (pSg g t)
   have := pSg_len g t
   simp only [List.length_cons]; omega
theorem wt5 {H : List AO} {id : Nat} {r : Int} {e : AV} {t : Tm} (ht : IsT e t) (h : H[id]? = some (.box 82 (.v (.int .i64 r) :: e.cells))) : Q76 H false 1 (.ptr id 0) = some (.v (.int .i64 r)) ∧ Q76 H true 4 (.ptr id 1) = some e := by
 rw [bx_ld h, bx_ld h]
 cases ht with
 | mk k s n c l hc => exact ⟨rfl, rfl⟩
theorem q2_loop {B K : Nat} (hbB : b < B) (hrB : rl < B) (hmB : m < B) : ∀ (n : Nat) (q : List (Nat × Tm)) (H : List AO) (code : List Op5) (g : Sg) (Q : AV) (ws : List AV) (vars : List AV), qC q = n → (∀ p ∈ q, wfT p.2 ∧ isC p.2 = true) → Dp H b rl m code g → Qr 82 H B Q ws → AllR Wt ws q → B ≤ H.length →
  code.length + (q.map fun p => kT p.2).sum ≤ 900000 → g.next + n ≤ 1900000 + q.length → g.met.length + (q.map fun p => kT p.2).sum ≤ 890000 → clr Kg61 vars = Vg61 b Q .junk .junk →
  ∃ H' vs', loopN (exec (callW F) K c29_13) Kg61 (n + 1) vars H = some (.exit 1, vs', H') ∧ Dp H' b rl m (code ++ (getQ n q g).1) (getQ n q g).2 ∧ Gb B [b, rl, m] H H' := by
 intro n
 induction n with
 | zero =>
  intro q H code g Q ws vars hn hq cp hQ hW hB _ _ _ hv
  cases hW with
  | cons a x es xs h hs =>
   have := cT_comp (hq x (by simp)).2
   simp [qC] at hn; omega
  | nil =>
  refine ⟨H, Vg61 b Q .junk (.v (.bool false)), ?_, by simpa [getQ] using cp, .refl H⟩
  refine loop_exit ?_
  rw [hv]
  have ln := hQ.len H
  simp only [Vg61, c29_13, c29_10, ln, List.length_nil, gtr0_0, Q0, Q1, Q2, Q3, Q4, Q5, Q6, Q7, Q8, Q9, Q10, Q11, Q12, Q13, Q14, Q15, Q16, Q17, Q18, Q19, Q20, Q21, Q22, Q23, Q24, Q25, Q26, Q27, Q28, Q29, Q30, Q31, Q32, Q33, Q35, Q36, Q37, Q38, Q39, Q40, Q41, Q42, Q43, Q44, Q45, Q46, Q47, Q48, Q49, Q50, Q51, Q52, Q53, Q54, Q55, Q56, Q57, Q58, Q59, Q60, Q61, Q62, Q63, Q64, Q65, Q66, Q67, Q68, Q69, Q70, Q71, Q72, Q73, Q99, Q100, Q101, Q102, Q103, Q74, Q75, Q77, Q78, Q79, Q80, Q81, Q82, Q83, Q84, clr, List.length_nil, List.length_cons, List.getElem?_cons_zero, List.getElem?_cons_succ, Nat.reduceAdd, Nat.zero_add, Nat.add_zero, Nat.reduceLeDiff, Nat.reduceSub, ↓reduceIte, List.drop_succ_cons, List.drop_zero, List.take_succ_cons, List.take_zero, Bool.false_eq_true, List.nil_append, List.cons_append, Bool.not_true, Bool.not_false, cond_true, cond_false, bne, Q85, Q86, Q87, Q88, Q89, Q90, Q91, Q92, Q93, Q94, Q95, Q96, Q97, Q98, Q110, Q111, Q116, Q117, Q118, Q119, Q120, Q121, Q122, Q123, Option.map_some, Option.map_none]
 | succ n ih =>
  intro q H code g Q ws vars hn hq cp hQ hW hB hcl hnx hml hv
  cases hW with
  | nil => simp [qC] at hn
  | cons W p ws q hw hW =>
  obtain ⟨r, t⟩ := p
  have hwt := hq (r, t) (by simp)
  have hq' : ∀ p ∈ q, wfT p.2 ∧ isC p.2 = true := fun p hp => hq p (by simp [hp])
  obtain ⟨a, ha, hWe⟩ := hw
  simp only at ha hWe hwt
  have hwe : Wt W (r, t) := ⟨a, ha, hWe⟩
  obtain ⟨x, hx1, hx2⟩ := hQ.head hwe
  have hk := kT_comp hwt.1 hwt.2
  have hct := cT_comp hwt.2
  have wl := hwt.1.l
  have hq1 : q.length ≤ (q.map fun p => kT p.2).sum := sum_ge q fun p hp => by have := kT_comp (hq' p hp).1 (hq' p hp).2; omega
  have hq2 : q.length ≤ qC q := sum_ge q fun p hp => by have := cT_comp (hq' p hp).2; omega
  simp only [List.map_cons, List.sum_cons, List.length_cons] at hcl hnx hml
  have hqn : cT t + qC q = n + 1 := by rw [← hn]; simp [qC]
  -- its box
  have hWcl : W.cl = some (.v (.int .i64 r) :: a.cells) := by rw [hWe]; rfl
  have hacl := ha.cl.2
  have hbel : AO.below 0 (.box 82 (.v (.int .i64 r) :: a.cells)) = true := by
   have : AO.below 0 (.box 32 a.cells) = true := ha.bel
   simpa [AO.below, AV.below1, AV.below0] using this
  have bz : bx H 82 (ofVal (.agg #[(.int .i64 0), (.int .i64 0), (.string ⟨#[]⟩), (.int .i64 0), (.slice none 0 0)])).cl = some (.ptr H.length 0, H ++ [.box 82 [.v (.int .i64 0), .v (.int .i64 0), .v (.string ⟨#[]⟩), .v (.int .i64 0), .v (.slice none 0 0)]]) := by
   simp [ofVal, AV.cl, Value.oneCell', bx]
  have stz : Q113 (H ++ [.box 82 [.v (.int .i64 0), .v (.int .i64 0), .v (.string ⟨#[]⟩), .v (.int .i64 0), .v (.slice none 0 0)]]) 5 (.ptr H.length 0) W = some (H ++ [.box 82 (.v (.int .i64 r) :: a.cells)]) := st_new hWcl (by simp [hacl]) rfl
  have cpa := cp.app (l := [.box 82 (.v (.int .i64 r) :: a.cells)]) (by simp [below_mono (Nat.zero_le _) _ hbel])
  obtain ⟨Qz1, sl1, hQ1⟩ := (hQ.app [.box 82 (.v (.int .i64 r) :: a.cells)]).tail
  obtain ⟨l0, l1⟩ := wt5 (H := H ++ [.box 82 (.v (.int .i64 r) :: a.cells)]) (id := H.length) ha bxl
  obtain ⟨H1, R, ws1, g1, cp1, hR, hW1, rs1⟩ := within_ok cpa ha hwt.1 hwt.2 r (by omega) (by omega) (by omega)
  have hQ1' := hQ1.rsB hbB hrB hmB rs1
  have hl1 : H1.length = H.length + 1 := by rw [rs1.1]; simp
  have wlen := hW1.length
  have hwl := wArgs_len t.l g
  have hwm := wArgs_met t.l g
  have hn1 : (wArgs t.l g).2.1.length ≤ t.l.length := by
   have : (wArgs t.l g).2.1.length = (comps t.l).length := by rw [← wArgs_ws t.l g, List.length_map]
   rw [this]; exact List.length_filter_le _ _
  obtain ⟨Qz2, H2, a2, cp2, hQ2, gb2⟩ := cp1.addQ hQ1' (by omega) hbB hrB hmB (x := R) (ys := ws1) (hR _) (by have := hW.length; omega)
  have ln := hQ.len H
  have st : exec (callW F) K c29_13 (Vg61 b Q .junk .junk) H = some (.normal, Vg61 b Qz2 (.ptr H.length 0) (.v (.bool true)), H2) := by
   simp only [Vg61, c29_13, c29_10, c29_11, c29_12, ln, gtr0_1, List.length_cons, hx1, hx2, bz, stz, sl1, l0, l1, g1, a2, e_append, nat_0, nat_1, e_callh, List.map_cons, List.map_nil, Q0, Q1, Q2, Q3, Q4, Q5, Q6, Q7, Q8, Q9, Q10, Q11, Q12, Q13, Q14, Q15, Q16, Q17, Q18, Q19, Q20, Q21, Q22, Q23, Q24, Q25, Q26, Q27, Q28, Q29, Q30, Q31, Q32, Q33, Q35, Q36, Q37, Q38, Q39, Q40, Q41, Q42, Q43, Q44, Q45, Q46, Q47, Q48, Q49, Q50, Q51, Q52, Q53, Q54, Q55, Q56, Q57, Q58, Q59, Q60, Q61, Q62, Q63, Q64, Q65, Q66, Q67, Q68, Q69, Q70, Q71, Q72, Q73, Q99, Q100, Q101, Q102, Q103, Q74, Q75, Q77, Q78, Q79, Q80, Q81, Q82, Q83, Q84, clr, List.length_nil, List.length_cons, List.getElem?_cons_zero, List.getElem?_cons_succ, Nat.reduceAdd, Nat.zero_add, Nat.add_zero, Nat.reduceLeDiff, Nat.reduceSub, ↓reduceIte, List.drop_succ_cons, List.drop_zero, List.take_succ_cons, List.take_zero, Bool.false_eq_true, List.nil_append, List.cons_append, Bool.not_true, Bool.not_false, cond_true, cond_false, bne, Q85, Q86, Q87, Q88, Q89, Q90, Q91, Q92, Q93, Q94, Q95, Q96, Q97, Q98, Q110, Q111, Q116, Q117, Q118, Q119, Q120, Q121, Q122, Q123, Option.map_some, Option.map_none]
  have e1 : ((wArgs t.l g).2.1.map fun p => kT p.2).sum = ((comps t.l).map kT).sum := by
   rw [← wArgs_ws t.l g, List.map_map]; rfl
  rw [loop_normal (by rw [hv]; exact st)]
  obtain ⟨H', vs', j1, j2, j3⟩ := ih (q ++ (wArgs t.l g).2.1) H2 _ _ Qz2 (ws ++ ws1) (Vg61 b Qz2 (.ptr H.length 0) (.v (.bool true))) (by
    rw [qC_app]
    have : qC (wArgs t.l g).2.1 = cL t.l := hwl.2.2
    omega)
   (fun p hp => by
    rcases List.mem_append.1 hp with hp | hp
    ·exact hq' p hp
    ·have : p.2 ∈ comps t.l := by rw [← wArgs_ws t.l g]; exact List.mem_map.2 ⟨p, hp, rfl⟩
     have := List.mem_filter.1 this
     exact ⟨wfL_mem wl _ this.1, this.2⟩)
   cp2 hQ2 (AllR.app hW hW1) (by have := gb2.1; omega)
   (by rw [List.length_append, List.length_cons, List.map_append, List.sum_append, e1, hwl.1]; omega)
   (by rw [hwl.2.1, List.length_append]; omega) (by rw [List.map_append, List.sum_append, e1]; omega) rfl
  refine ⟨H', vs', j1, ?_, ((Gb.app hB _).trans (rs1.gb.trans gb2)).trans j3⟩
  rw [getQ]
  simp only
  rw [List.append_assoc] at j2
  exact j2
theorem getQ_met : ∀ (n : Nat) (q : List (Nat × Tm)) (g : Sg), qC q ≤ n → (∀ p ∈ q, wfT p.2 ∧ isC p.2 = true) → (getQ n q g).2.met.length ≤ g.met.length + (q.map fun p => kT p.2).sum
 | 0, [], g, _, _ => by simp [getQ]
 | 0, p :: q, g, hn, hq => by
  have := cT_comp (hq p (by simp)).2
  simp [qC] at hn; omega
 | n + 1, [], g, _, _ => by simp [getQ]
 | n + 1, (r, t) :: q, g, hn, hq => by
  have h1 := hq (r, t) (by simp)
  simp only at h1
  have h2 := cT_comp h1.2
  have hk := kT_comp h1.1 h1.2
  obtain ⟨w1, w2, w3⟩ := wArgs_len t.l g
  have wm := wArgs_met t.l g
  have e1 : qC ((r, t) :: q) = cT t + qC q := by simp [qC]
  have e2 : qC (wArgs t.l g).2.1 = cL t.l := w3
  have e3 : ((wArgs t.l g).2.1.map fun p => kT p.2).sum = ((comps t.l).map kT).sum := by
   rw [← wArgs_ws t.l g, List.map_map]; rfl
  have ih := getQ_met n (q ++ (wArgs t.l g).2.1) (wArgs t.l g).2.2
   (by rw [qC_app]; omega)
   (fun p hp => by
    rcases List.mem_append.1 hp with hp | hp
    ·exact hq p (by simp [hp])
    ·have : p.2 ∈ comps t.l := by rw [← wArgs_ws t.l g]; exact List.mem_map.2 ⟨p, hp, rfl⟩
     have := List.mem_filter.1 this
     exact ⟨wfL_mem h1.1.l _ this.1, this.2⟩)
  rw [List.map_append, List.sum_append, e3] at ih
  simp only [getQ, List.map_cons, List.sum_cons]
  omega
theorem getT_met {t : Tm} (h : wfT t) (r : Nat) (g : Sg) : (getT r g t).2.met.length ≤ g.met.length + kT t := by
 cases hc : isC t with
 | true =>
  have := getQ_met (cT t) [(r, t)] g (by simp [qC]) (by simp [h, hc])
  rw [getT, if_pos hc]
  simpa using this
 | false =>
  have := pSg_len g t
  have hz : 1 ≤ kT t := by cases t; rw [kT, zT]; omega
  rw [getT, if_neg (by simp [hc])]
  simp only; omega
theorem getT2_ok (c : Dp h b rl m code g) {a : AV} {t : Tm} (ha : IsT a t) (hw : wfT t) {r : Nat} (hcl : code.length + kT t ≤ 900000) (hnx : g.next + cT t ≤ 1900000) (hml : g.met.length + kT t ≤ 890000) :
  ∃ h', callW F 29 [.ptr b 0, .v (.int .i64 r), a] h = some (.tup [], h') ∧ Dp h' b rl m (code ++ (getT r g t).1) (getT r g t).2 ∧ Rs [b, rl, m] h h' := by
 obtain ⟨hlb, hlr, hlt, _⟩ := c.mb
 have hbe : AO.below 0 (.box 32 a.cells) = true := ha.bel
 have hf := ha.facts
 have hz : 1 ≤ kT t := by cases t; rw [kT, zT]; omega
 have cpa := c.app (l := [.box 32 a.cells]) (by simp [below_mono (Nat.zero_le _) _ hbe])
 have gba : Gb h.length [b, rl, m] h (h ++ [.box 32 a.cells]) := Gb.app (Nat.le_refl _) _
 have bxt : bx h 32 (some a.cells) = some (.ptr h.length 0, h ++ [.box 32 a.cells]) := rfl
 have ldt : Q76 (h ++ [.box 32 a.cells]) true 4 (.ptr h.length 0) = some a := hf.2.2.2.1 h 32
 have cl := hf.2.2.2.2
 -- what is to be shown
 suffices step : ∃ vs H', exec (callW F) (900001 + cT t) c29.body (start c29 [.ptr b 0, .v (.int .i64 r), a]) (h ++ []) = some (.normal, vs, H') ∧ Dp H' b rl m (code ++ (getT r g t).1) (getT r g t).2 ∧ Gb h.length [b, rl, m] h H' by
  obtain ⟨vs, H', st, cp2, gb⟩ := step
  obtain ⟨h3, L, he, cp3, rs3⟩ := c.pre cp2 gb
  refine ⟨h3, callW_own (c := c29) rfl rfl (900001 + cT t) ?_, cp3, rs3⟩
  rw [st, he]
  exact leaveN _ (.inr rfl) rfl rs3.1 (by rw [← rs3.1]; exact cp3.bel)
 rw [List.append_nil, show c29.body = (.seq (.region [] [] c29_0) (.seq (.region [] [] c29_1) (.block 0 (.seq (.region [] [] c29_2) (.cond (.var 7) (.region [] [] c29_3) (.seq (.region [] [] c29_4) (.cond (.var 8) (.region [] [] c29_5) (.seq (.region [] [] c29_6) (.cond (.var 9) (.region [] [] c29_7) (.seq (.region [] [] c29_8) (.cond (.var 10) (.seq (.region [] [] c29_9) (.block 1 (.loop Kg61 [] c29_13))) .skip))))))))))) from rfl]
 cases hc : isC t with
 | false =>
  have hk := wf_k hw hc
  have hgt : getT r g t = ([pIns 1 r g t], pSg g t) := by rw [getT, if_neg (by simp [hc])]
  rw [hgt]
  cases ha with
  | mk k s n cc l2 hcc =>
  have hob : (h ++ [AO.box 32 [.v (.int .i64 k), .v (.string s), .v (.int .i64 n), cc]])[h.length]? = some (.box 32 [.v (.int .i64 k), .v (.string s), .v (.int .i64 n), cc]) := bxl
  have o0 := tm_ld0 hob
  have o1 := tm_ld1 hob
  have o2 : Q76 (h ++ [AO.box 32 [.v (.int .i64 k), .v (.string s), .v (.int .i64 n), cc]]) false 1 (.ptr h.length 2) = some (.v (.int .i64 n)) := by rw [bx_ld hob]; rfl
  simp only [Tm.k] at hk
  simp only [AV.cells] at cpa ldt bxt cl gba
  generalize c29_13 = bb1
  rcases hk with rfl | rfl | rfl
  ·obtain ⟨H2, g1, cp2, rs2⟩ := var_ok cpa (by omega) (by omega) (.mk 1 s n cc l2 hcc) rfl (op := 1) (op2 := 2) (a := r) rfl
   refine ⟨[.ptr b 0, .v (.int .i64 r), .agg [.v (.int .i64 1), .v (.string s), .v (.int .i64 n), cc], .ptr h.length 0, .v undef, .v undef, .v (.int .i64 1), .v (.bool true), .v undef, .v undef, .v undef, .v undef], H2, ?_, cp2, gba.trans rs2.gb⟩
   have e1 : ((1 : Int) == 1) = true := rfl
   simp only [c29, start, List.replicate, c29_0, c29_1, c29_2, c29_3, bxt, cl, o0, ldt, e1, g1, e_callh, List.map_cons, List.map_nil, Q0, Q1, Q2, Q3, Q4, Q5, Q6, Q7, Q8, Q9, Q10, Q11, Q12, Q13, Q14, Q15, Q16, Q17, Q18, Q19, Q20, Q21, Q22, Q23, Q24, Q25, Q26, Q27, Q28, Q29, Q30, Q31, Q32, Q33, Q35, Q36, Q37, Q38, Q39, Q40, Q41, Q42, Q43, Q44, Q45, Q46, Q47, Q48, Q49, Q50, Q51, Q52, Q53, Q54, Q55, Q56, Q57, Q58, Q59, Q60, Q61, Q62, Q63, Q64, Q65, Q66, Q67, Q68, Q69, Q70, Q71, Q72, Q73, Q99, Q100, Q101, Q102, Q103, Q74, Q75, Q77, Q78, Q79, Q80, Q81, Q82, Q83, Q84, clr, List.length_nil, List.length_cons, List.getElem?_cons_zero, List.getElem?_cons_succ, Nat.reduceAdd, Nat.zero_add, Nat.add_zero, Nat.reduceLeDiff, Nat.reduceSub, ↓reduceIte, List.drop_succ_cons, List.drop_zero, List.take_succ_cons, List.take_zero, Bool.false_eq_true, List.nil_append, List.cons_append, Bool.not_true, Bool.not_false, cond_true, cond_false, bne, Q85, Q86, Q87, Q88, Q89, Q90, Q91, Q92, Q93, Q94, Q95, Q96, Q97, Q98, Q110, Q111, Q116, Q117, Q118, Q119, Q120, Q121, Q122, Q123, Option.map_some, Option.map_none]
  ·obtain ⟨H2, g1, cp2, rs2⟩ := cpa.lay (by omega) ⟨3, r, 0, s, 0⟩
   have bld : ∀ (vars env : List AV) (x : AV), evBuild vars (.v (.string s) :: x :: .v (.int .i64 r) :: env) [.v (.int .i64 0), .v (.int .i64 0), .v (.int .i64 0), .v (.string ⟨#[]⟩), .v (.int .i64 0)] [(0, 1, (.k (.int .i64 3))), (1, 1, (.loc 2)), (3, 1, (.loc 0))] = some [.v (.int .i64 3), .v (.int .i64 r), .v (.int .i64 0), .v (.string s), .v (.int .i64 0)] := fun _ _ _ => rfl
   refine ⟨[.ptr b 0, .v (.int .i64 r), .agg [.v (.int .i64 2), .v (.string s), .v (.int .i64 n), cc], .ptr h.length 0, .v undef, .v undef, .v (.int .i64 2), .v (.bool false), .v (.bool true), .v undef, .v undef, .v undef], H2, ?_, cp2, gba.trans rs2.gb⟩
   have e1 : ((2 : Int) == 1) = false := rfl
   have e2 : ((2 : Int) == 2) = true := rfl
   simp only [o5] at g1
   simp only [c29, start, List.replicate, c29_0, c29_1, c29_2, c29_4, c29_5, bxt, cl, o0, o1, e1, e2, bld, Q106, Q107, toL, g1, e_callh, List.map_cons, List.map_nil, Q0, Q1, Q2, Q3, Q4, Q5, Q6, Q7, Q8, Q9, Q10, Q11, Q12, Q13, Q14, Q15, Q16, Q17, Q18, Q19, Q20, Q21, Q22, Q23, Q24, Q25, Q26, Q27, Q28, Q29, Q30, Q31, Q32, Q33, Q35, Q36, Q37, Q38, Q39, Q40, Q41, Q42, Q43, Q44, Q45, Q46, Q47, Q48, Q49, Q50, Q51, Q52, Q53, Q54, Q55, Q56, Q57, Q58, Q59, Q60, Q61, Q62, Q63, Q64, Q65, Q66, Q67, Q68, Q69, Q70, Q71, Q72, Q73, Q99, Q100, Q101, Q102, Q103, Q74, Q75, Q77, Q78, Q79, Q80, Q81, Q82, Q83, Q84, clr, List.length_nil, List.length_cons, List.getElem?_cons_zero, List.getElem?_cons_succ, Nat.reduceAdd, Nat.zero_add, Nat.add_zero, Nat.reduceLeDiff, Nat.reduceSub, ↓reduceIte, List.drop_succ_cons, List.drop_zero, List.take_succ_cons, List.take_zero, Bool.false_eq_true, List.nil_append, List.cons_append, Bool.not_true, Bool.not_false, cond_true, cond_false, bne, Q85, Q86, Q87, Q88, Q89, Q90, Q91, Q92, Q93, Q94, Q95, Q96, Q97, Q98, Q110, Q111, Q116, Q117, Q118, Q119, Q120, Q121, Q122, Q123, Option.map_some, Option.map_none]
  ·obtain ⟨H2, g1, cp2, rs2⟩ := cpa.lay (by omega) ⟨4, r, 0, nos, n⟩
   have bld : ∀ (vars env : List AV) (x : AV), evBuild vars (.v (.int .i64 n) :: x :: .v (.int .i64 r) :: env) [.v (.int .i64 0), .v (.int .i64 0), .v (.int .i64 0), .v (.string ⟨#[]⟩), .v (.int .i64 0)] [(0, 1, (.k (.int .i64 4))), (1, 1, (.loc 2)), (4, 1, (.loc 0))] = some [.v (.int .i64 4), .v (.int .i64 r), .v (.int .i64 0), .v (.string ⟨#[]⟩), .v (.int .i64 n)] := fun _ _ _ => rfl
   refine ⟨[.ptr b 0, .v (.int .i64 r), .agg [.v (.int .i64 3), .v (.string s), .v (.int .i64 n), cc], .ptr h.length 0, .v undef, .v undef, .v (.int .i64 3), .v (.bool false), .v (.bool false), .v (.bool true), .v undef, .v undef], H2, ?_, cp2, gba.trans rs2.gb⟩
   have e1 : ((3 : Int) == 1) = false := rfl
   have e2 : ((3 : Int) == 2) = false := rfl
   have e3 : ((3 : Int) == 3) = true := rfl
   simp only [o5, nos] at g1
   simp only [c29, start, List.replicate, c29_0, c29_1, c29_2, c29_4, c29_6, c29_7, bxt, cl, o0, o2, e1, e2, e3, bld, Q106, Q107, toL, g1, e_callh, List.map_cons, List.map_nil, Q0, Q1, Q2, Q3, Q4, Q5, Q6, Q7, Q8, Q9, Q10, Q11, Q12, Q13, Q14, Q15, Q16, Q17, Q18, Q19, Q20, Q21, Q22, Q23, Q24, Q25, Q26, Q27, Q28, Q29, Q30, Q31, Q32, Q33, Q35, Q36, Q37, Q38, Q39, Q40, Q41, Q42, Q43, Q44, Q45, Q46, Q47, Q48, Q49, Q50, Q51, Q52, Q53, Q54, Q55, Q56, Q57, Q58, Q59, Q60, Q61, Q62, Q63, Q64, Q65, Q66, Q67, Q68, Q69, Q70, Q71, Q72, Q73, Q99, Q100, Q101, Q102, Q103, Q74, Q75, Q77, Q78, Q79, Q80, Q81, Q82, Q83, Q84, clr, List.length_nil, List.length_cons, List.getElem?_cons_zero, List.getElem?_cons_succ, Nat.reduceAdd, Nat.zero_add, Nat.add_zero, Nat.reduceLeDiff, Nat.reduceSub, ↓reduceIte, List.drop_succ_cons, List.drop_zero, List.take_succ_cons, List.take_zero, Bool.false_eq_true, List.nil_append, List.cons_append, Bool.not_true, Bool.not_false, cond_true, cond_false, bne, Q85, Q86, Q87, Q88, Q89, Q90, Q91, Q92, Q93, Q94, Q95, Q96, Q97, Q98, Q110, Q111, Q116, Q117, Q118, Q119, Q120, Q121, Q122, Q123, Option.map_some, Option.map_none]
 | true =>
  have hk4 : t.k = 4 := of_decide_eq_true hc
  have hwt' : Wt (.agg (.v (.int .i64 (r : Int)) :: a.cells)) (r, t) := ⟨a, ha, rfl⟩
  have b5 := fun H => bs5 hwt'.elm H
  have sw := fun H => hwt'.elm.snap H
  have bd5 := fun vars env => bd5_ok ha r vars env
  have o0 : Q76 (h ++ [AO.box 32 a.cells]) false 1 (.ptr h.length 0) = some (.v (.int .i64 4)) := by rw [box_k ha, hk4]
  obtain ⟨H', vs', j1, j2, j3⟩ := q2_loop (b := b) (rl := rl) (m := m) (B := h.length) (K := 900001 + cT t) hlb hlr hlt (cT t) [(r, t)] (h ++ [.box 32 a.cells]) code g (.slc 5 true true [.agg (.v (.int .i64 (r : Int)) :: a.cells)]) [.agg (.v (.int .i64 (r : Int)) :: a.cells)]
   [.ptr b 0, .v (.int .i64 r), a, .ptr h.length 0, .slc 5 true true [.agg (.v (.int .i64 (r : Int)) :: a.cells)], .v undef, .v (.int .i64 4), .v (.bool false), .v (.bool false), .v (.bool false), .v (.bool true), .v undef] (by simp [qC]) (by simp [hw, hc]) cpa (.slc _) (.one hwt') (by simp) (by simpa using hcl) (by simp only [List.length_singleton]; omega) (by simpa using hml) rfl
  refine ⟨vs', H', ?_, by rw [getT, if_pos hc]; exact j2, gba.trans j3⟩
  have j1' := loop_more j1 (m := 900001 + cT t) (by omega)
  have e1 : ((4 : Int) == 1) = false := rfl
  have e2 : ((4 : Int) == 2) = false := rfl
  have e3 : ((4 : Int) == 3) = false := rfl
  have e4 : ((4 : Int) == 4) = true := rfl
  generalize c29_13 = bb1 at j1' ⊢
  simp only [c29, start, List.replicate, c29_0, c29_1, c29_2, c29_4, c29_6, c29_8, c29_9, bxt, cl, o0, ldt, e1, e2, e3, e4, bd5, b5, sw, Q104, Q106, Q107, toL, e_callh, List.map_cons, List.map_nil, j1', Q0, Q1, Q2, Q3, Q4, Q5, Q6, Q7, Q8, Q9, Q10, Q11, Q12, Q13, Q14, Q15, Q16, Q17, Q18, Q19, Q20, Q21, Q22, Q23, Q24, Q25, Q26, Q27, Q28, Q29, Q30, Q31, Q32, Q33, Q35, Q36, Q37, Q38, Q39, Q40, Q41, Q42, Q43, Q44, Q45, Q46, Q47, Q48, Q49, Q50, Q51, Q52, Q53, Q54, Q55, Q56, Q57, Q58, Q59, Q60, Q61, Q62, Q63, Q64, Q65, Q66, Q67, Q68, Q69, Q70, Q71, Q72, Q73, Q99, Q100, Q101, Q102, Q103, Q74, Q75, Q77, Q78, Q79, Q80, Q81, Q82, Q83, Q84, clr, List.length_nil, List.length_cons, List.getElem?_cons_zero, List.getElem?_cons_succ, Nat.reduceAdd, Nat.zero_add, Nat.add_zero, Nat.reduceLeDiff, Nat.reduceSub, ↓reduceIte, List.drop_succ_cons, List.drop_zero, List.take_succ_cons, List.take_zero, Bool.false_eq_true, List.nil_append, List.cons_append, Bool.not_true, Bool.not_false, cond_true, cond_false, bne, Q85, Q86, Q87, Q88, Q89, Q90, Q91, Q92, Q93, Q94, Q95, Q96, Q97, Q98, Q110, Q111, Q116, Q117, Q118, Q119, Q120, Q121, Q122, Q123, Option.map_some, Option.map_none]
end
end Go.AE.YtghgbbiklkpbnaaDoor
end

section
namespace Go.AE.YtghgbbiklkpbnaaDoor
open Go Go.AE Go.Proofs.YtghgbbiklkpbnaaDoor

theorem setA_met : ∀ (l : List Tm) (ks : List Nat) (g : Sg), (setA g l ks).2.met.length ≤ g.met.length + l.length
 | [], ks, g => by cases ks <;> simp [setA]
 | t :: l, [], g => by simp [setA]
 | t :: l, k :: ks, g => by
  rw [setA]
  split
  ·have := setA_met l ks g
   simp only [List.length_cons]; omega
  ·have := setA_met l ks (pSg g t)
   have := pSg_len g t
   simp only [List.length_cons]; omega
mutual
theorem putC_met : ∀ (t : Tm) (r : Nat) (g : Sg), (putC r g t).2.met.length ≤ g.met.length + zL t.l
 | .mk k s n l, r, g => by
  have h1 := putA_met l g
  have h2 := setA_met l (putA g l).2.1 (putA g l).2.2
  rw [putC]
  simp only [Tm.l]
  omega
theorem putA_met : ∀ (l : List Tm) (g : Sg), (putA g l).2.2.met.length + l.length ≤ g.met.length + zL l
 | [], g => by simp [putA]
 | .mk k s n m :: l, g => by
  rw [putA, zL, zT]
  by_cases hk : k = 4
  ·have h1 := putC_met (.mk k s n m) g.next { g with next := g.next + 1 }
   have h2 := putA_met l (putC g.next { g with next := g.next + 1 } (.mk k s n m)).2
   simp only [hk, if_true, Tm.l, List.length_cons] at h1 h2 ⊢
   omega
  ·have h2 := putA_met l g
   simp only [hk, if_false, List.length_cons] at h2 ⊢
   omega
end
inductive Ar (H : List AO) (B : Nat) : AV → List Nat → Prop
 | nil : Ar H B (.v (.slice none 0 0)) []
 | own (id ver : Nat) (ks : List Nat) (hr : H[id]? = some (.row 3 1 ver (ks.map fun k : Nat => iv k) 0)) (hB : B ≤ id) : Ar H B (.own 1 id ver 0 ks.length) ks
section
variable {h H : List AO} {B b rl m : Nat} {code : List Op5} {g : Sg} {x : AV} {ks : List Nat}
theorem Ar.of {H' : List AO} (q : Ar H B x ks) (e : ∀ id, B ≤ id → id < H.length → H'[id]? = H[id]?) : Ar H' B x ks := by
 cases q with
 | nil => exact .nil
 | own id ver ks hr hB => exact .own id ver ks ((e id hB (List.getElem?_eq_some_iff.1 hr).1).trans hr) hB
theorem Ar.app (q : Ar H B x ks) (l : List AO) : Ar (H ++ l) B x ks := q.of fun id _ h => List.getElem?_append_left h
theorem Ar.rsB {H' : List AO} (q : Ar H B x ks) (hb : b < B) (hr : rl < B) (hm : m < B) (rs : Rs [b, rl, m] H H') : Ar H' B x ks :=
 q.of fun id hB _ => rs.2 id (by simp; omega)
theorem Ar.el (q : Ar H B x ks) {i k : Nat} (hk : ks[i]? = some k) : ∃ y, iaV H 1 x (some i) = some y ∧ Q76 H false 1 y = some (iv k) := by
 cases q with
 | nil => simp at hk
 | own id ver ks hr hB =>
  have hi := (List.getElem?_eq_some_iff.1 hk).1
  refine ⟨.ep 1 id ver i 0, row_ia hr (by simp) hi, row_ld hr (i := i) (e := iv k) (by rw [List.getElem?_map, hk]; rfl) (el_iv k)⟩
theorem Dp.addA (c : Dp H b rl m code g) (q : Ar H B x ks) (hB : B ≤ H.length) (hb : b < B) (hr : rl < B) (hm : m < B) (k : Nat) (hf : ks.length ≤ 950000) :
  ∃ x' H', evAppend H 3 1 8 x (.slc 1 true true [.v (.int .i64 k)]) = some (x', H') ∧ Dp H' b rl m code g ∧ Ar H' B x' (ks ++ [k]) ∧ Gb B [b, rl, m] H H' := by
 have fit : fits (ks.length + 1) 8 = true := fits_small (by omega) (by omega)
 rw [evAppend, elems_one]
 cases q with
 | nil =>
  have fit' : fits 1 8 = true := by simpa using fit
  exact ⟨.own 1 H.length 0 0 1, H ++ [.row 3 1 0 [iv k] 0], by simp [evAppendL, fit', iv], c.app (by rfl), Ar.own (H := H ++ [.row 3 1 0 [iv k] 0]) (B := B) H.length 0 [k] (by simp) hB, Gb.app hB _⟩
 | own id ver ks hr' hBi =>
  have hlt := (List.getElem?_eq_some_iff.1 hr').1
  have ht : rowT H id = 3 := by simp only [rowT, hr']
  have rs : ∀ j, j ≠ id → (H.set id (.row 3 1 (ver + 1) ((ks ++ [k]).map fun k : Nat => iv k) 0))[j]? = H[j]? := fun j hj => List.getElem?_set_ne (Ne.symm hj)
  refine ⟨.own 1 id (ver + 1) 0 (ks.length + 1), H.set id (.row 3 1 (ver + 1) ((ks ++ [k]).map fun k : Nat => iv k) 0), ?_, c.of ?_ ?_, ?_, ⟨by simp, fun j h1 h2 => rs j (by omega)⟩⟩
  ·have e : ((ks.map fun k : Nat => iv k).drop 0).take ks.length = ks.map fun k : Nat => iv k := by rw [List.drop_zero, List.take_of_length_le (by simp)]
   simp only [evAppendL, if_true, row_at hr' (show 0 + ks.length ≤ (ks.map fun k : Nat => iv k).length by simp), ht, Nat.zero_le, and_self, e]
   rw [if_neg (by simp), if_pos (by simpa using fit), List.map_append]
   rfl
  ·intro j hj
   simp only [List.mem_cons, List.not_mem_nil, or_false] at hj
   exact rs j (by omega)
  ·have hb := c.bel
   rw [List.all_eq_true] at hb ⊢
   intro o ho
   rw [List.length_set]
   rcases List.mem_or_eq_of_mem_set ho with h' | rfl
   ·exact hb o h'
   ·rfl
  ·have := Ar.own (H := H.set id (.row 3 1 (ver + 1) ((ks ++ [k]).map fun k : Nat => iv k) 0)) (B := B) id (ver + 1) (ks ++ [k]) (by simp [hlt]) hBi
   rwa [List.length_append, List.length_singleton] at this
end
def K90 : List Bool := [true, true, false, true, true, false, false, false, false, true, true, true, false, false, false, false, false, false, false, false, false, false]
def V90 (b B n : Nat) (r : Int) (x : AV) (c : AV) (i : Int) (x5 x6 x12 x13 : AV) : List AV := [.ptr b 0, .v (.int .i64 r), .junk, .ptr B 0, x, x5, x6, .junk, .junk, c, .v (.int .i64 n), .v (.int .i64 i), x12, x13, .junk, .junk, .junk, .junk, .junk, .junk, .junk, .junk]
theorem comp1_loop {K b rl m B B' : Nat} (hbB : b < B) (hrB : rl < B) (hmB : m < B) {r : Int} {c : AV} {es : List AV} {l : List Tm} (hs : Sl 4 c es) (hes : All2 es l) (hwf : wfL l) (hm : es.length ≤ 900000)
  (hcall : ∀ t ∈ l, isC t = true → ∀ (e : AV) (H : List AO) (code : List Op5) (g : Sg) (k : Nat), IsT e t → Dp H b rl m code g → code.length + 2 * zT t ≤ 900000 → g.next + zT t ≤ 3000001 → g.met.length + zT t ≤ 900000 →
   ∃ H', callW F 47 [.ptr b 0, .v (.int .i64 k), e] H = some (.tup [], H') ∧ Dp H' b rl m (code ++ (putC k g t).1) (putC k g t).2 ∧ Rs [b, rl, m] H H') :
  ∀ (l' : List Tm) (i : Nat) (H : List AO) (code : List Op5) (g : Sg) (x : AV) (ks : List Nat) (vars : List AV), i + l'.length = es.length → l' = l.drop i → ks.length = i → Dp H b rl m code g → Ar H B x ks → B ≤ H.length →
   code.length + 2 * zL l' ≤ 900000 → g.next + zL l' ≤ 3000000 → g.met.length + zL l' ≤ 900000 → clr K90 vars = V90 b B' es.length r x c i .junk .junk .junk .junk →
   ∃ H' x', loopN (exec (callW F) K c47_11) K90 (l'.length + 1) vars H = some (.exit 0, V90 b B' es.length r x' c es.length .junk .junk (.v (.bool false)) .junk, H') ∧
    Dp H' b rl m (code ++ (putA g l').1) (putA g l').2.2 ∧ Ar H' B x' (ks ++ (putA g l').2.1) ∧ Gb B [b, rl, m] H H' := by
 have hll := hes.length
 intro l'
 induction l' with
 | nil =>
  intro i H code g x ks vars hil _ hks cp hA hB _ _ _ hv
  have hil : i = es.length := by simpa using hil
  subst hil
  have hlt := lt_f (n := es.length)
  refine ⟨H, x, ?_, by rw [putA]; simpa using cp, by rw [putA]; simpa using hA, .refl H⟩
  rw [List.length_nil, Nat.zero_add]
  refine loop_exit ?_
  rw [hv]
  simp only [V90, c47_11, c47_3, hlt, Q0, Q1, Q2, Q3, Q4, Q5, Q6, Q7, Q8, Q9, Q10, Q11, Q12, Q13, Q14, Q15, Q16, Q17, Q18, Q19, Q20, Q21, Q22, Q23, Q24, Q25, Q26, Q27, Q28, Q29, Q30, Q31, Q32, Q33, Q35, Q36, Q37, Q38, Q39, Q40, Q41, Q42, Q43, Q44, Q45, Q46, Q47, Q48, Q49, Q50, Q51, Q52, Q53, Q54, Q55, Q56, Q57, Q58, Q59, Q60, Q61, Q62, Q63, Q64, Q65, Q66, Q67, Q68, Q69, Q70, Q71, Q72, Q73, Q99, Q100, Q101, Q102, Q103, Q74, Q75, Q77, Q78, Q79, Q80, Q81, Q82, Q83, Q84, clr, List.length_nil, List.length_cons, List.getElem?_cons_zero, List.getElem?_cons_succ, Nat.reduceAdd, Nat.zero_add, Nat.add_zero, Nat.reduceLeDiff, Nat.reduceSub, ↓reduceIte, List.drop_succ_cons, List.drop_zero, List.take_succ_cons, List.take_zero, Bool.false_eq_true, List.nil_append, List.cons_append, Bool.not_true, Bool.not_false, cond_true, cond_false, bne, Q85, Q86, Q87, Q88, Q89, Q90, Q91, Q92, Q93, Q94, Q95, Q96, Q97, Q98, Q110, Q111, Q116, Q117, Q118, Q119, Q120, Q121, Q122, Q123, Option.map_some, Option.map_none, Q34]
 | cons t l' ih =>
  intro i H code g x ks vars hil hd hks cp hA hB hcl hnx hml hv
  have hil' : i < es.length := by simp at hil; omega
  have hll' : i < l.length := by omega
  have hti : l[i] = t := by
   have h1 := List.drop_eq_getElem_cons hll'
   rw [← hd] at h1
   exact (List.cons.inj h1).1.symm
  have hd' : l' = l.drop (i + 1) := by
   have h1 := List.drop_eq_getElem_cons hll'
   rw [← hd] at h1
   exact (List.cons.inj h1).2
  have hT := hes.at hil' hll'
  rw [hti] at hT
  have htm : t ∈ l := by rw [← hti]; exact List.getElem_mem hll'
  have he : es[i]? = some es[i] := List.getElem?_eq_getElem hil'
  generalize es[i] = e at hT he
  have hf := hT.facts
  have q1 := fun h : List AO => hs.ia he h
  have hlt := lt_t hil'
  have hw := wrap_succ hil' (small_maxM hm)
  have q9 : ∀ h : List AO, bx h 32 (ofVal (.agg #[(.int .i64 0), (.string ⟨#[]⟩), (.int .i64 0), (.slice none 0 0)])).cl = some (.ptr h.length 0, h ++ [.box 32 [.v (.int .i64 0), .v (.string ⟨#[]⟩), .v (.int .i64 0), .v (.slice none 0 0)]]) := fun h => by rw [q9z]; rfl
  rw [show (t :: l').length + 1 = (l'.length + 1) + 1 from rfl]
  simp only [zL] at hcl hnx hml
  simp only [List.length_cons] at hil
  have hbe : AO.below 0 (.box 32 e.cells) = true := hT.bel
  have cpa := cp.app (l := [.box 32 e.cells]) (by simp [below_mono (Nat.zero_le _) _ hbe])
  have gba : Gb B [b, rl, m] H (H ++ [.box 32 e.cells]) := Gb.app hB _
  have bk := box_k hT
  have b1 : ∀ (H : List AO) (k : Int), bs1 H 1 (some (.v (.int .i64 k))) = some (.slc 1 true true [.v (.int .i64 k)], H) := fun H k => bs1_some rfl rfl
  have hz1 : 1 ≤ zT t := by cases t; rw [zT]; omega
  cases hct : isC t with
  | false =>
   have hk4 : (t.k == 4) = false := by
    have : ¬ t.k = 4 := of_decide_eq_false hct
    simpa using this
   obtain ⟨x', H2, a2, cp2, hA2, gb2⟩ := cpa.addA (hA.app _) (by simp; omega) hbB hrB hmB 0 (by omega)
   have a2' : evAppend (H ++ [.box 32 e.cells]) 3 1 8 x (.slc 1 true true [.v (.int .i64 0)]) = some (x', H2) := a2
   have st : exec (callW F) K c47_11 (V90 b B' es.length r x c i .junk .junk .junk .junk) H = some (.normal, V90 b B' es.length r x' c ((i + 1 : Nat) : Int) (.ptr H.length 0) (.v (.int .i64 0)) (.v (.bool true)) (.v (.bool false)), H2) := by
    simp only [V90, c47_11, c47_3, c47_4, c47_5, c47_6, c47_9, c47_10, hlt, hw, q1, hf, bk, hk4, q9, b1, snap_int, Q104, e_append, a2', Q0, Q1, Q2, Q3, Q4, Q5, Q6, Q7, Q8, Q9, Q10, Q11, Q12, Q13, Q14, Q15, Q16, Q17, Q18, Q19, Q20, Q21, Q22, Q23, Q24, Q25, Q26, Q27, Q28, Q29, Q30, Q31, Q32, Q33, Q35, Q36, Q37, Q38, Q39, Q40, Q41, Q42, Q43, Q44, Q45, Q46, Q47, Q48, Q49, Q50, Q51, Q52, Q53, Q54, Q55, Q56, Q57, Q58, Q59, Q60, Q61, Q62, Q63, Q64, Q65, Q66, Q67, Q68, Q69, Q70, Q71, Q72, Q73, Q99, Q100, Q101, Q102, Q103, Q74, Q75, Q77, Q78, Q79, Q80, Q81, Q82, Q83, Q84, clr, List.length_nil, List.length_cons, List.getElem?_cons_zero, List.getElem?_cons_succ, Nat.reduceAdd, Nat.zero_add, Nat.add_zero, Nat.reduceLeDiff, Nat.reduceSub, ↓reduceIte, List.drop_succ_cons, List.drop_zero, List.take_succ_cons, List.take_zero, Bool.false_eq_true, List.nil_append, List.cons_append, Bool.not_true, Bool.not_false, cond_true, cond_false, bne, Q85, Q86, Q87, Q88, Q89, Q90, Q91, Q92, Q93, Q94, Q95, Q96, Q97, Q98, Q110, Q111, Q116, Q117, Q118, Q119, Q120, Q121, Q122, Q123, Option.map_some, Option.map_none]
   rw [loop_normal (by rw [hv]; exact st)]
   have hp : putA g (t :: l') = ((putA g l').1, 0 :: (putA g l').2.1, (putA g l').2.2) := by
    cases t with | mk k s n m' =>
    have : ¬ k = 4 := of_decide_eq_false hct
    rw [putA, if_neg this]
   obtain ⟨H', x'', k1, k2, k3, k4⟩ := ih (i + 1) H2 code g x' (ks ++ [0]) (V90 b B' es.length r x' c ((i + 1 : Nat) : Int) (.ptr H.length 0) (.v (.int .i64 0)) (.v (.bool true)) (.v (.bool false))) (by omega) hd' (by simp [hks]) cp2 hA2 (by have := gb2.1; simp at this; omega) (by omega) (by omega) (by omega) rfl
   rw [hp]
   rw [List.append_assoc, List.singleton_append] at k3
   exact ⟨H', x'', k1, k2, k3, (gba.trans gb2).trans k4⟩
  | true =>
   have hk4 : (t.k == 4) = true := by
    have : t.k = 4 := of_decide_eq_true hct
    simpa using this
   obtain ⟨H1, t1, cp1, rs1⟩ := cpa.temp (by omega)
   have b1' : code.length + 2 * zT t ≤ 900000 := by omega
   have b2' : ({ g with next := g.next + 1 } : Sg).next + zT t ≤ 3000001 := by show g.next + 1 + zT t ≤ 3000001; omega
   have b3' : ({ g with next := g.next + 1 } : Sg).met.length + zT t ≤ 900000 := by show g.met.length + zT t ≤ 900000; omega
   obtain ⟨H2, g2, cp2, rs2⟩ := hcall t htm hct e H1 code { g with next := g.next + 1 } g.next hT cp1 b1' b2' b3'
   have rsT := rs1.trans rs2
   have hl2 : H2.length = H.length + 1 := by rw [rsT.1]; simp
   obtain ⟨x', H3, a3, cp3, hA3, gb3⟩ := cp2.addA ((hA.app _).rsB hbB hrB hmB rsT) (by omega) hbB hrB hmB g.next (by omega)
   have lda : Q76 H1 true 4 (.ptr H.length 0) = some e := by
    rw [bx_ld (cp.obj rs1), if_pos (by have := hT.cl.2; omega), List.drop_zero]; exact hT.asEl
   have st : exec (callW F) K c47_11 (V90 b B' es.length r x c i .junk .junk .junk .junk) H = some (.normal, V90 b B' es.length r x' c ((i + 1 : Nat) : Int) (.ptr H.length 0) (.v (.int .i64 g.next)) (.v (.bool true)) (.v (.bool true)), H3) := by
    have bkH := bk H
    generalize hG : H ++ [AO.box 32 e.cells] = G at *
    simp only [V90, c47_11, c47_3, c47_4, c47_5, c47_6, c47_7, c47_8, c47_9, c47_10, hlt, hw, q1, hf, bkH, hk4, q9, hG, t1, lda, g2, b1, snap_int, Q104, e_append, a3, e_callh, List.map_cons, List.map_nil, Q0, Q1, Q2, Q3, Q4, Q5, Q6, Q7, Q8, Q9, Q10, Q11, Q12, Q13, Q14, Q15, Q16, Q17, Q18, Q19, Q20, Q21, Q22, Q23, Q24, Q25, Q26, Q27, Q28, Q29, Q30, Q31, Q32, Q33, Q35, Q36, Q37, Q38, Q39, Q40, Q41, Q42, Q43, Q44, Q45, Q46, Q47, Q48, Q49, Q50, Q51, Q52, Q53, Q54, Q55, Q56, Q57, Q58, Q59, Q60, Q61, Q62, Q63, Q64, Q65, Q66, Q67, Q68, Q69, Q70, Q71, Q72, Q73, Q99, Q100, Q101, Q102, Q103, Q74, Q75, Q77, Q78, Q79, Q80, Q81, Q82, Q83, Q84, clr, List.length_nil, List.length_cons, List.getElem?_cons_zero, List.getElem?_cons_succ, Nat.reduceAdd, Nat.zero_add, Nat.add_zero, Nat.reduceLeDiff, Nat.reduceSub, ↓reduceIte, List.drop_succ_cons, List.drop_zero, List.take_succ_cons, List.take_zero, Bool.false_eq_true, List.nil_append, List.cons_append, Bool.not_true, Bool.not_false, cond_true, cond_false, bne, Q85, Q86, Q87, Q88, Q89, Q90, Q91, Q92, Q93, Q94, Q95, Q96, Q97, Q98, Q110, Q111, Q116, Q117, Q118, Q119, Q120, Q121, Q122, Q123, Option.map_some, Option.map_none]
   rw [loop_normal (by rw [hv]; exact st)]
   have hp : putA g (t :: l') = ((putC g.next { g with next := g.next + 1 } t).1 ++ (putA (putC g.next { g with next := g.next + 1 } t).2 l').1, g.next :: (putA (putC g.next { g with next := g.next + 1 } t).2 l').2.1, (putA (putC g.next { g with next := g.next + 1 } t).2 l').2.2) := by
    cases t with | mk k s n m' =>
    have : k = 4 := of_decide_eq_true hct
    rw [putA, if_pos this]
   have hcl1 := putC_len g.next { g with next := g.next + 1 } (wfL_mem hwf t htm) hct
   have hkl := kT_le t
   have hnl := putC_next t g.next { g with next := g.next + 1 }
   have hml1 := putC_met t g.next { g with next := g.next + 1 }
   have hcz : cL t.l + 1 ≤ zT t := by
    cases t with | mk k s n m' =>
    have := cL_le m'
    rw [zT]; simp only [Tm.l]; omega
   have hcz2 : zL t.l ≤ zT t := by
    cases t with | mk k s n m' =>
    rw [zT]; simp only [Tm.l]; omega
   simp only at hml1
   obtain ⟨H', x'', k1, k2, k3, k4⟩ := ih (i + 1) H3 _ _ x' (ks ++ [g.next]) (V90 b B' es.length r x' c ((i + 1 : Nat) : Int) (.ptr H.length 0) (.v (.int .i64 g.next)) (.v (.bool true)) (.v (.bool true))) (by omega) hd' (by simp [hks]) cp3 hA3 (by have := gb3.1; omega) (by rw [List.length_append]; omega) (by rw [hnl]; simp only; omega) (by omega) rfl
   rw [hp]
   rw [List.append_assoc, List.singleton_append] at k3
   rw [List.append_assoc] at k2
   exact ⟨H', x'', k1, k2, k3, (gba.trans rsT.gb).trans (gb3.trans k4)⟩
end Go.AE.YtghgbbiklkpbnaaDoor
end
