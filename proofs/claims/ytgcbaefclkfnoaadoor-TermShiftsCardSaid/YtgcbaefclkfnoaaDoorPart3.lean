/- Texts of this claim, put together. -/
import Derived.Test.YtgcbaefclkfnoaaDoorPart2
import Derived.Test.YtgcbaefclkfnoaaDoorRows
import Derived.WalkKit
import Derived.ProofKit
import Derived.OpenShut
import Derived.ShutString
import Derived.ChangeOld
import Derived.Below
import Derived.SizedLaws
import Derived.Test.YtgcbaefclkfnoaaDoorTie
import Derived.Test.YtgcbaefclkfnoaaDoorCards
import Derived.Lib.LaidIn
import Derived.Lib.LaidU8T
import Derived.KernelRfl
import Derived.Handed
import Derived.SevenTiedAt
/-! Vars, and whether a number is among some. -/
section
set_option linter.unusedVariables false
set_option linter.unusedSimpArgs false
namespace Go.AE.YtgcbaefclkfnoaaDoor
open Go Go.AE Go.Proofs.YtgcbaefclkfnoaaDoor

def iv (n : Int) : AV := .v (.int .i64 n)
mutual
def placesT : Tm → List Int
  | .mk k _ n l => (if k = 1 then [n] else []) ++ placesL l
def placesL : List Tm → List Int
  | [] => []
  | t :: l => placesT t ++ placesL l
end
mutual
theorem places_len : ∀ t : Tm, (placesT t).length ≤ size t
  | .mk k s n l => by
    have := placesL_len l
    simp only [placesT, size, List.length_append]
    split <;> simp <;> omega
theorem placesL_len : ∀ l : List Tm, (placesL l).length ≤ sizeL l
  | [] => by simp [placesL, sizeL]
  | t :: l => by
    have := places_len t
    have := placesL_len l
    simp only [placesL, sizeL, List.length_append]; omega
end

/-! ### Has -/
/-! ### The places -/
def K37 : List Bool := [false, false, false, true, false, false, true, true, true, false]
def L37 (acc c : AV) (len i : Int) : List AV := [.junk, .junk, .junk, acc, .junk, .junk, c, .v (.int .i64 len), .v (.int .i64 i), .junk]
theorem places_loop {K : Nat} {c : AV} {es : List AV} (hs : Sl 4 c es) (hm : es.length ≤ 100000) :
    ∀ (l : List Tm) (i : Nat) (acc : AV) (p : List Int) (h : List AO) (vars : List AV), i + l.length = es.length → p.length + sizeL l ≤ 1000000 → All2 (es.drop i) l → (∀ t ∈ l, ∀ (e : AV), IsT e t → ∃ r, Sl 1 r ((placesT t).map iv) ∧ callW F 42 [e] [] = some (r, [])) →
      Acc 2 1 h acc (p.map iv) → clr K37 vars = L37 acc c es.length i →
      ∃ acc' h' x4 x5 x9, loopN (exec (callW F) K c42_9) K37 (l.length + 1) vars h = some (.exit 0, [.junk, .junk, .junk, acc', x4, x5, c, .v (.int .i64 es.length), .v (.int .i64 es.length), x9], h') ∧ Acc 2 1 h' acc' ((p ++ placesL l).map iv) := by
  intro l
  induction l with
  | nil =>
    intro i acc p h vars hi hp _ _ ha hv
    have hil : i = es.length := by simpa using hi
    subst hil
    have hlt : decide ((es.length : Int) < (es.length : Int)) = false := by simp
    refine ⟨acc, h, .junk, .junk, .v (.bool false), loop_exit ?_, by simpa [placesL] using ha⟩
    rw [hv]
    simp only [L37, c42_9, c42_5, hlt, Q104, Q105, bs1, bs2, Q106, Q107, Q108, Q109, bd1, Q110, Q111, toL, List.map_cons, List.map_nil, Q112, List.set_cons_zero, List.set_cons_succ, and_self, Nat.le_refl, Q114, Q115, Q116, Q0, Q1, Q2, Q3, Q4, Q5, Q6, Q7, Q8, Q9, Q10, Q11, Q12, Q13, Q14, Q15, Q16, Q17, Q18, Q19, Q20, Q21, Q22, Q23, Q24, Q25, Q26, Q27, Q28, Q29, Q30, Q31, Q32, Q33, Q34, Q35, Q36, Q37, Q38, Q39, Q40, Q41, Q42, Q43, Q44, Q45, Q46, Q47, Q48, Q49, Q50, Q51, Q52, Q53, Q54, Q55, Q56, Q57, Q58, Q59, Q60, Q61, Q62, Q63, Q64, Q65, Q66, Q67, Q68, Q69, Q70, Q71, Q72, Q73, Q99, Q100, Q101, Q102, Q103, Q74, Q75, Q77, Q78, Q79, Q80, Q81, Q82, Q83, Q84, clr, List.length_nil, List.length_cons, List.getElem?_cons_zero, List.getElem?_cons_succ, Nat.reduceAdd, Nat.zero_add, Nat.add_zero, Nat.reduceLeDiff, Nat.reduceSub, ↓reduceIte, List.drop_succ_cons, List.drop_zero, List.take_succ_cons, List.take_zero, Bool.false_eq_true, List.nil_append, List.cons_append, Bool.not_true, Bool.not_false, cond_true, cond_false, bne, Q85, Q86, Q87, Q88, Q89, Q90, Q91, Q92, Q93, Q94, Q95, Q96, Q97, Q98]
  | cons t l ih =>
    intro i acc p h vars hi hp hes hcall ha hv
    have hil : i < es.length := by simp at hi; omega
    have he : es[i]? = some (es[i]'hil) := List.getElem?_eq_getElem _
    have hd : es.drop i = es[i] :: es.drop (i + 1) := List.drop_eq_getElem_cons hil
    rw [hd] at hes
    generalize es[i]'hil = e at hes he
    cases hes with
    | cons _ _ _ _ hT hs' =>
    obtain ⟨r, hr, hc⟩ := hcall t (by simp) _ hT
    have hpl := places_len t
    simp only [sizeL] at hp
    obtain ⟨acc', h2, h3, h4, h5⟩ := (ha.app (.box 24 e.cells)).add (x := r) (bytes := 8) (hr.elems _) (by
      have : room = 140737488355328 := rfl
      simp only [fits, List.length_map, decide_eq_true_eq]; omega)
    have hlt : (decide ((i : Int) < (es.length : Int))) = true := by simp; omega
    have q1 := hs.ia he
    have q3 : ∀ h : List AO, Q76 h true 4 (.ip e.cells) = some e := fun h => hT.load
    have q5 : ∀ h : List AO, e.snap1 h = some e := fun h => hT.snap
    have st : exec (callW F) K c42_9 (L37 acc c es.length i) h = some (.normal, [.junk, .junk, .junk, acc', .ptr h.length 0, .junk, c, .v (.int .i64 es.length), .v (.int .i64 ((i + 1 : Nat) : Int)), .v (.bool true)], h2) := by
      have hz : ([.v (.int .i64 0), .v (.string ⟨#[]⟩), .v (.int .i64 0), .v (.slice none 0 0)] : List AV).length = 4 := rfl
      simp only [L37, c42_9, c42_5, c42_6, c42_7, c42_8, hlt, wrap_succ hil (small_max hm), q1, q3, q5, hc, h3, hT.st _ _ hz, hT.ld, q9z, e_append, Q104, Q105, bs1, bs2, Q106, Q107, Q108, Q109, bd1, Q110, Q111, toL, List.map_cons, List.map_nil, Q112, List.set_cons_zero, List.set_cons_succ, and_self, Nat.le_refl, Q114, Q115, Q116, Q0, Q1, Q2, Q3, Q4, Q5, Q6, Q7, Q8, Q9, Q10, Q11, Q12, Q13, Q14, Q15, Q16, Q17, Q18, Q19, Q20, Q21, Q22, Q23, Q24, Q25, Q26, Q27, Q28, Q29, Q30, Q31, Q32, Q33, Q34, Q35, Q36, Q37, Q38, Q39, Q40, Q41, Q42, Q43, Q44, Q45, Q46, Q47, Q48, Q49, Q50, Q51, Q52, Q53, Q54, Q55, Q56, Q57, Q58, Q59, Q60, Q61, Q62, Q63, Q64, Q65, Q66, Q67, Q68, Q69, Q70, Q71, Q72, Q73, Q99, Q100, Q101, Q102, Q103, Q74, Q75, Q77, Q78, Q79, Q80, Q81, Q82, Q83, Q84, clr, List.length_nil, List.length_cons, List.getElem?_cons_zero, List.getElem?_cons_succ, Nat.reduceAdd, Nat.zero_add, Nat.add_zero, Nat.reduceLeDiff, Nat.reduceSub, ↓reduceIte, List.drop_succ_cons, List.drop_zero, List.take_succ_cons, List.take_zero, Bool.false_eq_true, List.nil_append, List.cons_append, Bool.not_true, Bool.not_false, cond_true, cond_false, bne, Q85, Q86, Q87, Q88, Q89, Q90, Q91, Q92, Q93, Q94, Q95, Q96, Q97, Q98]
    rw [show (t :: l).length + 1 = (l.length + 1) + 1 from rfl, loop_normal (by rw [hv]; exact st)]
    rw [← List.map_append] at h4
    obtain ⟨acc'', h', x4, x5, x9, g1, g2⟩ := ih (i + 1) acc' (p ++ placesT t) h2 [.junk, .junk, .junk, acc', .ptr h.length 0, .junk, c, .v (.int .i64 es.length), .v (.int .i64 ((i + 1 : Nat) : Int)), .v (.bool true)] (by simp at hi; omega) (by rw [List.length_append]; omega) hs' (fun t ht => hcall t (by simp [ht])) h4 rfl
    refine ⟨acc'', h', x4, x5, x9, g1, ?_⟩
    rw [placesL, ← List.append_assoc]
    exact g2

theorem places_ok : ∀ (N : Nat) (t : Tm) (a : AV), SizeOf.sizeOf t < N → size t ≤ 100000 → IsT a t → ∃ r, Sl 1 r ((placesT t).map iv) ∧ callW F 42 [a] [] = some (r, []) := by
  intro N
  induction N with
  | zero => intro t a h; omega
  | succ N ih =>
    intro t a hN hsz ha
    cases ha with
    | mk k s n c l hc =>
    have h5 := Tm.mk.sizeOf_spec k s n l
    simp only [size] at hsz
    have hll := sizeL_len l
    have hcall : ∀ t ∈ l, ∀ (e : AV), IsT e t → ∃ r, Sl 1 r ((placesT t).map iv) ∧ callW F 42 [e] [] = some (r, []) := by
      intro t ht e hT
      have h6 := List.sizeOf_lt_of_mem ht
      have h7 := size_mem ht
      exact ih t e (by omega) (by omega) hT
    obtain ⟨es, hs, hes, hm⟩ := hc.sl
    have e1 := hes.length
    have key : ∀ (p : List Int) (acc : AV) (h : List AO), p.length ≤ 10 → Acc 2 1 h acc (p.map iv) → ∃ acc' h' x4 x5 x9, loopN (exec (callW F) (l.length + 1) c42_9) K37 (l.length + 1) (L37 acc c es.length (0 : Nat)) h = some (.exit 0, [.junk, .junk, .junk, acc', x4, x5, c, .v (.int .i64 es.length), .v (.int .i64 es.length), x9], h') ∧ Acc 2 1 h' acc' ((p ++ placesL l).map iv) :=
      fun p acc h hp ha => places_loop (K := l.length + 1) hs (by omega) l 0 acc p h (L37 acc c es.length (0 : Nat)) (by omega) (by omega) (by simpa using hes) hcall ha rfl
    by_cases hk : k = 1
    · have h1 : (k == 1) = true := by simpa using hk
      have hap : evAppend [.box 24 [.v (.int .i64 k), .v (.string s), .v (.int .i64 n), c]] 2 1 8 (.v (.slice none 0 0)) (.slc 1 true true [.v (.int .i64 n)]) = some (.own 1 1 0 0 1, [.box 24 [.v (.int .i64 k), .v (.string s), .v (.int .i64 n), c], .row 2 1 0 [.v (.int .i64 n)] 0]) := ap_new (h := [.box 24 [.v (.int .i64 k), .v (.string s), .v (.int .i64 n), c]]) (by simp) (by simp only [List.length_cons, List.length_nil]; decide)
      obtain ⟨acc', h', x4, x5, x9, g1, g2⟩ := key [n] (.own 1 1 0 0 1) [.box 24 [.v (.int .i64 k), .v (.string s), .v (.int .i64 n), c], .row 2 1 0 [.v (.int .i64 n)] 0] (by simp) (.own 1 0 0 [.v (.int .i64 n)] rfl (by simp) (by simp))
      obtain ⟨r, g3, g4⟩ := g2.lvf
      refine ⟨r, by rw [placesT, if_pos hk]; exact g4, callW_pure (c := c42) rfl rfl (l.length + 1) ?_⟩
      show lv [.var 2] (exec (callW F) (l.length + 1) (.seq (.region [] [] c42_0) (.seq (.region [] [] c42_1) (.seq (.seq (.region [] [] c42_2) (.cond (.var 5) (.region [] [] c42_3) .skip)) (.seq (.seq (.region [] [] c42_4) (.block 0 (.loop K37 [] c42_9))) (.seq (.region [] [] c42_10) .ret))))) _ _) = _
      generalize hrest : (CC.seq (.region [] [] c42_10) .ret) = rest
      simp only [c42, start, List.replicate, c42_0, c42_1, c42_2, c42_3, c42_4, h1, hs.len, hap, snap_int, bs1_some (y := .v (.int .i64 n)) (sz := 1) Q111 rfl, e_append, q9z, Q113, Q104, Q105, bs1, bs2, Q106, Q107, Q108, Q109, bd1, Q110, Q111, toL, List.map_cons, List.map_nil, Q112, List.set_cons_zero, List.set_cons_succ, and_self, Nat.le_refl, Q113, Q114, Q115, Q116, Q0, Q1, Q2, Q3, Q4, Q5, Q6, Q7, Q8, Q9, Q10, Q11, Q12, Q13, Q14, Q15, Q16, Q17, Q18, Q19, Q20, Q21, Q22, Q23, Q24, Q25, Q26, Q27, Q28, Q29, Q30, Q31, Q32, Q33, Q34, Q35, Q36, Q37, Q38, Q39, Q40, Q41, Q42, Q43, Q44, Q45, Q46, Q47, Q48, Q49, Q50, Q51, Q52, Q53, Q54, Q55, Q56, Q57, Q58, Q59, Q60, Q61, Q62, Q63, Q64, Q65, Q66, Q67, Q68, Q69, Q70, Q71, Q72, Q73, Q99, Q100, Q101, Q102, Q103, Q74, Q75, Q76, Q77, Q78, Q79, Q80, Q81, Q82, Q83, Q84, clr, List.length_nil, List.length_cons, List.getElem?_cons_zero, List.getElem?_cons_succ, Nat.reduceAdd, Nat.zero_add, Nat.add_zero, Nat.reduceLeDiff, Nat.reduceSub, ↓reduceIte, List.drop_succ_cons, List.drop_zero, List.take_succ_cons, List.take_zero, Bool.false_eq_true, List.nil_append, List.cons_append, Bool.not_true, Bool.not_false, cond_true, cond_false, bne, Q85, Q86, Q87, Q88, Q89, Q90, Q91, Q92, Q93, Q94, Q95, Q96, Q97, Q98]
      rw [loop_cong (v2 := L37 (.own 1 1 0 0 1) c es.length ((0 : Nat) : Int)) (by rfl), g1, ← hrest]
      simp only [Q19, Q12, c42_10, g3, Q0, Q1, Q2, Q3, Q4, Q5, Q6, Q7, Q8, Q9, Q10, Q11, Q12, Q13, Q14, Q15, Q16, Q17, Q18, Q19, Q20, Q21, Q22, Q23, Q24, Q25, Q26, Q27, Q28, Q29, Q30, Q31, Q32, Q33, Q34, Q35, Q36, Q37, Q38, Q39, Q40, Q41, Q42, Q43, Q44, Q45, Q46, Q47, Q48, Q49, Q50, Q51, Q52, Q53, Q54, Q55, Q56, Q57, Q58, Q59, Q60, Q61, Q62, Q63, Q64, Q65, Q66, Q67, Q68, Q69, Q70, Q71, Q72, Q73, Q99, Q100, Q101, Q102, Q103, Q74, Q75, Q77, Q78, Q79, Q80, Q81, Q82, Q83, Q84, clr, List.length_nil, List.length_cons, List.getElem?_cons_zero, List.getElem?_cons_succ, Nat.reduceAdd, Nat.zero_add, Nat.add_zero, Nat.reduceLeDiff, Nat.reduceSub, ↓reduceIte, List.drop_succ_cons, List.drop_zero, List.take_succ_cons, List.take_zero, Bool.false_eq_true, List.nil_append, List.cons_append, Bool.not_true, Bool.not_false, cond_true, cond_false, bne, Q85, Q86, Q87, Q88, Q89, Q90, Q91, Q92, Q93, Q94, Q95, Q96, Q97, Q98]
    · have h1 : (k == 1) = false := by simpa using hk
      obtain ⟨acc', h', x4, x5, x9, g1, g2⟩ := key [] (.v (.slice none 0 0)) [.box 24 [.v (.int .i64 k), .v (.string s), .v (.int .i64 n), c]] (by simp) .nil
      obtain ⟨r, g3, g4⟩ := g2.lvf
      refine ⟨r, by rw [placesT, if_neg hk]; exact g4, callW_pure (c := c42) rfl rfl (l.length + 1) ?_⟩
      show lv [.var 2] (exec (callW F) (l.length + 1) (.seq (.region [] [] c42_0) (.seq (.region [] [] c42_1) (.seq (.seq (.region [] [] c42_2) (.cond (.var 5) (.region [] [] c42_3) .skip)) (.seq (.seq (.region [] [] c42_4) (.block 0 (.loop K37 [] c42_9))) (.seq (.region [] [] c42_10) .ret))))) _ _) = _
      generalize hrest : (CC.seq (.region [] [] c42_10) .ret) = rest
      simp only [c42, start, List.replicate, c42_0, c42_1, c42_2, c42_4, h1, hs.len, Q113, Q104, Q105, bs1, bs2, Q106, Q107, Q108, Q109, bd1, Q110, Q111, toL, List.map_cons, List.map_nil, Q112, List.set_cons_zero, List.set_cons_succ, and_self, Nat.le_refl, Q113, Q114, Q115, Q116, Q0, Q1, Q2, Q3, Q4, Q5, Q6, Q7, Q8, Q9, Q10, Q11, Q12, Q13, Q14, Q15, Q16, Q17, Q18, Q19, Q20, Q21, Q22, Q23, Q24, Q25, Q26, Q27, Q28, Q29, Q30, Q31, Q32, Q33, Q34, Q35, Q36, Q37, Q38, Q39, Q40, Q41, Q42, Q43, Q44, Q45, Q46, Q47, Q48, Q49, Q50, Q51, Q52, Q53, Q54, Q55, Q56, Q57, Q58, Q59, Q60, Q61, Q62, Q63, Q64, Q65, Q66, Q67, Q68, Q69, Q70, Q71, Q72, Q73, Q99, Q100, Q101, Q102, Q103, Q74, Q75, Q76, Q77, Q78, Q79, Q80, Q81, Q82, Q83, Q84, clr, List.length_nil, List.length_cons, List.getElem?_cons_zero, List.getElem?_cons_succ, Nat.reduceAdd, Nat.zero_add, Nat.add_zero, Nat.reduceLeDiff, Nat.reduceSub, ↓reduceIte, List.drop_succ_cons, List.drop_zero, List.take_succ_cons, List.take_zero, Bool.false_eq_true, List.nil_append, List.cons_append, Bool.not_true, Bool.not_false, cond_true, cond_false, bne, Q85, Q86, Q87, Q88, Q89, Q90, Q91, Q92, Q93, Q94, Q95, Q96, Q97, Q98]
      rw [loop_cong (v2 := L37 (.v (.slice none 0 0)) c es.length ((0 : Nat) : Int)) (by rfl), g1, ← hrest]
      simp only [Q19, Q12, c42_10, g3, Q0, Q1, Q2, Q3, Q4, Q5, Q6, Q7, Q8, Q9, Q10, Q11, Q12, Q13, Q14, Q15, Q16, Q17, Q18, Q19, Q20, Q21, Q22, Q23, Q24, Q25, Q26, Q27, Q28, Q29, Q30, Q31, Q32, Q33, Q34, Q35, Q36, Q37, Q38, Q39, Q40, Q41, Q42, Q43, Q44, Q45, Q46, Q47, Q48, Q49, Q50, Q51, Q52, Q53, Q54, Q55, Q56, Q57, Q58, Q59, Q60, Q61, Q62, Q63, Q64, Q65, Q66, Q67, Q68, Q69, Q70, Q71, Q72, Q73, Q99, Q100, Q101, Q102, Q103, Q74, Q75, Q77, Q78, Q79, Q80, Q81, Q82, Q83, Q84, clr, List.length_nil, List.length_cons, List.getElem?_cons_zero, List.getElem?_cons_succ, Nat.reduceAdd, Nat.zero_add, Nat.add_zero, Nat.reduceLeDiff, Nat.reduceSub, ↓reduceIte, List.drop_succ_cons, List.drop_zero, List.take_succ_cons, List.take_zero, Bool.false_eq_true, List.nil_append, List.cons_append, Bool.not_true, Bool.not_false, cond_true, cond_false, bne, Q85, Q86, Q87, Q88, Q89, Q90, Q91, Q92, Q93, Q94, Q95, Q96, Q97, Q98]

/-! ### Vars -/
end Go.AE.YtgcbaefclkfnoaaDoor
end

/-! bare: a term with 0 as all Vars' numbers. -/
section
set_option linter.unusedVariables false
set_option linter.unusedSimpArgs false
namespace Go.AE.YtgcbaefclkfnoaaDoor
open Go Go.AE Go.Proofs.YtgcbaefclkfnoaaDoor

/-! ### bare -/
end Go.AE.YtgcbaefclkfnoaaDoor
end

/-! Variant: the document's; the program's from the start. -/
section
set_option linter.unusedVariables false
set_option linter.unusedSimpArgs false
namespace Go.AE.YtgcbaefclkfnoaaDoor
open Go Go.AE Go.Proofs.YtgcbaefclkfnoaaDoor

/-! ### The document's -/
theorem map_at {xs : List Int} {i : Nat} (h : i < xs.length) : (xs.map iv)[i]? = some (iv (xs.getD i 0)) := by
  simp [h]
section
variable {x y : AV} {xs ys : List Int}
end
end Go.AE.YtgcbaefclkfnoaaDoor
end

/-! Variant, in plain Lean: what the program's answers is what the document's answers. -/
section
set_option linter.unusedVariables false
set_option linter.unusedSimpArgs false
namespace Go.AE.YtgcbaefclkfnoaaDoor
open Go Go.AE Go.Proofs.YtgcbaefclkfnoaaDoor

/-! ### Pairs, one behind the other -/
/-! ### Numbers that stand for one another -/
def Cp (L : Prs) : Prop := ∀ p ∈ L, ∀ q ∈ L, p.1 = q.1 ↔ p.2 = q.2
theorem Cp.of {L M : Prs} (h : ∀ p, p ∈ L ↔ p ∈ M) : Cp L ↔ Cp M := by
  constructor <;> intro c p hp q hq
  · exact c p ((h p).2 hp) q ((h q).2 hq)
  · exact c p ((h p).1 hp) q ((h q).1 hq)
end Go.AE.YtgcbaefclkfnoaaDoor
end

/-! Fresh of the program: it shifts the numbers of all Vars. -/
section
set_option linter.unusedVariables false
set_option linter.unusedSimpArgs false
namespace Go.AE.YtgcbaefclkfnoaaDoor
open Go Go.AE Go.Proofs.YtgcbaefclkfnoaaDoor

theorem turn_ok {H : List AO} {id : Nat} {x : Int} (hid : H[id]? = some (.box 2 [.v (.int .i64 x)])) (hb : H.all (AO.below H.length) = true) (n : Int) : callW F 56 [.v (.int .i64 n), .ptr id 0] H = some (.v (.int .i64 (IntKind.i64.wrap (n + x))), H) := by
  refine callW_own (c := c56) rfl rfl 0 ?_
  have l1 := bx_ld (h := H ++ []) (id := id) (by rw [List.append_nil]; exact hid) (a := false) (n := 1) (o := 0)
  have body : exec (callW F) 0 c56.body (start c56 [.v (.int .i64 n), .ptr id 0]) (H ++ []) = some (.ret, [.v (.int .i64 n), .ptr id 0, .v (.int .i64 (IntKind.i64.wrap (n + x)))], H ++ []) := by
    simp only [c56, start, List.replicate, c56_0, c56_1, l1, Q104, Q105, bs1, bs2, Q106, Q107, Q108, Q109, bd1, Q110, Q111, toL, List.map_cons, List.map_nil, Q112, List.set_cons_zero, List.set_cons_succ, and_self, Nat.le_refl, Q114, Q115, Q116, Q0, Q1, Q2, Q3, Q4, Q5, Q6, Q7, Q8, Q9, Q10, Q11, Q12, Q13, Q14, Q15, Q16, Q17, Q18, Q19, Q20, Q21, Q22, Q23, Q24, Q25, Q26, Q27, Q28, Q29, Q30, Q31, Q32, Q33, Q35, Q36, Q37, Q38, Q39, Q40, Q41, Q42, Q43, Q44, Q45, Q46, Q47, Q48, Q49, Q50, Q51, Q52, Q53, Q54, Q55, Q56, Q57, Q58, Q59, Q60, Q61, Q62, Q63, Q64, Q65, Q66, Q67, Q68, Q69, Q70, Q71, Q72, Q73, Q99, Q100, Q101, Q102, Q103, Q74, Q75, Q77, Q78, Q79, Q80, Q81, Q82, Q83, Q84, clr, List.length_nil, List.length_cons, List.getElem?_cons_zero, List.getElem?_cons_succ, Nat.reduceAdd, Nat.zero_add, Nat.add_zero, Nat.reduceLeDiff, Nat.reduceSub, ↓reduceIte, List.drop_succ_cons, List.drop_zero, List.take_succ_cons, List.take_zero, Bool.false_eq_true, List.nil_append, List.cons_append, Bool.not_true, Bool.not_false, cond_true, cond_false, bne, Q85, Q86, Q87, Q88, Q89, Q90, Q91, Q92, Q93, Q94, Q95, Q96, Q97, Q98]
  rw [body, leave_own rfl hb]
  exact lvo_one rfl

theorem e_mkfn {call : CallF} {vars env : List AV} {h : List AO} {f : Fn} {first cap : List Opd} : evOp call vars env h (.mkfn f first cap) = some (.fn f (first.map (getO vars env)) (cap.map (getO vars env)), h) := rfl
def cv (call : CallF) (h : List AO) (xs : List AV) : AV → Option (AV × List AO)
  | .fn (.func f) first cap => call f (first ++ xs ++ cap) h
  | _ => none
theorem e_callv {call : CallF} {vars env : List AV} {h : List AO} {x : Opd} {args : List Opd} : evOp call vars env h (.callv x args) = cv call h (args.map (getO vars env)) (getO vars env x) := by
  simp only [evOp, cv]
  rfl
theorem cv_fn {call : CallF} {h : List AO} {f : FuncId} {xs first cap : List AV} : cv call h xs (.fn (.func f) first cap) = call f (first ++ xs ++ cap) h := rfl

section
variable {H : List AO} {l : List AO}
theorem h_ld {a : Bool} {sz k o : Nat} : Q76 (H ++ l) a sz (.ptr (H.length + k) o) = ldAt l k a sz o := own_ld rfl
theorem h_ld0 {a : Bool} {sz o : Nat} : Q76 (H ++ l) a sz (.ptr H.length o) = ldAt l 0 a sz o := own_ld0 rfl
theorem h_st {sz k o : Nat} {x : AV} : Q113 (H ++ l) sz (.ptr (H.length + k) o) x = preH H (stAt l sz k o x) := own_st rfl
theorem h_st0 {sz o : Nat} {x : AV} : Q113 (H ++ l) sz (.ptr H.length o) x = preH H (stAt l sz 0 o x) := own_st0 rfl
theorem h_bx {bt : TypeId} {cs : List AV} : bx (H ++ l) bt (some cs) = some (.ptr (H.length + l.length) 0, H ++ (l ++ [.box bt cs])) := own_bx rfl

def K49 : List Bool := [false, true, true, true, true, false, false, false, false, true, true, true, false]
def fnV (id : Nat) : AV := .fn (.func 56) [] [.ptr id 0]
def L49 (id B n : Nat) (c : AV) (i : Int) : List AV := [.junk, fnV id, .ptr B 0, .ptr (B + 1) 0, .own 4 (B + 2) 0 0 n, .junk, .junk, .junk, .junk, c, .v (.int .i64 n), .v (.int .i64 i), .junk]

theorem zeroEl4 : zeroEl [(.int .i64 0), (.string ⟨#[]⟩), (.int .i64 0), (.slice none 0 0)] = .agg zeroC := rfl
theorem _root_.Go.AE.IsT.eta {a : AV} {t : Tm} (ht : IsT a t) : AV.agg a.cells = a := by
  cases ht; rfl
theorem _root_.Go.AE.IsT.cellB {a : AV} {t : Tm} (ht : IsT a t) : a.cells.all AV.isCell = true := by
  cases ht with
  | mk k s n c l hc => cases hc <;> rfl
theorem each_loop {K : Nat} {id : Nat} {c : AV} {es : List AV} {cs0 cs1 : List AV} (hs : Sl 4 c es) (hm : es.length ≤ 100000) (x : Int) (hid : H[id]? = some (.box 2 [.v (.int .i64 x)])) (hb : H.all (AO.below H.length) = true) (hb0 : (AO.box 24 cs0).below 0 = true) (hb1 : (AO.box 24 cs1).below 0 = true) :
    ∀ (l : List Tm) (i : Nat) (ds : List AV) (dl : List Tm) (tail : List AO) (vars : List AV), i + l.length = es.length → ds.length = i → All2 (es.drop i) l → All2 ds dl → tail.all (AO.below 0) = true →
      (∀ t ∈ l, ∀ (e : AV) (H' : List AO), IsT e t → H'[id]? = some (.box 2 [.v (.int .i64 x)]) → H'.all (AO.below H'.length) = true → ∃ r, IsT r (shiftT x t) ∧ callW F 55 [e, fnV id] H' = some (r, H')) →
      clr K49 vars = L49 id H.length es.length c i →
      ∃ ds' tail' x5 x6 x7 x8 x12, loopN (exec (callW F) K c55_12) K49 (l.length + 1) vars (H ++ (.box 24 cs0 :: .box 24 cs1 :: .row 24 4 0 (ds ++ List.replicate l.length (.agg zeroC)) 0 :: tail)) = some (.exit 0, [.junk, fnV id, .ptr H.length 0, .ptr (H.length + 1) 0, .own 4 (H.length + 2) 0 0 es.length, x5, x6, x7, x8, c, .v (.int .i64 es.length), .v (.int .i64 es.length), x12], H ++ (.box 24 cs0 :: .box 24 cs1 :: .row 24 4 0 ds' 0 :: tail')) ∧ All2 ds' (dl ++ shiftL x l) ∧ ds'.length = es.length := by
  intro l
  induction l with
  | nil =>
    intro i ds dl tail vars hi hds _ hall htl _ hv
    have hil : i = es.length := by simpa using hi
    subst hil
    have hlt : decide ((es.length : Int) < (es.length : Int)) = false := by simp
    refine ⟨ds, tail, .junk, .junk, .junk, .junk, .v (.bool false), loop_exit ?_, by simpa [shiftL] using hall, hds⟩
    rw [hv]
    simp only [L49, c55_12, c55_8, hlt, List.replicate, List.append_nil, Q104, Q105, bs1, bs2, Q106, Q107, Q108, Q109, bd1, Q110, Q111, toL, List.map_cons, List.map_nil, Q112, List.set_cons_zero, List.set_cons_succ, and_self, Nat.le_refl, Q114, Q115, Q116, Q0, Q1, Q2, Q3, Q4, Q5, Q6, Q7, Q8, Q9, Q10, Q11, Q12, Q13, Q14, Q15, Q16, Q17, Q18, Q19, Q20, Q21, Q22, Q23, Q24, Q25, Q26, Q27, Q28, Q29, Q30, Q31, Q32, Q33, Q35, Q36, Q37, Q38, Q39, Q40, Q41, Q42, Q43, Q44, Q45, Q46, Q47, Q48, Q49, Q50, Q51, Q52, Q53, Q54, Q55, Q56, Q57, Q58, Q59, Q60, Q61, Q62, Q63, Q64, Q65, Q66, Q67, Q68, Q69, Q70, Q71, Q72, Q73, Q99, Q100, Q101, Q102, Q103, Q74, Q75, Q77, Q78, Q79, Q80, Q81, Q82, Q83, Q84, clr, List.length_nil, List.length_cons, List.getElem?_cons_zero, List.getElem?_cons_succ, Nat.reduceAdd, Nat.zero_add, Nat.add_zero, Nat.reduceLeDiff, Nat.reduceSub, ↓reduceIte, List.drop_succ_cons, List.drop_zero, List.take_succ_cons, List.take_zero, Bool.false_eq_true, List.nil_append, List.cons_append, Bool.not_true, Bool.not_false, cond_true, cond_false, bne, Q85, Q86, Q87, Q88, Q89, Q90, Q91, Q92, Q93, Q94, Q95, Q96, Q97, Q98]
  | cons t l ih =>
    intro i ds dl tail vars hi hds hes hall htl hcall hv
    have hil : i < es.length := by simp at hi; omega
    have he : es[i]? = some (es[i]'hil) := List.getElem?_eq_getElem _
    have hd : es.drop i = es[i] :: es.drop (i + 1) := List.drop_eq_getElem_cons hil
    rw [hd] at hes
    generalize es[i]'hil = e at hes he
    cases hes with
    | cons _ _ _ _ hT hs' =>
    have hlt : (decide ((i : Int) < (es.length : Int))) = true := by simp; omega
    have hlen : (ds ++ List.replicate (t :: l).length (AV.agg zeroC)).length = es.length := by simp at hi ⊢; omega
    have tl2 : (tail ++ [AO.box 24 e.cells]).all (AO.below 0) = true := by
      have : AO.below 0 (.box 24 e.cells) = true := hT.bel
      simp only [List.all_append, List.all_cons, List.all_nil, htl, this, Bool.and_true]
    have hbl : (H ++ (.box 24 cs0 :: .box 24 cs1 :: .row 24 4 0 (ds ++ List.replicate (t :: l).length (.agg zeroC)) 0 :: (tail ++ [AO.box 24 e.cells])) : List AO).all (AO.below (H ++ (.box 24 cs0 :: .box 24 cs1 :: .row 24 4 0 (ds ++ List.replicate (t :: l).length (.agg zeroC)) 0 :: (tail ++ [AO.box 24 e.cells])) : List AO).length) = true := by
      rw [List.all_append, Bool.and_eq_true]
      refine ⟨all_below_mono (by simp) hb, all_below_mono (Nat.zero_le _) ?_⟩
      have hr : ∀ L : List AV, (AO.row 24 4 0 L 0).below 0 = true := fun _ => rfl
      simp only [List.all_cons, hb0, hb1, hr, tl2, Bool.and_true]
    obtain ⟨r, hr, hc⟩ := hcall t (by simp) _ _ hT (his_get hid) hbl
    have q1 := hs.ia he
    have q3 : ∀ h : List AO, Q76 h true 4 (.ip e.cells) = some e := fun h => hT.load
    have q4 : e.cl = some e.cells := hT.cl.1
    have q4b : e.cells.length = 4 := hT.cl.2
    have q5 := hT.asEl
    -- the row
    have row : ∀ tl : List AO, (AO.box 24 cs0 :: .box 24 cs1 :: .row 24 4 0 (ds ++ List.replicate (t :: l).length (.agg zeroC)) 0 :: tl : List AO)[2]? = some (.row 24 4 0 (ds ++ List.replicate (t :: l).length (.agg zeroC)) 0) := fun _ => rfl
    have q7 := own_ia (sz := 4) (H := H) rfl (row (tail ++ [AO.box 24 e.cells])) (n := es.length) (by omega) hil
    have hel : (ds ++ List.replicate (t :: l).length (AV.agg zeroC))[i]? = some (.agg zeroC) := by
      rw [List.getElem?_append_right (by omega)]
      simp [hds, List.replicate]
    have q8 := own_est (sz := 4) (H := H) rfl (row (tail ++ [AO.box 24 e.cells])) hel rfl (x := r) (hr.snap) hr.cl.1 hr.cl.2 hr.cellB
    have hset : (ds ++ List.replicate (t :: l).length (AV.agg zeroC)).set i (AV.agg r.cells) = (ds ++ [r]) ++ List.replicate l.length (AV.agg zeroC) := by
      rw [List.set_append_right _ _ (by omega)]
      have : AV.agg r.cells = r := hr.eta
      rw [this]
      simp [hds, List.replicate]
    rw [hset] at q8
    simp only [List.set_cons_succ, List.set_cons_zero] at q8
    have st : ∀ R R2, R = ds ++ List.replicate (t :: l).length (AV.agg zeroC) → R2 = (ds ++ [r]) ++ List.replicate l.length (AV.agg zeroC) → exec (callW F) K c55_12 (L49 id H.length es.length c i) (H ++ (.box 24 cs0 :: .box 24 cs1 :: .row 24 4 0 R 0 :: tail)) = some (.normal, [.junk, fnV id, .ptr H.length 0, .ptr (H.length + 1) 0, .own 4 (H.length + 2) 0 0 es.length, .v (.int .i64 i), .ptr (H.length + (tail.length + 1 + 1 + 1)) 0, .junk, .junk, c, .v (.int .i64 es.length), .v (.int .i64 ((i + 1 : Nat) : Int)), .v (.bool true)], H ++ (.box 24 cs0 :: .box 24 cs1 :: .row 24 4 0 R2 0 :: (tail ++ [AO.box 24 e.cells]))) := by
      intro R R2 hR hR2
      rw [← hR] at hc q7 q8
      rw [← hR2] at q8
      have hst : ∀ (q : AV), Q113 (H ++ (.box 24 cs0 :: .box 24 cs1 :: .row 24 4 0 R 0 :: (tail ++ [AO.box 24 zeroC]))) 4 (.ptr (H.length + (tail.length + 1 + 1 + 1)) 0) e = some (H ++ (.box 24 cs0 :: .box 24 cs1 :: .row 24 4 0 R 0 :: (tail ++ [AO.box 24 e.cells]))) := by
        intro q
        have hg := hT
        cases hg with
        | mk k s n c2 l2 hc2 =>
        simp only [h_st, stAt, zeroC, AV.cells, Q104, Q105, bs1, bs2, Q106, Q107, Q108, Q109, bd1, Q110, Q111, toL, List.map_cons, List.map_nil, Q112, List.set_cons_zero, List.set_cons_succ, and_self, Nat.le_refl, Q114, Q115, Q116, Q0, Q1, Q2, Q3, Q4, Q5, Q6, Q7, Q8, Q9, Q10, Q11, Q12, Q13, Q14, Q15, Q16, Q17, Q18, Q19, Q20, Q21, Q22, Q23, Q24, Q25, Q26, Q27, Q28, Q29, Q30, Q31, Q32, Q33, Q35, Q36, Q37, Q38, Q39, Q40, Q41, Q42, Q43, Q44, Q45, Q46, Q47, Q48, Q49, Q50, Q51, Q52, Q53, Q54, Q55, Q56, Q57, Q58, Q59, Q60, Q61, Q62, Q63, Q64, Q65, Q66, Q67, Q68, Q69, Q70, Q71, Q72, Q73, Q99, Q100, Q101, Q102, Q103, Q74, Q75, Q77, Q78, Q79, Q80, Q81, Q82, Q83, Q84, clr, List.length_nil, List.length_cons, List.getElem?_cons_zero, List.getElem?_cons_succ, Nat.reduceAdd, Nat.zero_add, Nat.add_zero, Nat.reduceLeDiff, Nat.reduceSub, ↓reduceIte, List.drop_succ_cons, List.drop_zero, List.take_succ_cons, List.take_zero, Bool.false_eq_true, List.nil_append, List.cons_append, Bool.not_true, Bool.not_false, cond_true, cond_false, bne, Q85, Q86, Q87, Q88, Q89, Q90, Q91, Q92, Q93, Q94, Q95, Q96, Q97, Q98]
        rfl
      have hld : Q76 (H ++ (.box 24 cs0 :: .box 24 cs1 :: .row 24 4 0 R 0 :: (tail ++ [AO.box 24 e.cells]))) true 4 (.ptr (H.length + (tail.length + 1 + 1 + 1)) 0) = some e := by
        rw [h_ld]
        simp only [ldAt, List.getElem?_cons_succ, Q114, q4b, List.drop_zero, q5]
        rfl
      have hst' := hst .junk
      simp only [zeroC] at hst'
      simp only [L49, zeroC, c55_12, c55_8, c55_9, c55_10, c55_11, hlt, wrap_succ hil (small_max hm), q1, q3, q7, q8, hc, hst', hld, e_callh, q9z, h_bx, Q104, Q105, bs1, bs2, Q106, Q107, Q108, Q109, bd1, Q110, Q111, toL, List.map_cons, List.map_nil, Q112, List.set_cons_zero, List.set_cons_succ, and_self, Nat.le_refl, Q114, Q115, Q116, Q0, Q1, Q2, Q3, Q4, Q5, Q6, Q7, Q8, Q9, Q10, Q11, Q12, Q13, Q14, Q15, Q16, Q17, Q18, Q19, Q20, Q21, Q22, Q23, Q24, Q25, Q26, Q27, Q28, Q29, Q30, Q31, Q32, Q33, Q35, Q36, Q37, Q38, Q39, Q40, Q41, Q42, Q43, Q44, Q45, Q46, Q47, Q48, Q49, Q50, Q51, Q52, Q53, Q54, Q55, Q56, Q57, Q58, Q59, Q60, Q61, Q62, Q63, Q64, Q65, Q66, Q67, Q68, Q69, Q70, Q71, Q72, Q73, Q99, Q100, Q101, Q102, Q103, Q74, Q75, Q77, Q78, Q79, Q80, Q81, Q82, Q83, Q84, clr, List.length_nil, List.length_cons, List.getElem?_cons_zero, List.getElem?_cons_succ, Nat.reduceAdd, Nat.zero_add, Nat.add_zero, Nat.reduceLeDiff, Nat.reduceSub, ↓reduceIte, List.drop_succ_cons, List.drop_zero, List.take_succ_cons, List.take_zero, Bool.false_eq_true, List.nil_append, List.cons_append, Bool.not_true, Bool.not_false, cond_true, cond_false, bne, Q85, Q86, Q87, Q88, Q89, Q90, Q91, Q92, Q93, Q94, Q95, Q96, Q97, Q98]
    rw [show (t :: l).length + 1 = (l.length + 1) + 1 from rfl, loop_normal (by rw [hv]; exact st _ _ rfl rfl)]
    obtain ⟨ds', tail', x5, x6, x7, x8, x12, g1, g2, g3⟩ := ih (i + 1) (ds ++ [r]) (dl ++ [shiftT x t]) (tail ++ [AO.box 24 e.cells]) [.junk, fnV id, .ptr H.length 0, .ptr (H.length + 1) 0, .own 4 (H.length + 2) 0 0 es.length, .v (.int .i64 i), .ptr (H.length + (tail.length + 1 + 1 + 1)) 0, .junk, .junk, c, .v (.int .i64 es.length), .v (.int .i64 ((i + 1 : Nat) : Int)), .v (.bool true)] (by simp at hi; omega) (by simp [hds]) hs' (hall.app (.one hr)) tl2 (fun t ht => hcall t (by simp [ht])) rfl
    refine ⟨ds', tail', x5, x6, x7, x8, x12, g1, ?_, g3⟩
    rw [shiftL]
    simpa using g2

theorem start49 (a b : AV) : start c55 [a, b] = [a, b, .v undef, .v undef, .v undef, .v undef, .v undef, .v undef, .v undef, .v undef, .v undef, .v undef, .v undef] := rfl
theorem each49 (x : Int) (id : Nat) : ∀ (N : Nat) (t : Tm) (a : AV) (H : List AO), SizeOf.sizeOf t < N → size t ≤ 100000 → IsT a t → H[id]? = some (.box 2 [.v (.int .i64 x)]) → H.all (AO.below H.length) = true → ∃ r, IsT r (shiftT x t) ∧ callW F 55 [a, fnV id] H = some (r, H) := by
  intro N
  induction N with
  | zero => intro t a H h; omega
  | succ N ih =>
    intro t a H hN hsz ha hid hb
    have hbela := ha.bel
    cases ha with
    | mk k s n c l hc =>
    have h5 := Tm.mk.sizeOf_spec k s n l
    simp only [size] at hsz
    have hll := sizeL_len l
    have hcall : ∀ t ∈ l, ∀ (e : AV) (H' : List AO), IsT e t → H'[id]? = some (.box 2 [.v (.int .i64 x)]) → H'.all (AO.below H'.length) = true → ∃ r, IsT r (shiftT x t) ∧ callW F 55 [e, fnV id] H' = some (r, H') := by
      intro t ht e H' hT
      have h6 := List.sizeOf_lt_of_mem ht
      have h7 := size_mem ht
      exact ih t e H' (by omega) (by omega) hT
    obtain ⟨es, hs, hes, hm⟩ := hc.sl
    have e1 := hes.length
    -- behind the number
    have rest : ∀ (n' : Int) (y : AV) (m : Bool), ∃ r, IsT r (.mk k s n' (shiftL x l)) ∧ leave H.length c55 (exec (callW F) (l.length + 1) (.seq (.seq (.region [] [] c55_3) (.cond (.var 8) (.seq (.region [] [] c55_4) (.seq (.region [] [] c55_5) .ret)) .skip)) (.seq (.region [] [] c55_6) (.seq (.seq (.region [] [] c55_7) (.block 0 (.loop K49 [] c55_12))) (.seq (.region [] [] c55_13) (.seq (.region [] [] c55_14) .ret)))))
        [y, fnV id, .ptr H.length 0, .ptr (H.length + 1) 0, .v undef, .v undef, .v undef, .v (.bool m), .v undef, .v undef, .v undef, .v undef, .v undef] (H ++ [.box 24 [.v (.int .i64 k), .v (.string s), .v (.int .i64 n'), c], .box 24 zeroC])) = some (r, H) := by
      intro n' y m
      have hres : c55.res = [.cell 3 true 4] := rfl
      rcases Nat.eq_zero_or_pos l.length with h0 | h0
      · have hl0 : l = [] := List.length_eq_zero_iff.1 h0
        subst hl0
        have he0 : es = [] := List.length_eq_zero_iff.1 (by simpa using e1)
        subst he0
        have h1 : (((0 : Nat) : Int) == 0) = true := rfl
        refine ⟨.agg [.v (.int .i64 k), .v (.string s), .v (.int .i64 n'), .v (.slice none 0 0)], by rw [shiftL]; exact .mk _ _ _ _ _ .nil, ?_⟩
        simp only [zeroC, c55_3, c55_4, c55_5, h1, hs.len, h_ld, h_ld0, h_st, h_st0, h_bx, ldAt, stAt, preH_some, List.append_assoc, Q104, Q105, bs1, bs2, Q106, Q107, Q108, Q109, bd1, Q110, Q111, toL, List.map_cons, List.map_nil, Q112, List.set_cons_zero, List.set_cons_succ, and_self, Nat.le_refl, Q114, Q115, Q116, Q0, Q1, Q2, Q3, Q4, Q5, Q6, Q7, Q8, Q9, Q10, Q11, Q12, Q13, Q14, Q15, Q16, Q17, Q18, Q19, Q20, Q21, Q22, Q23, Q24, Q25, Q26, Q27, Q28, Q29, Q30, Q31, Q32, Q33, Q35, Q36, Q37, Q38, Q39, Q40, Q41, Q42, Q43, Q44, Q45, Q46, Q47, Q48, Q49, Q50, Q51, Q52, Q53, Q54, Q55, Q56, Q57, Q58, Q59, Q60, Q61, Q62, Q63, Q64, Q65, Q66, Q67, Q68, Q69, Q70, Q71, Q72, Q73, Q99, Q100, Q101, Q102, Q103, Q74, Q75, Q77, Q78, Q79, Q80, Q81, Q82, Q83, Q84, clr, List.length_nil, List.length_cons, List.getElem?_cons_zero, List.getElem?_cons_succ, Nat.reduceAdd, Nat.zero_add, Nat.add_zero, Nat.reduceLeDiff, Nat.reduceSub, ↓reduceIte, List.drop_succ_cons, List.drop_zero, List.take_succ_cons, List.take_zero, Bool.false_eq_true, List.nil_append, List.cons_append, Bool.not_true, Bool.not_false, cond_true, cond_false, bne, Q85, Q86, Q87, Q88, Q89, Q90, Q91, Q92, Q93, Q94, Q95, Q96, Q97, Q98]
        rw [leave_own rfl hb, hres, own_res1 (x := .agg [.v (.int .i64 k), .v (.string s), .v (.int .i64 n'), .v (.slice none 0 0)]) _]
        · exact lvo_one rfl
        · simp only [Q91, h_ld, ldAt, Q104, Q105, bs1, bs2, Q106, Q107, Q108, Q109, bd1, Q110, Q111, toL, List.map_cons, List.map_nil, Q112, List.set_cons_zero, List.set_cons_succ, and_self, Nat.le_refl, Q114, Q115, Q116, Q0, Q1, Q2, Q3, Q4, Q5, Q6, Q7, Q8, Q9, Q10, Q11, Q12, Q13, Q14, Q15, Q16, Q17, Q18, Q19, Q20, Q21, Q22, Q23, Q24, Q25, Q26, Q27, Q28, Q29, Q30, Q31, Q32, Q33, Q35, Q36, Q37, Q38, Q39, Q40, Q41, Q42, Q43, Q44, Q45, Q46, Q47, Q48, Q49, Q50, Q51, Q52, Q53, Q54, Q55, Q56, Q57, Q58, Q59, Q60, Q61, Q62, Q63, Q64, Q65, Q66, Q67, Q68, Q69, Q70, Q71, Q72, Q73, Q99, Q100, Q101, Q102, Q103, Q74, Q75, Q77, Q78, Q79, Q80, Q81, Q82, Q83, Q84, clr, List.length_nil, List.length_cons, List.getElem?_cons_zero, List.getElem?_cons_succ, Nat.reduceAdd, Nat.zero_add, Nat.add_zero, Nat.reduceLeDiff, Nat.reduceSub, ↓reduceIte, List.drop_succ_cons, List.drop_zero, List.take_succ_cons, List.take_zero, Bool.false_eq_true, List.nil_append, List.cons_append, Bool.not_true, Bool.not_false, cond_true, cond_false, bne, Q85, Q86, Q87, Q88, Q89, Q90, Q91, Q92, Q93, Q94, Q95, Q96, Q97, Q98]
      · have h1 : ((es.length : Int) == 0) = false := by rw [beq_eq_false_iff_ne]; omega
        obtain ⟨ds', tail', x5, x6, x7, x8, x12, g1, g2, g3⟩ := each_loop (H := H) (K := l.length + 1) (id := id) (cs0 := [.v (.int .i64 k), .v (.string s), .v (.int .i64 n'), c]) (cs1 := zeroC) hs (by omega) x hid hb (by
            have : ∀ n', IsT (.agg [.v (.int .i64 k), .v (.string s), .v (.int .i64 n'), c]) (.mk k s n' l) := fun n' => .mk k s n' c l hc
            exact (this n').bel) rfl l 0 [] [] [] (L49 id H.length es.length c (0 : Nat)) (by omega) rfl (by simpa using hes) .nil rfl hcall rfl
        have hrow : (List.replicate es.length (AV.agg zeroC)) = [] ++ List.replicate l.length (AV.agg zeroC) := by rw [e1]; rfl
        have mk := mkS_own (rt := 24) (sz := 4) (H := H) (l := [.box 24 [.v (.int .i64 k), .v (.string s), .v (.int .i64 n'), c], .box 24 zeroC]) (B := H.length) rfl (bytes := 56) (zero := [(.int .i64 0), (.string ⟨#[]⟩), (.int .i64 0), (.slice none 0 0)]) (n := es.length) (by have : maxLen = 9223372036854775807 := rfl; omega) (by omega)
        rw [zeroEl4, hrow] at mk
        generalize hR : ([] ++ List.replicate l.length (AV.agg zeroC)) = R at mk g1
        have hz2 : ∀ c' : AV, (AV.own 4 (H.length + 2) 0 0 es.length).cl = some [.own 4 (H.length + 2) 0 0 es.length] := fun _ => rfl
        have hds : ∀ h0 : List AO, (H ++ (.box 24 [.v (.int .i64 k), .v (.string s), .v (.int .i64 n'), .own 4 (H.length + 2) 0 0 es.length] :: .box 24 [.v (.int .i64 k), .v (.string s), .v (.int .i64 n'), .own 4 (H.length + 2) 0 0 es.length] :: .row 24 4 0 ds' 0 :: tail'))[H.length + 2]? = some (.row 24 4 0 ds' 0) := fun _ => obj_get rfl
        refine ⟨.agg [.v (.int .i64 k), .v (.string s), .v (.int .i64 n'), .slc 4 false false ds'], .mk _ _ _ _ _ (.slc _ _ _ _ (by simpa using g2) (by omega)), ?_⟩
        generalize hrest : (CC.seq (.region [] [] c55_13) (.seq (.region [] [] c55_14) .ret)) = rest
        simp only [zeroC] at mk g1
        simp only [zeroC, c55_3, c55_6, c55_7, h1, hs.len, mk, e_mkslice, h_ld, h_ld0, h_st, h_st0, h_bx, ldAt, stAt, preH_some, List.append_assoc, Q104, Q105, bs1, bs2, Q106, Q107, Q108, Q109, bd1, Q110, Q111, toL, List.map_cons, List.map_nil, Q112, List.set_cons_zero, List.set_cons_succ, and_self, Nat.le_refl, Q114, Q115, Q116, Q0, Q1, Q2, Q3, Q4, Q5, Q6, Q7, Q8, Q9, Q10, Q11, Q12, Q13, Q14, Q15, Q16, Q17, Q18, Q19, Q20, Q21, Q22, Q23, Q24, Q25, Q26, Q27, Q28, Q29, Q30, Q31, Q32, Q33, Q35, Q36, Q37, Q38, Q39, Q40, Q41, Q42, Q43, Q44, Q45, Q46, Q47, Q48, Q49, Q50, Q51, Q52, Q53, Q54, Q55, Q56, Q57, Q58, Q59, Q60, Q61, Q62, Q63, Q64, Q65, Q66, Q67, Q68, Q69, Q70, Q71, Q72, Q73, Q99, Q100, Q101, Q102, Q103, Q74, Q75, Q77, Q78, Q79, Q80, Q81, Q82, Q83, Q84, clr, List.length_nil, List.length_cons, List.getElem?_cons_zero, List.getElem?_cons_succ, Nat.reduceAdd, Nat.zero_add, Nat.add_zero, Nat.reduceLeDiff, Nat.reduceSub, ↓reduceIte, List.drop_succ_cons, List.drop_zero, List.take_succ_cons, List.take_zero, Bool.false_eq_true, List.nil_append, List.cons_append, Bool.not_true, Bool.not_false, cond_true, cond_false, bne, Q85, Q86, Q87, Q88, Q89, Q90, Q91, Q92, Q93, Q94, Q95, Q96, Q97, Q98]
        rw [loop_cong (v2 := L49 id H.length es.length c ((0 : Nat) : Int)) (by rfl), g1, ← hrest]
        simp only [c55_13, c55_14, hz2 .junk, h_ld, h_ld0, h_st, h_st0, h_bx, ldAt, stAt, preH_some, List.append_assoc, Q104, Q105, bs1, bs2, Q106, Q107, Q108, Q109, bd1, Q110, Q111, toL, List.map_cons, List.map_nil, Q112, List.set_cons_zero, List.set_cons_succ, and_self, Nat.le_refl, Q114, Q115, Q116, Q0, Q1, Q2, Q3, Q4, Q5, Q6, Q7, Q8, Q9, Q10, Q11, Q12, Q13, Q14, Q15, Q16, Q17, Q18, Q19, Q20, Q21, Q22, Q23, Q24, Q25, Q26, Q27, Q28, Q29, Q30, Q31, Q32, Q33, Q35, Q36, Q37, Q38, Q39, Q40, Q41, Q42, Q43, Q44, Q45, Q46, Q47, Q48, Q49, Q50, Q51, Q52, Q53, Q54, Q55, Q56, Q57, Q58, Q59, Q60, Q61, Q62, Q63, Q64, Q65, Q66, Q67, Q68, Q69, Q70, Q71, Q72, Q73, Q99, Q100, Q101, Q102, Q103, Q74, Q75, Q77, Q78, Q79, Q80, Q81, Q82, Q83, Q84, clr, List.length_nil, List.length_cons, List.getElem?_cons_zero, List.getElem?_cons_succ, Nat.reduceAdd, Nat.zero_add, Nat.add_zero, Nat.reduceLeDiff, Nat.reduceSub, ↓reduceIte, List.drop_succ_cons, List.drop_zero, List.take_succ_cons, List.take_zero, Bool.false_eq_true, List.nil_append, List.cons_append, Bool.not_true, Bool.not_false, cond_true, cond_false, bne, Q85, Q86, Q87, Q88, Q89, Q90, Q91, Q92, Q93, Q94, Q95, Q96, Q97, Q98]
        rw [leave_own rfl hb, hres, own_res1 (x := .agg [.v (.int .i64 k), .v (.string s), .v (.int .i64 n'), .own 4 (H.length + 2) 0 0 es.length]) _]
        · refine lvo_one ?_
          have hn : ¬ (H.length + 2 < H.length) := by omega
          simp [AV.frz2, AV.frz1, AV.frz0, hn, rowAt, hds [], g3]
          rw [← g3]; simp
        · simp only [Q91, h_ld, ldAt, Q104, Q105, bs1, bs2, Q106, Q107, Q108, Q109, bd1, Q110, Q111, toL, List.map_cons, List.map_nil, Q112, List.set_cons_zero, List.set_cons_succ, and_self, Nat.le_refl, Q114, Q115, Q116, Q0, Q1, Q2, Q3, Q4, Q5, Q6, Q7, Q8, Q9, Q10, Q11, Q12, Q13, Q14, Q15, Q16, Q17, Q18, Q19, Q20, Q21, Q22, Q23, Q24, Q25, Q26, Q27, Q28, Q29, Q30, Q31, Q32, Q33, Q35, Q36, Q37, Q38, Q39, Q40, Q41, Q42, Q43, Q44, Q45, Q46, Q47, Q48, Q49, Q50, Q51, Q52, Q53, Q54, Q55, Q56, Q57, Q58, Q59, Q60, Q61, Q62, Q63, Q64, Q65, Q66, Q67, Q68, Q69, Q70, Q71, Q72, Q73, Q99, Q100, Q101, Q102, Q103, Q74, Q75, Q77, Q78, Q79, Q80, Q81, Q82, Q83, Q84, clr, List.length_nil, List.length_cons, List.getElem?_cons_zero, List.getElem?_cons_succ, Nat.reduceAdd, Nat.zero_add, Nat.add_zero, Nat.reduceLeDiff, Nat.reduceSub, ↓reduceIte, List.drop_succ_cons, List.drop_zero, List.take_succ_cons, List.take_zero, Bool.false_eq_true, List.nil_append, List.cons_append, Bool.not_true, Bool.not_false, cond_true, cond_false, bne, Q85, Q86, Q87, Q88, Q89, Q90, Q91, Q92, Q93, Q94, Q95, Q96, Q97, Q98]
    have hstart : ∀ (r : AV) , leave H.length c55 (exec (callW F) (l.length + 1) (.seq (.region [] [] c55_0) (.seq (.seq (.region [] [] c55_1) (.cond (.var 7) (.region [] [] c55_2) .skip)) (.seq (.seq (.region [] [] c55_3) (.cond (.var 8) (.seq (.region [] [] c55_4) (.seq (.region [] [] c55_5) .ret)) .skip)) (.seq (.region [] [] c55_6) (.seq (.seq (.region [] [] c55_7) (.block 0 (.loop K49 [] c55_12))) (.seq (.region [] [] c55_13) (.seq (.region [] [] c55_14) .ret))))))) (start c55 [.agg [.v (.int .i64 k), .v (.string s), .v (.int .i64 n), c], fnV id]) (H ++ [])) = some (r, H) → callW F 55 [.agg [.v (.int .i64 k), .v (.string s), .v (.int .i64 n), c], fnV id] H = some (r, H) :=
      fun r hr => callW_own (c := c55) rfl rfl (l.length + 1) hr
    by_cases hk : k = 1
    · have h1 : (k == 1) = true := by simpa using hk
      obtain ⟨r, hr, hlv⟩ := rest (IntKind.i64.wrap (n + x)) (.agg [.v (.int .i64 k), .v (.string s), .v (.int .i64 n), c]) true
      refine ⟨r, by rw [shiftT, if_pos hk]; exact hr, hstart r ?_⟩
      rw [← hlv]
      generalize (CC.seq (.seq (.region [] [] c55_3) (.cond (.var 8) (.seq (.region [] [] c55_4) (.seq (.region [] [] c55_5) .ret)) .skip)) (.seq (.region [] [] c55_6) (.seq (.seq (.region [] [] c55_7) (.block 0 (.loop K49 [] c55_12))) (.seq (.region [] [] c55_13) (.seq (.region [] [] c55_14) .ret))))) = rest'
      have hb2 : (H ++ [.box 24 [.v (.int .i64 k), .v (.string s), .v (.int .i64 n), c], .box 24 zeroC] : List AO).all (AO.below (H ++ [.box 24 [.v (.int .i64 k), .v (.string s), .v (.int .i64 n), c], .box 24 zeroC] : List AO).length) = true := by
        rw [List.all_append, Bool.and_eq_true]
        refine ⟨all_below_mono (by simp) hb, all_below_mono (Nat.zero_le _) ?_⟩
        have hz : (AO.box 24 zeroC).below 0 = true := rfl
        simp only [AV.cells] at hbela
        have hbela : AO.below 0 (.box 24 [.v (.int .i64 k), .v (.string s), .v (.int .i64 n), c]) = true := hbela
        simp only [List.all_cons, List.all_nil, hbela, hz, Bool.and_true]
      have ht := turn_ok (x := x) (his_get hid) hb2 n
      simp only [zeroC] at ht
      simp only [start49, fnV, zeroC, c55_0, c55_1, c55_2, h1, ht, q9z, e_callv, cv_fn, h_ld, h_ld0, h_st, h_st0, h_bx, ldAt, stAt, preH_some, List.append_assoc, Q104, Q105, bs1, bs2, Q106, Q107, Q108, Q109, bd1, Q110, Q111, toL, List.map_cons, List.map_nil, Q112, List.set_cons_zero, List.set_cons_succ, and_self, Nat.le_refl, Q114, Q115, Q116, Q0, Q1, Q2, Q3, Q4, Q5, Q6, Q7, Q8, Q9, Q10, Q11, Q12, Q13, Q14, Q15, Q16, Q17, Q18, Q19, Q20, Q21, Q22, Q23, Q24, Q25, Q26, Q27, Q28, Q29, Q30, Q31, Q32, Q33, Q35, Q36, Q37, Q38, Q39, Q40, Q41, Q42, Q43, Q44, Q45, Q46, Q47, Q48, Q49, Q50, Q51, Q52, Q53, Q54, Q55, Q56, Q57, Q58, Q59, Q60, Q61, Q62, Q63, Q64, Q65, Q66, Q67, Q68, Q69, Q70, Q71, Q72, Q73, Q99, Q100, Q101, Q102, Q103, Q74, Q75, Q77, Q78, Q79, Q80, Q81, Q82, Q83, Q84, clr, List.length_nil, List.length_cons, List.getElem?_cons_zero, List.getElem?_cons_succ, Nat.reduceAdd, Nat.zero_add, Nat.add_zero, Nat.reduceLeDiff, Nat.reduceSub, ↓reduceIte, List.drop_succ_cons, List.drop_zero, List.take_succ_cons, List.take_zero, Bool.false_eq_true, List.nil_append, List.cons_append, Bool.not_true, Bool.not_false, cond_true, cond_false, bne, Q85, Q86, Q87, Q88, Q89, Q90, Q91, Q92, Q93, Q94, Q95, Q96, Q97, Q98]
    · have h1 : (k == 1) = false := by simpa using hk
      obtain ⟨r, hr, hlv⟩ := rest n (.agg [.v (.int .i64 k), .v (.string s), .v (.int .i64 n), c]) false
      refine ⟨r, by rw [shiftT, if_neg hk]; exact hr, hstart r ?_⟩
      rw [← hlv]
      generalize (CC.seq (.seq (.region [] [] c55_3) (.cond (.var 8) (.seq (.region [] [] c55_4) (.seq (.region [] [] c55_5) .ret)) .skip)) (.seq (.region [] [] c55_6) (.seq (.seq (.region [] [] c55_7) (.block 0 (.loop K49 [] c55_12))) (.seq (.region [] [] c55_13) (.seq (.region [] [] c55_14) .ret))))) = rest'
      simp only [start49, fnV, zeroC, c55_0, c55_1, h1, q9z, h_ld, h_ld0, h_st, h_st0, h_bx, ldAt, stAt, preH_some, List.append_assoc, Q104, Q105, bs1, bs2, Q106, Q107, Q108, Q109, bd1, Q110, Q111, toL, List.map_cons, List.map_nil, Q112, List.set_cons_zero, List.set_cons_succ, and_self, Nat.le_refl, Q114, Q115, Q116, Q0, Q1, Q2, Q3, Q4, Q5, Q6, Q7, Q8, Q9, Q10, Q11, Q12, Q13, Q14, Q15, Q16, Q17, Q18, Q19, Q20, Q21, Q22, Q23, Q24, Q25, Q26, Q27, Q28, Q29, Q30, Q31, Q32, Q33, Q35, Q36, Q37, Q38, Q39, Q40, Q41, Q42, Q43, Q44, Q45, Q46, Q47, Q48, Q49, Q50, Q51, Q52, Q53, Q54, Q55, Q56, Q57, Q58, Q59, Q60, Q61, Q62, Q63, Q64, Q65, Q66, Q67, Q68, Q69, Q70, Q71, Q72, Q73, Q99, Q100, Q101, Q102, Q103, Q74, Q75, Q77, Q78, Q79, Q80, Q81, Q82, Q83, Q84, clr, List.length_nil, List.length_cons, List.getElem?_cons_zero, List.getElem?_cons_succ, Nat.reduceAdd, Nat.zero_add, Nat.add_zero, Nat.reduceLeDiff, Nat.reduceSub, ↓reduceIte, List.drop_succ_cons, List.drop_zero, List.take_succ_cons, List.take_zero, Bool.false_eq_true, List.nil_append, List.cons_append, Bool.not_true, Bool.not_false, cond_true, cond_false, bne, Q85, Q86, Q87, Q88, Q89, Q90, Q91, Q92, Q93, Q94, Q95, Q96, Q97, Q98]

theorem shift34 (x : Int) {t : Tm} {a : AV} (hsz : size t ≤ 100000) (ha : IsT a t) : ∃ r, IsT r (shiftT x t) ∧ callW F 23 [a, .v (.int .i64 x)] [] = some (r, []) := by
  have hb : ([.box 24 a.cells, .box 2 [.v (.int .i64 x)], .box 24 zeroC] : List AO).all (AO.below 3) = true := by
    have : AO.below 3 (.box 24 a.cells) = true := below_mono (Nat.zero_le 3) _ ha.bel
    simp only [List.all_cons, List.all_nil, this, Bool.and_true]; rfl
  obtain ⟨r, hr, hc⟩ := each49 x 1 _ t a [.box 24 a.cells, .box 2 [.v (.int .i64 x)], .box 24 zeroC] (Nat.lt_succ_self _) hsz ha rfl hb
  refine ⟨r, hr, callW_pure (c := c23) rfl rfl 0 ?_⟩
  have g := lv1 hr
  generalize shiftT x t = u at hr
  cases hr
  cases ha
  simp only [AV.cells, zeroC, fnV] at hc
  simp only [c23, start, List.replicate, c23_0, c23_1, hc, g, e_mkfn, e_callh, q9z, Q104, Q105, bs1, bs2, Q106, Q107, Q108, Q109, bd1, Q110, Q111, toL, List.map_cons, List.map_nil, Q112, List.set_cons_zero, List.set_cons_succ, and_self, Nat.le_refl, Q113, Q114, Q115, Q116, Q0, Q1, Q2, Q3, Q4, Q5, Q6, Q7, Q8, Q9, Q10, Q11, Q12, Q13, Q14, Q15, Q16, Q17, Q18, Q19, Q20, Q21, Q22, Q23, Q24, Q25, Q26, Q27, Q28, Q29, Q30, Q31, Q32, Q33, Q34, Q35, Q36, Q37, Q38, Q39, Q40, Q41, Q42, Q43, Q44, Q45, Q46, Q47, Q48, Q49, Q50, Q51, Q52, Q53, Q54, Q55, Q56, Q57, Q58, Q59, Q60, Q61, Q62, Q63, Q64, Q65, Q66, Q67, Q68, Q69, Q70, Q71, Q72, Q73, Q99, Q100, Q101, Q102, Q103, Q74, Q75, Q76, Q77, Q78, Q79, Q80, Q81, Q82, Q83, Q84, clr, List.length_nil, List.length_cons, List.getElem?_cons_zero, List.getElem?_cons_succ, Nat.reduceAdd, Nat.zero_add, Nat.add_zero, Nat.reduceLeDiff, Nat.reduceSub, ↓reduceIte, List.drop_succ_cons, List.drop_zero, List.take_succ_cons, List.take_zero, Bool.false_eq_true, List.nil_append, List.cons_append, Bool.not_true, Bool.not_false, cond_true, cond_false, bne, Q85, Q86, Q87, Q88, Q89, Q90, Q91, Q92, Q93, Q94, Q95, Q96, Q97, Q98]
end
end Go.AE.YtgcbaefclkfnoaaDoor
end

/-! Copy of the program: the same term. -/
section
set_option linter.unusedVariables false
set_option linter.unusedSimpArgs false
namespace Go.AE.YtgcbaefclkfnoaaDoor
open Go Go.AE Go.Proofs.YtgcbaefclkfnoaaDoor

def fnC : AV := .fn (.func 57) [] []
theorem turnc_ok {H : List AO} (hb : H.all (AO.below H.length) = true) (n : Int) : callW F 57 [.v (.int .i64 n)] H = some (.v (.int .i64 n), H) := by
  refine callW_own (c := c57) rfl rfl 0 ?_
  have body : exec (callW F) 0 c57.body (start c57 [.v (.int .i64 n)]) (H ++ []) = some (.ret, [.v (.int .i64 n), .v (.int .i64 n)], H ++ []) := by
    simp only [c57, start, List.replicate, c57_0, c57_1, Q104, Q105, bs1, bs2, Q106, Q107, Q108, Q109, bd1, Q110, Q111, toL, List.map_cons, List.map_nil, Q112, List.set_cons_zero, List.set_cons_succ, and_self, Nat.le_refl, Q114, Q115, Q116, Q0, Q1, Q2, Q3, Q4, Q5, Q6, Q7, Q8, Q9, Q10, Q11, Q12, Q13, Q14, Q15, Q16, Q17, Q18, Q19, Q20, Q21, Q22, Q23, Q24, Q25, Q26, Q27, Q28, Q29, Q30, Q31, Q32, Q33, Q34, Q35, Q36, Q37, Q38, Q39, Q40, Q41, Q42, Q43, Q44, Q45, Q46, Q47, Q48, Q49, Q50, Q51, Q52, Q53, Q54, Q55, Q56, Q57, Q58, Q59, Q60, Q61, Q62, Q63, Q64, Q65, Q66, Q67, Q68, Q69, Q70, Q71, Q72, Q73, Q99, Q100, Q101, Q102, Q103, Q74, Q75, Q77, Q78, Q79, Q80, Q81, Q82, Q83, Q84, clr, List.length_nil, List.length_cons, List.getElem?_cons_zero, List.getElem?_cons_succ, Nat.reduceAdd, Nat.zero_add, Nat.add_zero, Nat.reduceLeDiff, Nat.reduceSub, ↓reduceIte, List.drop_succ_cons, List.drop_zero, List.take_succ_cons, List.take_zero, Bool.false_eq_true, List.nil_append, List.cons_append, Bool.not_true, Bool.not_false, cond_true, cond_false, bne, Q85, Q86, Q87, Q88, Q89, Q90, Q91, Q92, Q93, Q94, Q95, Q96, Q97, Q98]
  rw [body, leave_own rfl hb]
  exact lvo_one rfl
section
variable {H : List AO} {l : List AO}
def L49c (B n : Nat) (c : AV) (i : Int) : List AV := [.junk, fnC, .ptr B 0, .ptr (B + 1) 0, .own 4 (B + 2) 0 0 n, .junk, .junk, .junk, .junk, c, .v (.int .i64 n), .v (.int .i64 i), .junk]
theorem eachc_loop {K : Nat} {c : AV} {es : List AV} {cs0 cs1 : List AV} (hs : Sl 4 c es) (hm : es.length ≤ 100000) (hb : H.all (AO.below H.length) = true) (hb0 : (AO.box 24 cs0).below 0 = true) (hb1 : (AO.box 24 cs1).below 0 = true) :
    ∀ (l : List Tm) (i : Nat) (ds : List AV) (dl : List Tm) (tail : List AO) (vars : List AV), i + l.length = es.length → ds.length = i → All2 (es.drop i) l → All2 ds dl → tail.all (AO.below 0) = true →
      (∀ t ∈ l, ∀ (e : AV) (H' : List AO), IsT e t → H'.all (AO.below H'.length) = true → ∃ r, IsT r (t) ∧ callW F 55 [e, fnC] H' = some (r, H')) →
      clr K49 vars = L49c H.length es.length c i →
      ∃ ds' tail' x5 x6 x7 x8 x12, loopN (exec (callW F) K c55_12) K49 (l.length + 1) vars (H ++ (.box 24 cs0 :: .box 24 cs1 :: .row 24 4 0 (ds ++ List.replicate l.length (.agg zeroC)) 0 :: tail)) = some (.exit 0, [.junk, fnC, .ptr H.length 0, .ptr (H.length + 1) 0, .own 4 (H.length + 2) 0 0 es.length, x5, x6, x7, x8, c, .v (.int .i64 es.length), .v (.int .i64 es.length), x12], H ++ (.box 24 cs0 :: .box 24 cs1 :: .row 24 4 0 ds' 0 :: tail')) ∧ All2 ds' (dl ++ l) ∧ ds'.length = es.length := by
  intro l
  induction l with
  | nil =>
    intro i ds dl tail vars hi hds _ hall htl _ hv
    have hil : i = es.length := by simpa using hi
    subst hil
    have hlt : decide ((es.length : Int) < (es.length : Int)) = false := by simp
    refine ⟨ds, tail, .junk, .junk, .junk, .junk, .v (.bool false), loop_exit ?_, by simpa using hall, hds⟩
    rw [hv]
    simp only [L49c, c55_12, c55_8, hlt, List.replicate, List.append_nil, Q104, Q105, bs1, bs2, Q106, Q107, Q108, Q109, bd1, Q110, Q111, toL, List.map_cons, List.map_nil, Q112, List.set_cons_zero, List.set_cons_succ, and_self, Nat.le_refl, Q114, Q115, Q116, Q0, Q1, Q2, Q3, Q4, Q5, Q6, Q7, Q8, Q9, Q10, Q11, Q12, Q13, Q14, Q15, Q16, Q17, Q18, Q19, Q20, Q21, Q22, Q23, Q24, Q25, Q26, Q27, Q28, Q29, Q30, Q31, Q32, Q33, Q35, Q36, Q37, Q38, Q39, Q40, Q41, Q42, Q43, Q44, Q45, Q46, Q47, Q48, Q49, Q50, Q51, Q52, Q53, Q54, Q55, Q56, Q57, Q58, Q59, Q60, Q61, Q62, Q63, Q64, Q65, Q66, Q67, Q68, Q69, Q70, Q71, Q72, Q73, Q99, Q100, Q101, Q102, Q103, Q74, Q75, Q77, Q78, Q79, Q80, Q81, Q82, Q83, Q84, clr, List.length_nil, List.length_cons, List.getElem?_cons_zero, List.getElem?_cons_succ, Nat.reduceAdd, Nat.zero_add, Nat.add_zero, Nat.reduceLeDiff, Nat.reduceSub, ↓reduceIte, List.drop_succ_cons, List.drop_zero, List.take_succ_cons, List.take_zero, Bool.false_eq_true, List.nil_append, List.cons_append, Bool.not_true, Bool.not_false, cond_true, cond_false, bne, Q85, Q86, Q87, Q88, Q89, Q90, Q91, Q92, Q93, Q94, Q95, Q96, Q97, Q98]
  | cons t l ih =>
    intro i ds dl tail vars hi hds hes hall htl hcall hv
    have hil : i < es.length := by simp at hi; omega
    have he : es[i]? = some (es[i]'hil) := List.getElem?_eq_getElem _
    have hd : es.drop i = es[i] :: es.drop (i + 1) := List.drop_eq_getElem_cons hil
    rw [hd] at hes
    generalize es[i]'hil = e at hes he
    cases hes with
    | cons _ _ _ _ hT hs' =>
    have hlt : (decide ((i : Int) < (es.length : Int))) = true := by simp; omega
    have hlen : (ds ++ List.replicate (t :: l).length (AV.agg zeroC)).length = es.length := by simp at hi ⊢; omega
    have tl2 : (tail ++ [AO.box 24 e.cells]).all (AO.below 0) = true := by
      have : AO.below 0 (.box 24 e.cells) = true := hT.bel
      simp only [List.all_append, List.all_cons, List.all_nil, htl, this, Bool.and_true]
    have hbl : (H ++ (.box 24 cs0 :: .box 24 cs1 :: .row 24 4 0 (ds ++ List.replicate (t :: l).length (.agg zeroC)) 0 :: (tail ++ [AO.box 24 e.cells])) : List AO).all (AO.below (H ++ (.box 24 cs0 :: .box 24 cs1 :: .row 24 4 0 (ds ++ List.replicate (t :: l).length (.agg zeroC)) 0 :: (tail ++ [AO.box 24 e.cells])) : List AO).length) = true := by
      rw [List.all_append, Bool.and_eq_true]
      refine ⟨all_below_mono (by simp) hb, all_below_mono (Nat.zero_le _) ?_⟩
      have hr : ∀ L : List AV, (AO.row 24 4 0 L 0).below 0 = true := fun _ => rfl
      simp only [List.all_cons, hb0, hb1, hr, tl2, Bool.and_true]
    obtain ⟨r, hr, hc⟩ := hcall t (by simp) _ _ hT hbl
    have q1 := hs.ia he
    have q3 : ∀ h : List AO, Q76 h true 4 (.ip e.cells) = some e := fun h => hT.load
    have q4 : e.cl = some e.cells := hT.cl.1
    have q4b : e.cells.length = 4 := hT.cl.2
    have q5 := hT.asEl
    -- the row
    have row : ∀ tl : List AO, (AO.box 24 cs0 :: .box 24 cs1 :: .row 24 4 0 (ds ++ List.replicate (t :: l).length (.agg zeroC)) 0 :: tl : List AO)[2]? = some (.row 24 4 0 (ds ++ List.replicate (t :: l).length (.agg zeroC)) 0) := fun _ => rfl
    have q7 := own_ia (sz := 4) (H := H) rfl (row (tail ++ [AO.box 24 e.cells])) (n := es.length) (by omega) hil
    have hel : (ds ++ List.replicate (t :: l).length (AV.agg zeroC))[i]? = some (.agg zeroC) := by
      rw [List.getElem?_append_right (by omega)]
      simp [hds, List.replicate]
    have q8 := own_est (sz := 4) (H := H) rfl (row (tail ++ [AO.box 24 e.cells])) hel rfl (x := r) (hr.snap) hr.cl.1 hr.cl.2 hr.cellB
    have hset : (ds ++ List.replicate (t :: l).length (AV.agg zeroC)).set i (AV.agg r.cells) = (ds ++ [r]) ++ List.replicate l.length (AV.agg zeroC) := by
      rw [List.set_append_right _ _ (by omega)]
      have : AV.agg r.cells = r := hr.eta
      rw [this]
      simp [hds, List.replicate]
    rw [hset] at q8
    simp only [List.set_cons_succ, List.set_cons_zero] at q8
    have st : ∀ R R2, R = ds ++ List.replicate (t :: l).length (AV.agg zeroC) → R2 = (ds ++ [r]) ++ List.replicate l.length (AV.agg zeroC) → exec (callW F) K c55_12 (L49c H.length es.length c i) (H ++ (.box 24 cs0 :: .box 24 cs1 :: .row 24 4 0 R 0 :: tail)) = some (.normal, [.junk, fnC, .ptr H.length 0, .ptr (H.length + 1) 0, .own 4 (H.length + 2) 0 0 es.length, .v (.int .i64 i), .ptr (H.length + (tail.length + 1 + 1 + 1)) 0, .junk, .junk, c, .v (.int .i64 es.length), .v (.int .i64 ((i + 1 : Nat) : Int)), .v (.bool true)], H ++ (.box 24 cs0 :: .box 24 cs1 :: .row 24 4 0 R2 0 :: (tail ++ [AO.box 24 e.cells]))) := by
      intro R R2 hR hR2
      rw [← hR] at hc q7 q8
      rw [← hR2] at q8
      have hst : ∀ (q : AV), Q113 (H ++ (.box 24 cs0 :: .box 24 cs1 :: .row 24 4 0 R 0 :: (tail ++ [AO.box 24 zeroC]))) 4 (.ptr (H.length + (tail.length + 1 + 1 + 1)) 0) e = some (H ++ (.box 24 cs0 :: .box 24 cs1 :: .row 24 4 0 R 0 :: (tail ++ [AO.box 24 e.cells]))) := by
        intro q
        have hg := hT
        cases hg with
        | mk k s n c2 l2 hc2 =>
        simp only [h_st, stAt, zeroC, AV.cells, Q104, Q105, bs1, bs2, Q106, Q107, Q108, Q109, bd1, Q110, Q111, toL, List.map_cons, List.map_nil, Q112, List.set_cons_zero, List.set_cons_succ, and_self, Nat.le_refl, Q114, Q115, Q116, Q0, Q1, Q2, Q3, Q4, Q5, Q6, Q7, Q8, Q9, Q10, Q11, Q12, Q13, Q14, Q15, Q16, Q17, Q18, Q19, Q20, Q21, Q22, Q23, Q24, Q25, Q26, Q27, Q28, Q29, Q30, Q31, Q32, Q33, Q35, Q36, Q37, Q38, Q39, Q40, Q41, Q42, Q43, Q44, Q45, Q46, Q47, Q48, Q49, Q50, Q51, Q52, Q53, Q54, Q55, Q56, Q57, Q58, Q59, Q60, Q61, Q62, Q63, Q64, Q65, Q66, Q67, Q68, Q69, Q70, Q71, Q72, Q73, Q99, Q100, Q101, Q102, Q103, Q74, Q75, Q77, Q78, Q79, Q80, Q81, Q82, Q83, Q84, clr, List.length_nil, List.length_cons, List.getElem?_cons_zero, List.getElem?_cons_succ, Nat.reduceAdd, Nat.zero_add, Nat.add_zero, Nat.reduceLeDiff, Nat.reduceSub, ↓reduceIte, List.drop_succ_cons, List.drop_zero, List.take_succ_cons, List.take_zero, Bool.false_eq_true, List.nil_append, List.cons_append, Bool.not_true, Bool.not_false, cond_true, cond_false, bne, Q85, Q86, Q87, Q88, Q89, Q90, Q91, Q92, Q93, Q94, Q95, Q96, Q97, Q98]
        rfl
      have hld : Q76 (H ++ (.box 24 cs0 :: .box 24 cs1 :: .row 24 4 0 R 0 :: (tail ++ [AO.box 24 e.cells]))) true 4 (.ptr (H.length + (tail.length + 1 + 1 + 1)) 0) = some e := by
        rw [h_ld]
        simp only [ldAt, List.getElem?_cons_succ, Q114, q4b, List.drop_zero, q5]
        rfl
      have hst' := hst .junk
      simp only [zeroC] at hst'
      simp only [L49c, zeroC, c55_12, c55_8, c55_9, c55_10, c55_11, hlt, wrap_succ hil (small_max hm), q1, q3, q7, q8, hc, hst', hld, e_callh, q9z, h_bx, Q104, Q105, bs1, bs2, Q106, Q107, Q108, Q109, bd1, Q110, Q111, toL, List.map_cons, List.map_nil, Q112, List.set_cons_zero, List.set_cons_succ, and_self, Nat.le_refl, Q114, Q115, Q116, Q0, Q1, Q2, Q3, Q4, Q5, Q6, Q7, Q8, Q9, Q10, Q11, Q12, Q13, Q14, Q15, Q16, Q17, Q18, Q19, Q20, Q21, Q22, Q23, Q24, Q25, Q26, Q27, Q28, Q29, Q30, Q31, Q32, Q33, Q35, Q36, Q37, Q38, Q39, Q40, Q41, Q42, Q43, Q44, Q45, Q46, Q47, Q48, Q49, Q50, Q51, Q52, Q53, Q54, Q55, Q56, Q57, Q58, Q59, Q60, Q61, Q62, Q63, Q64, Q65, Q66, Q67, Q68, Q69, Q70, Q71, Q72, Q73, Q99, Q100, Q101, Q102, Q103, Q74, Q75, Q77, Q78, Q79, Q80, Q81, Q82, Q83, Q84, clr, List.length_nil, List.length_cons, List.getElem?_cons_zero, List.getElem?_cons_succ, Nat.reduceAdd, Nat.zero_add, Nat.add_zero, Nat.reduceLeDiff, Nat.reduceSub, ↓reduceIte, List.drop_succ_cons, List.drop_zero, List.take_succ_cons, List.take_zero, Bool.false_eq_true, List.nil_append, List.cons_append, Bool.not_true, Bool.not_false, cond_true, cond_false, bne, Q85, Q86, Q87, Q88, Q89, Q90, Q91, Q92, Q93, Q94, Q95, Q96, Q97, Q98]
    rw [show (t :: l).length + 1 = (l.length + 1) + 1 from rfl, loop_normal (by rw [hv]; exact st _ _ rfl rfl)]
    obtain ⟨ds', tail', x5, x6, x7, x8, x12, g1, g2, g3⟩ := ih (i + 1) (ds ++ [r]) (dl ++ [t]) (tail ++ [AO.box 24 e.cells]) [.junk, fnC, .ptr H.length 0, .ptr (H.length + 1) 0, .own 4 (H.length + 2) 0 0 es.length, .v (.int .i64 i), .ptr (H.length + (tail.length + 1 + 1 + 1)) 0, .junk, .junk, c, .v (.int .i64 es.length), .v (.int .i64 ((i + 1 : Nat) : Int)), .v (.bool true)] (by simp at hi; omega) (by simp [hds]) hs' (hall.app (.one hr)) tl2 (fun t ht => hcall t (by simp [ht])) rfl
    refine ⟨ds', tail', x5, x6, x7, x8, x12, g1, ?_, g3⟩
    simpa using g2

theorem eachc : ∀ (N : Nat) (t : Tm) (a : AV) (H : List AO), SizeOf.sizeOf t < N → size t ≤ 100000 → IsT a t → H.all (AO.below H.length) = true → ∃ r, IsT r (t) ∧ callW F 55 [a, fnC] H = some (r, H) := by
  intro N
  induction N with
  | zero => intro t a H h; omega
  | succ N ih =>
    intro t a H hN hsz ha hb
    have hbela := ha.bel
    cases ha with
    | mk k s n c l hc =>
    have h5 := Tm.mk.sizeOf_spec k s n l
    simp only [size] at hsz
    have hll := sizeL_len l
    have hcall : ∀ t ∈ l, ∀ (e : AV) (H' : List AO), IsT e t → H'.all (AO.below H'.length) = true → ∃ r, IsT r (t) ∧ callW F 55 [e, fnC] H' = some (r, H') := by
      intro t ht e H' hT
      have h6 := List.sizeOf_lt_of_mem ht
      have h7 := size_mem ht
      exact ih t e H' (by omega) (by omega) hT
    obtain ⟨es, hs, hes, hm⟩ := hc.sl
    have e1 := hes.length
    -- behind the number
    have rest : ∀ (n' : Int) (y : AV) (m : Bool), ∃ r, IsT r (.mk k s n' (l)) ∧ leave H.length c55 (exec (callW F) (l.length + 1) (.seq (.seq (.region [] [] c55_3) (.cond (.var 8) (.seq (.region [] [] c55_4) (.seq (.region [] [] c55_5) .ret)) .skip)) (.seq (.region [] [] c55_6) (.seq (.seq (.region [] [] c55_7) (.block 0 (.loop K49 [] c55_12))) (.seq (.region [] [] c55_13) (.seq (.region [] [] c55_14) .ret)))))
        [y, fnC, .ptr H.length 0, .ptr (H.length + 1) 0, .v undef, .v undef, .v undef, .v (.bool m), .v undef, .v undef, .v undef, .v undef, .v undef] (H ++ [.box 24 [.v (.int .i64 k), .v (.string s), .v (.int .i64 n'), c], .box 24 zeroC])) = some (r, H) := by
      intro n' y m
      have hres : c55.res = [.cell 3 true 4] := rfl
      rcases Nat.eq_zero_or_pos l.length with h0 | h0
      · have hl0 : l = [] := List.length_eq_zero_iff.1 h0
        subst hl0
        have he0 : es = [] := List.length_eq_zero_iff.1 (by simpa using e1)
        subst he0
        have h1 : (((0 : Nat) : Int) == 0) = true := rfl
        refine ⟨.agg [.v (.int .i64 k), .v (.string s), .v (.int .i64 n'), .v (.slice none 0 0)], .mk _ _ _ _ _ .nil, ?_⟩
        simp only [zeroC, c55_3, c55_4, c55_5, h1, hs.len, h_ld, h_ld0, h_st, h_st0, h_bx, ldAt, stAt, preH_some, List.append_assoc, Q104, Q105, bs1, bs2, Q106, Q107, Q108, Q109, bd1, Q110, Q111, toL, List.map_cons, List.map_nil, Q112, List.set_cons_zero, List.set_cons_succ, and_self, Nat.le_refl, Q114, Q115, Q116, Q0, Q1, Q2, Q3, Q4, Q5, Q6, Q7, Q8, Q9, Q10, Q11, Q12, Q13, Q14, Q15, Q16, Q17, Q18, Q19, Q20, Q21, Q22, Q23, Q24, Q25, Q26, Q27, Q28, Q29, Q30, Q31, Q32, Q33, Q35, Q36, Q37, Q38, Q39, Q40, Q41, Q42, Q43, Q44, Q45, Q46, Q47, Q48, Q49, Q50, Q51, Q52, Q53, Q54, Q55, Q56, Q57, Q58, Q59, Q60, Q61, Q62, Q63, Q64, Q65, Q66, Q67, Q68, Q69, Q70, Q71, Q72, Q73, Q99, Q100, Q101, Q102, Q103, Q74, Q75, Q77, Q78, Q79, Q80, Q81, Q82, Q83, Q84, clr, List.length_nil, List.length_cons, List.getElem?_cons_zero, List.getElem?_cons_succ, Nat.reduceAdd, Nat.zero_add, Nat.add_zero, Nat.reduceLeDiff, Nat.reduceSub, ↓reduceIte, List.drop_succ_cons, List.drop_zero, List.take_succ_cons, List.take_zero, Bool.false_eq_true, List.nil_append, List.cons_append, Bool.not_true, Bool.not_false, cond_true, cond_false, bne, Q85, Q86, Q87, Q88, Q89, Q90, Q91, Q92, Q93, Q94, Q95, Q96, Q97, Q98]
        rw [leave_own rfl hb, hres, own_res1 (x := .agg [.v (.int .i64 k), .v (.string s), .v (.int .i64 n'), .v (.slice none 0 0)]) _]
        · exact lvo_one rfl
        · simp only [Q91, h_ld, ldAt, Q104, Q105, bs1, bs2, Q106, Q107, Q108, Q109, bd1, Q110, Q111, toL, List.map_cons, List.map_nil, Q112, List.set_cons_zero, List.set_cons_succ, and_self, Nat.le_refl, Q114, Q115, Q116, Q0, Q1, Q2, Q3, Q4, Q5, Q6, Q7, Q8, Q9, Q10, Q11, Q12, Q13, Q14, Q15, Q16, Q17, Q18, Q19, Q20, Q21, Q22, Q23, Q24, Q25, Q26, Q27, Q28, Q29, Q30, Q31, Q32, Q33, Q35, Q36, Q37, Q38, Q39, Q40, Q41, Q42, Q43, Q44, Q45, Q46, Q47, Q48, Q49, Q50, Q51, Q52, Q53, Q54, Q55, Q56, Q57, Q58, Q59, Q60, Q61, Q62, Q63, Q64, Q65, Q66, Q67, Q68, Q69, Q70, Q71, Q72, Q73, Q99, Q100, Q101, Q102, Q103, Q74, Q75, Q77, Q78, Q79, Q80, Q81, Q82, Q83, Q84, clr, List.length_nil, List.length_cons, List.getElem?_cons_zero, List.getElem?_cons_succ, Nat.reduceAdd, Nat.zero_add, Nat.add_zero, Nat.reduceLeDiff, Nat.reduceSub, ↓reduceIte, List.drop_succ_cons, List.drop_zero, List.take_succ_cons, List.take_zero, Bool.false_eq_true, List.nil_append, List.cons_append, Bool.not_true, Bool.not_false, cond_true, cond_false, bne, Q85, Q86, Q87, Q88, Q89, Q90, Q91, Q92, Q93, Q94, Q95, Q96, Q97, Q98]
      · have h1 : ((es.length : Int) == 0) = false := by rw [beq_eq_false_iff_ne]; omega
        obtain ⟨ds', tail', x5, x6, x7, x8, x12, g1, g2, g3⟩ := eachc_loop (H := H) (K := l.length + 1) (cs0 := [.v (.int .i64 k), .v (.string s), .v (.int .i64 n'), c]) (cs1 := zeroC) hs (by omega) hb (by
            have : ∀ n', IsT (.agg [.v (.int .i64 k), .v (.string s), .v (.int .i64 n'), c]) (.mk k s n' l) := fun n' => .mk k s n' c l hc
            exact (this n').bel) rfl l 0 [] [] [] (L49c H.length es.length c (0 : Nat)) (by omega) rfl (by simpa using hes) .nil rfl hcall rfl
        have hrow : (List.replicate es.length (AV.agg zeroC)) = [] ++ List.replicate l.length (AV.agg zeroC) := by rw [e1]; rfl
        have mk := mkS_own (rt := 24) (sz := 4) (H := H) (l := [.box 24 [.v (.int .i64 k), .v (.string s), .v (.int .i64 n'), c], .box 24 zeroC]) (B := H.length) rfl (bytes := 56) (zero := [(.int .i64 0), (.string ⟨#[]⟩), (.int .i64 0), (.slice none 0 0)]) (n := es.length) (by have : maxLen = 9223372036854775807 := rfl; omega) (by omega)
        rw [zeroEl4, hrow] at mk
        generalize hR : ([] ++ List.replicate l.length (AV.agg zeroC)) = R at mk g1
        have hz2 : ∀ c' : AV, (AV.own 4 (H.length + 2) 0 0 es.length).cl = some [.own 4 (H.length + 2) 0 0 es.length] := fun _ => rfl
        have hds : ∀ h0 : List AO, (H ++ (.box 24 [.v (.int .i64 k), .v (.string s), .v (.int .i64 n'), .own 4 (H.length + 2) 0 0 es.length] :: .box 24 [.v (.int .i64 k), .v (.string s), .v (.int .i64 n'), .own 4 (H.length + 2) 0 0 es.length] :: .row 24 4 0 ds' 0 :: tail'))[H.length + 2]? = some (.row 24 4 0 ds' 0) := fun _ => obj_get rfl
        refine ⟨.agg [.v (.int .i64 k), .v (.string s), .v (.int .i64 n'), .slc 4 false false ds'], .mk _ _ _ _ _ (.slc _ _ _ _ (by simpa using g2) (by omega)), ?_⟩
        generalize hrest : (CC.seq (.region [] [] c55_13) (.seq (.region [] [] c55_14) .ret)) = rest
        simp only [zeroC] at mk g1
        simp only [zeroC, c55_3, c55_6, c55_7, h1, hs.len, mk, e_mkslice, h_ld, h_ld0, h_st, h_st0, h_bx, ldAt, stAt, preH_some, List.append_assoc, Q104, Q105, bs1, bs2, Q106, Q107, Q108, Q109, bd1, Q110, Q111, toL, List.map_cons, List.map_nil, Q112, List.set_cons_zero, List.set_cons_succ, and_self, Nat.le_refl, Q114, Q115, Q116, Q0, Q1, Q2, Q3, Q4, Q5, Q6, Q7, Q8, Q9, Q10, Q11, Q12, Q13, Q14, Q15, Q16, Q17, Q18, Q19, Q20, Q21, Q22, Q23, Q24, Q25, Q26, Q27, Q28, Q29, Q30, Q31, Q32, Q33, Q35, Q36, Q37, Q38, Q39, Q40, Q41, Q42, Q43, Q44, Q45, Q46, Q47, Q48, Q49, Q50, Q51, Q52, Q53, Q54, Q55, Q56, Q57, Q58, Q59, Q60, Q61, Q62, Q63, Q64, Q65, Q66, Q67, Q68, Q69, Q70, Q71, Q72, Q73, Q99, Q100, Q101, Q102, Q103, Q74, Q75, Q77, Q78, Q79, Q80, Q81, Q82, Q83, Q84, clr, List.length_nil, List.length_cons, List.getElem?_cons_zero, List.getElem?_cons_succ, Nat.reduceAdd, Nat.zero_add, Nat.add_zero, Nat.reduceLeDiff, Nat.reduceSub, ↓reduceIte, List.drop_succ_cons, List.drop_zero, List.take_succ_cons, List.take_zero, Bool.false_eq_true, List.nil_append, List.cons_append, Bool.not_true, Bool.not_false, cond_true, cond_false, bne, Q85, Q86, Q87, Q88, Q89, Q90, Q91, Q92, Q93, Q94, Q95, Q96, Q97, Q98]
        rw [loop_cong (v2 := L49c H.length es.length c ((0 : Nat) : Int)) (by rfl), g1, ← hrest]
        simp only [c55_13, c55_14, hz2 .junk, h_ld, h_ld0, h_st, h_st0, h_bx, ldAt, stAt, preH_some, List.append_assoc, Q104, Q105, bs1, bs2, Q106, Q107, Q108, Q109, bd1, Q110, Q111, toL, List.map_cons, List.map_nil, Q112, List.set_cons_zero, List.set_cons_succ, and_self, Nat.le_refl, Q114, Q115, Q116, Q0, Q1, Q2, Q3, Q4, Q5, Q6, Q7, Q8, Q9, Q10, Q11, Q12, Q13, Q14, Q15, Q16, Q17, Q18, Q19, Q20, Q21, Q22, Q23, Q24, Q25, Q26, Q27, Q28, Q29, Q30, Q31, Q32, Q33, Q35, Q36, Q37, Q38, Q39, Q40, Q41, Q42, Q43, Q44, Q45, Q46, Q47, Q48, Q49, Q50, Q51, Q52, Q53, Q54, Q55, Q56, Q57, Q58, Q59, Q60, Q61, Q62, Q63, Q64, Q65, Q66, Q67, Q68, Q69, Q70, Q71, Q72, Q73, Q99, Q100, Q101, Q102, Q103, Q74, Q75, Q77, Q78, Q79, Q80, Q81, Q82, Q83, Q84, clr, List.length_nil, List.length_cons, List.getElem?_cons_zero, List.getElem?_cons_succ, Nat.reduceAdd, Nat.zero_add, Nat.add_zero, Nat.reduceLeDiff, Nat.reduceSub, ↓reduceIte, List.drop_succ_cons, List.drop_zero, List.take_succ_cons, List.take_zero, Bool.false_eq_true, List.nil_append, List.cons_append, Bool.not_true, Bool.not_false, cond_true, cond_false, bne, Q85, Q86, Q87, Q88, Q89, Q90, Q91, Q92, Q93, Q94, Q95, Q96, Q97, Q98]
        rw [leave_own rfl hb, hres, own_res1 (x := .agg [.v (.int .i64 k), .v (.string s), .v (.int .i64 n'), .own 4 (H.length + 2) 0 0 es.length]) _]
        · refine lvo_one ?_
          have hn : ¬ (H.length + 2 < H.length) := by omega
          simp [AV.frz2, AV.frz1, AV.frz0, hn, rowAt, hds [], g3]
          rw [← g3]; simp
        · simp only [Q91, h_ld, ldAt, Q104, Q105, bs1, bs2, Q106, Q107, Q108, Q109, bd1, Q110, Q111, toL, List.map_cons, List.map_nil, Q112, List.set_cons_zero, List.set_cons_succ, and_self, Nat.le_refl, Q114, Q115, Q116, Q0, Q1, Q2, Q3, Q4, Q5, Q6, Q7, Q8, Q9, Q10, Q11, Q12, Q13, Q14, Q15, Q16, Q17, Q18, Q19, Q20, Q21, Q22, Q23, Q24, Q25, Q26, Q27, Q28, Q29, Q30, Q31, Q32, Q33, Q35, Q36, Q37, Q38, Q39, Q40, Q41, Q42, Q43, Q44, Q45, Q46, Q47, Q48, Q49, Q50, Q51, Q52, Q53, Q54, Q55, Q56, Q57, Q58, Q59, Q60, Q61, Q62, Q63, Q64, Q65, Q66, Q67, Q68, Q69, Q70, Q71, Q72, Q73, Q99, Q100, Q101, Q102, Q103, Q74, Q75, Q77, Q78, Q79, Q80, Q81, Q82, Q83, Q84, clr, List.length_nil, List.length_cons, List.getElem?_cons_zero, List.getElem?_cons_succ, Nat.reduceAdd, Nat.zero_add, Nat.add_zero, Nat.reduceLeDiff, Nat.reduceSub, ↓reduceIte, List.drop_succ_cons, List.drop_zero, List.take_succ_cons, List.take_zero, Bool.false_eq_true, List.nil_append, List.cons_append, Bool.not_true, Bool.not_false, cond_true, cond_false, bne, Q85, Q86, Q87, Q88, Q89, Q90, Q91, Q92, Q93, Q94, Q95, Q96, Q97, Q98]
    have hstart : ∀ (r : AV) , leave H.length c55 (exec (callW F) (l.length + 1) (.seq (.region [] [] c55_0) (.seq (.seq (.region [] [] c55_1) (.cond (.var 7) (.region [] [] c55_2) .skip)) (.seq (.seq (.region [] [] c55_3) (.cond (.var 8) (.seq (.region [] [] c55_4) (.seq (.region [] [] c55_5) .ret)) .skip)) (.seq (.region [] [] c55_6) (.seq (.seq (.region [] [] c55_7) (.block 0 (.loop K49 [] c55_12))) (.seq (.region [] [] c55_13) (.seq (.region [] [] c55_14) .ret))))))) (start c55 [.agg [.v (.int .i64 k), .v (.string s), .v (.int .i64 n), c], fnC]) (H ++ [])) = some (r, H) → callW F 55 [.agg [.v (.int .i64 k), .v (.string s), .v (.int .i64 n), c], fnC] H = some (r, H) :=
      fun r hr => callW_own (c := c55) rfl rfl (l.length + 1) hr
    by_cases hk : k = 1
    · have h1 : (k == 1) = true := by simpa using hk
      obtain ⟨r, hr, hlv⟩ := rest (n) (.agg [.v (.int .i64 k), .v (.string s), .v (.int .i64 n), c]) true
      refine ⟨r, hr, hstart r ?_⟩
      rw [← hlv]
      generalize (CC.seq (.seq (.region [] [] c55_3) (.cond (.var 8) (.seq (.region [] [] c55_4) (.seq (.region [] [] c55_5) .ret)) .skip)) (.seq (.region [] [] c55_6) (.seq (.seq (.region [] [] c55_7) (.block 0 (.loop K49 [] c55_12))) (.seq (.region [] [] c55_13) (.seq (.region [] [] c55_14) .ret))))) = rest'
      have hb2 : (H ++ [.box 24 [.v (.int .i64 k), .v (.string s), .v (.int .i64 n), c], .box 24 zeroC] : List AO).all (AO.below (H ++ [.box 24 [.v (.int .i64 k), .v (.string s), .v (.int .i64 n), c], .box 24 zeroC] : List AO).length) = true := by
        rw [List.all_append, Bool.and_eq_true]
        refine ⟨all_below_mono (by simp) hb, all_below_mono (Nat.zero_le _) ?_⟩
        have hz : (AO.box 24 zeroC).below 0 = true := rfl
        simp only [AV.cells] at hbela
        have hbela : AO.below 0 (.box 24 [.v (.int .i64 k), .v (.string s), .v (.int .i64 n), c]) = true := hbela
        simp only [List.all_cons, List.all_nil, hbela, hz, Bool.and_true]
      have ht := turnc_ok hb2 n
      simp only [zeroC] at ht
      simp only [start49, fnC, zeroC, c55_0, c55_1, c55_2, h1, ht, q9z, e_callv, cv_fn, h_ld, h_ld0, h_st, h_st0, h_bx, ldAt, stAt, preH_some, List.append_assoc, Q104, Q105, bs1, bs2, Q106, Q107, Q108, Q109, bd1, Q110, Q111, toL, List.map_cons, List.map_nil, Q112, List.set_cons_zero, List.set_cons_succ, and_self, Nat.le_refl, Q114, Q115, Q116, Q0, Q1, Q2, Q3, Q4, Q5, Q6, Q7, Q8, Q9, Q10, Q11, Q12, Q13, Q14, Q15, Q16, Q17, Q18, Q19, Q20, Q21, Q22, Q23, Q24, Q25, Q26, Q27, Q28, Q29, Q30, Q31, Q32, Q33, Q35, Q36, Q37, Q38, Q39, Q40, Q41, Q42, Q43, Q44, Q45, Q46, Q47, Q48, Q49, Q50, Q51, Q52, Q53, Q54, Q55, Q56, Q57, Q58, Q59, Q60, Q61, Q62, Q63, Q64, Q65, Q66, Q67, Q68, Q69, Q70, Q71, Q72, Q73, Q99, Q100, Q101, Q102, Q103, Q74, Q75, Q77, Q78, Q79, Q80, Q81, Q82, Q83, Q84, clr, List.length_nil, List.length_cons, List.getElem?_cons_zero, List.getElem?_cons_succ, Nat.reduceAdd, Nat.zero_add, Nat.add_zero, Nat.reduceLeDiff, Nat.reduceSub, ↓reduceIte, List.drop_succ_cons, List.drop_zero, List.take_succ_cons, List.take_zero, Bool.false_eq_true, List.nil_append, List.cons_append, Bool.not_true, Bool.not_false, cond_true, cond_false, bne, Q85, Q86, Q87, Q88, Q89, Q90, Q91, Q92, Q93, Q94, Q95, Q96, Q97, Q98]
    · have h1 : (k == 1) = false := by simpa using hk
      obtain ⟨r, hr, hlv⟩ := rest n (.agg [.v (.int .i64 k), .v (.string s), .v (.int .i64 n), c]) false
      refine ⟨r, hr, hstart r ?_⟩
      rw [← hlv]
      generalize (CC.seq (.seq (.region [] [] c55_3) (.cond (.var 8) (.seq (.region [] [] c55_4) (.seq (.region [] [] c55_5) .ret)) .skip)) (.seq (.region [] [] c55_6) (.seq (.seq (.region [] [] c55_7) (.block 0 (.loop K49 [] c55_12))) (.seq (.region [] [] c55_13) (.seq (.region [] [] c55_14) .ret))))) = rest'
      simp only [start49, fnC, zeroC, c55_0, c55_1, h1, q9z, h_ld, h_ld0, h_st, h_st0, h_bx, ldAt, stAt, preH_some, List.append_assoc, Q104, Q105, bs1, bs2, Q106, Q107, Q108, Q109, bd1, Q110, Q111, toL, List.map_cons, List.map_nil, Q112, List.set_cons_zero, List.set_cons_succ, and_self, Nat.le_refl, Q114, Q115, Q116, Q0, Q1, Q2, Q3, Q4, Q5, Q6, Q7, Q8, Q9, Q10, Q11, Q12, Q13, Q14, Q15, Q16, Q17, Q18, Q19, Q20, Q21, Q22, Q23, Q24, Q25, Q26, Q27, Q28, Q29, Q30, Q31, Q32, Q33, Q35, Q36, Q37, Q38, Q39, Q40, Q41, Q42, Q43, Q44, Q45, Q46, Q47, Q48, Q49, Q50, Q51, Q52, Q53, Q54, Q55, Q56, Q57, Q58, Q59, Q60, Q61, Q62, Q63, Q64, Q65, Q66, Q67, Q68, Q69, Q70, Q71, Q72, Q73, Q99, Q100, Q101, Q102, Q103, Q74, Q75, Q77, Q78, Q79, Q80, Q81, Q82, Q83, Q84, clr, List.length_nil, List.length_cons, List.getElem?_cons_zero, List.getElem?_cons_succ, Nat.reduceAdd, Nat.zero_add, Nat.add_zero, Nat.reduceLeDiff, Nat.reduceSub, ↓reduceIte, List.drop_succ_cons, List.drop_zero, List.take_succ_cons, List.take_zero, Bool.false_eq_true, List.nil_append, List.cons_append, Bool.not_true, Bool.not_false, cond_true, cond_false, bne, Q85, Q86, Q87, Q88, Q89, Q90, Q91, Q92, Q93, Q94, Q95, Q96, Q97, Q98]


theorem copy_ok {t : Tm} {a : AV} (hsz : size t ≤ 100000) (ha : IsT a t) : ∃ r, IsT r t ∧ callW F 24 [a] [] = some (r, []) := by
  have hb : ([.box 24 a.cells, .box 24 zeroC] : List AO).all (AO.below 2) = true := by
    have : AO.below 2 (.box 24 a.cells) = true := below_mono (Nat.zero_le 2) _ ha.bel
    simp only [List.all_cons, List.all_nil, this, Bool.and_true]; rfl
  obtain ⟨r, hr, hc⟩ := eachc _ t a [.box 24 a.cells, .box 24 zeroC] (Nat.lt_succ_self _) hsz ha hb
  refine ⟨r, hr, callW_pure (c := c24) rfl rfl 0 ?_⟩
  have g := lv1 hr
  have ha2 := ha
  cases ha
  cases hr
  simp only [AV.cells, zeroC, fnC] at hc
  have gf : ∀ vars env : List AV, getO vars env (.fn 57) = .fn (.func 57) [] [] := fun _ _ => rfl
  simp only [c24, start, List.replicate, c24_0, c24_1, gf, hc, g, e_mkfn, e_callh, q9z, Q104, Q105, bs1, bs2, Q106, Q107, Q108, Q109, bd1, Q110, Q111, toL, List.map_cons, List.map_nil, Q112, List.set_cons_zero, List.set_cons_succ, and_self, Nat.le_refl, Q113, Q114, Q115, Q116, Q0, Q1, Q2, Q3, Q4, Q5, Q6, Q7, Q8, Q9, Q10, Q11, Q12, Q13, Q14, Q15, Q16, Q17, Q18, Q19, Q20, Q21, Q22, Q23, Q24, Q25, Q26, Q27, Q28, Q29, Q30, Q31, Q32, Q33, Q34, Q35, Q36, Q37, Q38, Q39, Q40, Q41, Q42, Q43, Q44, Q45, Q46, Q47, Q48, Q49, Q50, Q51, Q52, Q53, Q54, Q55, Q56, Q57, Q58, Q59, Q60, Q61, Q62, Q63, Q64, Q65, Q66, Q67, Q68, Q69, Q70, Q71, Q72, Q73, Q99, Q100, Q101, Q102, Q103, Q74, Q75, Q76, Q77, Q78, Q79, Q80, Q81, Q82, Q83, Q84, clr, List.length_nil, List.length_cons, List.getElem?_cons_zero, List.getElem?_cons_succ, Nat.reduceAdd, Nat.zero_add, Nat.add_zero, Nat.reduceLeDiff, Nat.reduceSub, ↓reduceIte, List.drop_succ_cons, List.drop_zero, List.take_succ_cons, List.take_zero, Bool.false_eq_true, List.nil_append, List.cons_append, Bool.not_true, Bool.not_false, cond_true, cond_false, bne, Q85, Q86, Q87, Q88, Q89, Q90, Q91, Q92, Q93, Q94, Q95, Q96, Q97, Q98]
end
end Go.AE.YtgcbaefclkfnoaaDoor
end

/-! Terms that come in: their numbers are int64. -/
section
set_option linter.unusedVariables false
set_option linter.unusedSimpArgs false
namespace Go.AE.YtgcbaefclkfnoaaDoor
open Go Go.AE Go.Proofs.YtgcbaefclkfnoaaDoor

/-! ### Numbers that are int64 -/
def rg (n : Int) : Prop := -9223372036854775808 ≤ n ∧ n ≤ 9223372036854775807
mutual
def rgT : Tm → Prop
  | .mk _ _ n l => rg n ∧ rgL l
def rgL : List Tm → Prop
  | [] => True
  | t :: l => rgT t ∧ rgL l
end
theorem rg_of {n : Int} (h : (Lit.int .i64 n).wf = true) : rg n := by
  simp only [Lit.wf, Bool.and_eq_true, decide_eq_true_eq] at h
  exact h
theorem all2_rg : ∀ {l : List AV}, (∀ el ∈ l, ∃ t, IsT el t ∧ rgT t) → ∃ ts, All2 l ts ∧ rgL ts
  | [], _ => ⟨[], .nil, by simp [rgL]⟩
  | a :: l, h => by
    obtain ⟨t, ht, h1⟩ := h a (by simp)
    obtain ⟨ts, hts, h2⟩ := all2_rg (l := l) (fun el hm => h el (by simp [hm]))
    exact ⟨t :: ts, .cons a t l ts ht hts, by rw [rgL]; exact ⟨h1, h2⟩⟩
theorem good_rg : ∀ {t : TypeId} {cs : List AV}, WT T t cs → (t = 24 → ∃ x, IsT (.agg cs) x ∧ rgT x) ∧ (t = 22 → ∃ c l, cs = [c] ∧ IsL c l ∧ rgL l) := by
  obtain ⟨xt, f0, f1, f2, f3, ht1, ht2, e0, e1, e2, e3, hsz, hag⟩ := tmTy.t
  obtain ⟨xl, hl1, hl2⟩ := tmTy.l
  obtain ⟨xi, hi1, hi2⟩ := tmTy.i
  obtain ⟨xs, hs1, hs2⟩ := tmTy.s
  obtain ⟨xn, hn1, hn2⟩ := tmTy.n
  intro t cs w
  induction w with
  | bool t i b ht hd => exact ⟨(by rintro rfl; rw [ht1] at ht; cases ht; rw [ht2] at hd; cases hd), (by rintro rfl; rw [hl1] at ht; cases ht; rw [hl2] at hd; cases hd)⟩
  | int t i k n ht hd hw => exact ⟨(by rintro rfl; rw [ht1] at ht; cases ht; rw [ht2] at hd; cases hd), (by rintro rfl; rw [hl1] at ht; cases ht; rw [hl2] at hd; cases hd)⟩
  | str t i s ht hd hs => exact ⟨(by rintro rfl; rw [ht1] at ht; cases ht; rw [ht2] at hd; cases hd), (by rintro rfl; rw [hl1] at ht; cases ht; rw [hl2] at hd; cases hd)⟩
  | nil t i e ht hd => exact ⟨(by rintro rfl; rw [ht1] at ht; cases ht; rw [ht2] at hd; cases hd), fun _ => ⟨_, [], rfl, .nil, by simp [rgL]⟩⟩
  | slc t i e j l ht hd he hl hel has ih =>
    refine ⟨(by rintro rfl; rw [ht1] at ht; cases ht; rw [ht2] at hd; cases hd), ?_⟩
    rintro rfl
    rw [hl1] at ht; cases ht; rw [hl2] at hd; cases hd
    rw [ht1] at he; cases he
    obtain ⟨ts, hts, hr⟩ := all2_rg (l := l) (fun el hm => by
      obtain ⟨x, hx, hr⟩ := (ih el hm).1 rfl
      have := has el hm
      rw [hag] at this
      rw [← agg_cells this] at hx
      exact ⟨x, hx, hr⟩)
    rw [hsz]
    exact ⟨_, ts, rfl, .slc _ _ _ _ hts hl, hr⟩
  | struct t i fs pts ht hd hlen hf ih =>
    refine ⟨?_, (by rintro rfl; rw [hl1] at ht; cases ht; rw [hl2] at hd; cases hd)⟩
    rintro rfl
    rw [ht1] at ht; cases ht; rw [ht2] at hd; cases hd
    match pts, hlen, hf, ih with
    | [a, b, c, d], _, hf, ih =>
      have w0 := hf 0 f0 a rfl rfl
      have w1 := hf 1 f1 b rfl rfl
      have w2 := hf 2 f2 c rfl rfl
      have w3 := (ih 3 f3 d rfl rfl).2 e3
      rw [e0] at w0; rw [e1] at w1; rw [e2] at w2
      obtain ⟨k, rfl, _⟩ := wt_int_of hi1 hi2 w0
      obtain ⟨s, rfl, _⟩ := wt_str_of hs1 hs2 w1
      obtain ⟨n, rfl, hn⟩ := wt_int_of hn1 hn2 w2
      obtain ⟨x, l, rfl, hx, hr⟩ := w3
      exact ⟨_, .mk k s n x l hx, by rw [rgT]; exact ⟨rg_of hn, hr⟩⟩
theorem term_rg {a : AV} (w : WT T 24 a.cells) (e : Q77 ti24.agg a.cells = some a) : ∃ p, IsT a p ∧ rgT p := by
  obtain ⟨x, hx⟩ := (good_rg w).1 rfl
  rw [agg_cells e]; exact ⟨x, hx⟩

end Go.AE.YtgcbaefclkfnoaaDoor
end

/-! Compare's plain law: an order. TermOrders in plain Lean. -/
section
set_option linter.unusedVariables false
set_option linter.unusedSimpArgs false
namespace Go.AE.YtgcbaefclkfnoaaDoor
open Go Go.AE Go.Proofs.YtgcbaefclkfnoaaDoor

end Go.AE.YtgcbaefclkfnoaaDoor
end

/-! TermTurns in plain Lean. -/
section
set_option linter.unusedVariables false
set_option linter.unusedSimpArgs false
namespace Go.AE.YtgcbaefclkfnoaaDoor
open Go Go.AE Go.Proofs.YtgcbaefclkfnoaaDoor

/-! ### Shifted terms -/
theorem wrap_eq (n : Int) : IntKind.i64.wrap n = if n % 18446744073709551616 ≥ 9223372036854775808 then n % 18446744073709551616 - 18446744073709551616 else n % 18446744073709551616 := by
  simp [IntKind.wrap, IntKind.bits, IntKind.signed]
theorem wrap_inj {a b x : Int} (ha : rg a) (hb : rg b) : IntKind.i64.wrap (a + x) = IntKind.i64.wrap (b + x) ↔ a = b := by
  unfold rg at ha hb
  rw [wrap_eq, wrap_eq]
  constructor
  · intro h
    split at h <;> split at h <;> omega
  · rintro rfl; rfl
mutual
theorem places_shift (x : Int) : ∀ t : Tm, placesT (shiftT x t) = (placesT t).map fun n => IntKind.i64.wrap (n + x)
  | .mk k s n l => by
    rw [shiftT, placesT, placesT, List.map_append, placesL_shift x l]
    by_cases e : k = 1
    · simp [e]
    · simp [e]
theorem placesL_shift (x : Int) : ∀ l : List Tm, placesL (shiftL x l) = (placesL l).map fun n => IntKind.i64.wrap (n + x)
  | [] => by rw [shiftL, placesL, List.map_nil]
  | t :: l => by rw [shiftL, placesL, placesL, List.map_append, places_shift x t, placesL_shift x l]
end
mutual
theorem size_shift (x : Int) : ∀ t : Tm, size (shiftT x t) = size t
  | .mk k s n l => by rw [shiftT, size, size, sizeL_shift x l]
theorem sizeL_shift (x : Int) : ∀ l : List Tm, sizeL (shiftL x l) = sizeL l
  | [] => by rw [shiftL]
  | t :: l => by rw [shiftL, sizeL, sizeL, size_shift x t, sizeL_shift x l]
end
mutual
theorem places_rg : ∀ t : Tm, rgT t → ∀ n ∈ placesT t, rg n
  | .mk k s n l, h, m, hm => by
    rw [rgT] at h
    rw [placesT, List.mem_append] at hm
    rcases hm with hm | hm
    · split at hm
      · simp at hm; rw [hm]; exact h.1
      · simp at hm
    · exact placesL_rg l h.2 m hm
theorem placesL_rg : ∀ l : List Tm, rgL l → ∀ n ∈ placesL l, rg n
  | [], _, m, hm => by simp [placesL] at hm
  | t :: l, h, m, hm => by
    rw [rgL] at h
    rw [placesL, List.mem_append] at hm
    rcases hm with hm | hm
    · exact places_rg t h.1 m hm
    · exact placesL_rg l h.2 m hm
end
theorem same_self (t : Tm) : sameT t t = true := (same_iff _ t t (Nat.lt_succ_self _)).2 rfl
end Go.AE.YtgcbaefclkfnoaaDoor
end

/-! A term's variables, shifted: plain. -/
section
set_option linter.unusedVariables false
set_option linter.unusedSimpArgs false
namespace Go.AE.YtgcbaefclkfnoaaDoor
open Go Go.AE Go.Proofs.YtgcbaefclkfnoaaDoor

mutual
theorem plc_eq : ∀ t : Tm, plcT t = placesT t
  | .mk k s n l => by rw [plcT, placesT, plcL_eq l]
theorem plcL_eq : ∀ l : List Tm, plcL l = placesL l
  | [] => by rw [plcL, placesL]
  | t :: l => by rw [plcL, placesL, plc_eq t, plcL_eq l]
end
theorem wrap_rg {n : Int} (h : rg n) : IntKind.i64.wrap n = n := by rw [wrap_eq]; unfold rg at h; split <;> omega
theorem rg_wrap (n : Int) : rg (IntKind.i64.wrap n) := by
  rw [wrap_eq]; unfold rg; split <;> omega
mutual
theorem ok_of : ∀ t : Tm, rgT t → size t ≤ 1000000 → okT t
  | .mk k s n l, h, hs => by
    rw [rgT] at h
    rw [size] at hs
    have := sizeL_len l
    rw [okT]
    exact ⟨wrap_rg h.1, by omega, okL_of l h.2 (by omega)⟩
theorem okL_of : ∀ l : List Tm, rgL l → sizeL l ≤ 1000000 → okL l
  | [], _, _ => by rw [okL]; trivial
  | t :: l, h, hs => by
    rw [rgL] at h
    rw [sizeL] at hs
    rw [okL]
    exact ⟨ok_of t h.1 (by omega), okL_of l h.2 (by omega)⟩
end
mutual
theorem rg_shift (x : Int) : ∀ t : Tm, rgT t → rgT (shiftT x t)
  | .mk k s n l, h => by
    rw [rgT] at h
    rw [shiftT, rgT]
    refine ⟨?_, rgL_shift x l h.2⟩
    split
    · exact rg_wrap _
    · exact h.1
theorem rgL_shift (x : Int) : ∀ l : List Tm, rgL l → rgL (shiftL x l)
  | [], _ => by rw [shiftL, rgL]; trivial
  | t :: l, h => by
    rw [rgL] at h
    rw [shiftL, rgL]
    exact ⟨rg_shift x t h.1, rgL_shift x l h.2⟩
end
mutual
theorem plc_size : ∀ t : Tm, (plcT t).length ≤ size t
  | .mk k s n l => by
    rw [plcT, size, List.length_append]
    have := plcL_size l
    split
    · simp; omega
    · simp; omega
theorem plcL_size : ∀ l : List Tm, (plcL l).length ≤ sizeL l
  | [] => by rw [plcL, sizeL]; simp
  | t :: l => by
    rw [plcL, sizeL, List.length_append]
    have := plc_size t
    have := plcL_size l
    omega
end
mutual
theorem sizI_shift (x : Int) : ∀ t : Tm, sizI (shiftT x t) = sizI t
  | .mk k s n l => by rw [shiftT, sizI, sizI, sizL_shift x l]
theorem sizL_shift (x : Int) : ∀ (l : List Tm) (m : Int), sizL (shiftL x l) m = sizL l m
  | [], m => by rw [shiftL]
  | t :: l, m => by rw [shiftL, sizL, sizL, sizI_shift x t, sizL_shift x l]
end
mutual
theorem depI_shift (x : Int) : ∀ t : Tm, depI (shiftT x t) = depI t
  | .mk k s n l => by rw [shiftT, depI, depI, depL_shift x l]
theorem depL_shift (x : Int) : ∀ (l : List Tm) (m : Int), depL (shiftL x l) m = depL l m
  | [], m => by rw [shiftL]
  | t :: l, m => by rw [shiftL, depL, depL, depI_shift x t, depL_shift x l]
end
mutual
theorem shift_none (x : Int) : ∀ t : Tm, placesT t = [] → shiftT x t = t
  | .mk k s n l, h => by
    rw [placesT, List.append_eq_nil_iff] at h
    rw [shiftT, shiftL_none x l h.2]
    have : k ≠ 1 := by intro e; rw [if_pos e] at h; simp at h
    rw [if_neg this]
theorem shiftL_none (x : Int) : ∀ l : List Tm, placesL l = [] → shiftL x l = l
  | [], _ => by rw [shiftL]
  | t :: l, h => by
    rw [placesL, List.append_eq_nil_iff] at h
    rw [shiftL, shift_none x t h.1, shiftL_none x l h.2]
end
/-! ### each once -/
theorem uq_plain {l : List Int} (h : ∀ n ∈ l, rg n) : uq l = l.foldl addq [] := by
  unfold uq
  have key : ∀ (l acc : List Int), (∀ n ∈ l, rg n) → l.foldl (fun out x => addq out (IntKind.i64.wrap x)) acc = l.foldl addq acc := by
    intro l
    induction l with
    | nil => intro acc _; rfl
    | cons x r ih =>
      intro acc h
      rw [List.foldl_cons, List.foldl_cons, wrap_rg (h x (by simp)), ih _ (fun n hn => h n (by simp [hn]))]
  exact key l [] h
theorem fold_map (f : Int → Int) : ∀ (l acc : List Int), (∀ a ∈ acc ++ l, ∀ b ∈ acc ++ l, f a = f b → a = b) → (l.map f).foldl addq (acc.map f) = (l.foldl addq acc).map f
  | [], acc, _ => rfl
  | x :: r, acc, h => by
    rw [List.map_cons, List.foldl_cons, List.foldl_cons]
    have e : addq (acc.map f) (f x) = (addq acc x).map f := by
      unfold addq
      by_cases hx : x ∈ acc
      · rw [if_pos hx, if_pos (List.mem_map_of_mem hx)]
      · rw [if_neg hx, if_neg ?_]
        · simp
        · intro hm
          obtain ⟨y, hy, e⟩ := List.mem_map.1 hm
          have := h y (by simp [hy]) x (by simp) e
          subst this
          exact hx hy
    rw [e]
    refine fold_map f r _ (fun a ha b hb => h a ?_ b ?_)
    · unfold addq at ha
      split at ha
      · rcases List.mem_append.1 ha with h | h <;> simp [h]
      · simpa using ha
    · unfold addq at hb
      split at hb
      · rcases List.mem_append.1 hb with h | h <;> simp [h]
      · simpa using hb
theorem uq_mem {l : List Int} {n : Int} (h : n ∈ l.foldl addq []) : n ∈ l := by
  have key : ∀ (l acc : List Int), n ∈ l.foldl addq acc → n ∈ acc ∨ n ∈ l := by
    intro l
    induction l with
    | nil => intro acc h; exact .inl h
    | cons x r ih =>
      intro acc h
      rcases ih _ h with h | h
      · unfold addq at h
        split at h
        · exact .inl h
        · rcases List.mem_append.1 h with h | h
          · exact .inl h
          · simp at h; simp [h]
      · simp [h]
  simpa using key l [] h
theorem uq_nil {l : List Int} (h : l.foldl addq [] = []) : l = [] := by
  cases l with
  | nil => rfl
  | cons x r =>
    have key : ∀ (l acc : List Int), acc ≠ [] → l.foldl addq acc ≠ [] := by
      intro l
      induction l with
      | nil => intro acc h; exact h
      | cons y r ih => intro acc h; exact ih _ (by unfold addq; split <;> simp [h])
    exact absurd h (key r (addq [] x) (by simp [addq]))
theorem uq_shift {t : Tm} (x : Int) (h : rgT t) : uq (plcT (shiftT x t)) = (uq (plcT t)).map fun n => IntKind.i64.wrap (n + x) := by
  have h1 := places_rg t h
  have h2 := places_rg (shiftT x t) (rg_shift x t h)
  rw [plc_eq, plc_eq, uq_plain h1, uq_plain h2, places_shift]
  exact fold_map (fun n => IntKind.i64.wrap (n + x)) (placesT t) [] (fun a ha b hb e => (wrap_inj (h1 a (by simpa using ha)) (h1 b (by simpa using hb))).1 e)
theorem wrap_diff {n x : Int} (hn : rg n) (hx : rg x) : IntKind.i64.wrap (IntKind.i64.wrap (n + x) - n) = x := by
  unfold rg at hn hx
  rw [wrap_eq (n + x), wrap_eq]
  split <;> split <;> omega
theorem numsA_sl (l : List Int) : Sl 1 (numsA l) (l.map fun n => .v (.int .i64 n)) := by
  cases l with
  | nil => exact .nil
  | cons x r => exact .slc _ _ _
mutual
theorem size_eq : ∀ t : Tm, Go.AE.size t = size t
  | .mk k s n l => by rw [Go.AE.size, size, sizeL_eq l]
theorem sizeL_eq : ∀ l : List Tm, Go.AE.sizeL l = sizeL l
  | [] => by rw [Go.AE.sizeL, sizeL]
  | t :: l => by rw [Go.AE.sizeL, sizeL, size_eq t, sizeL_eq l]
end
theorem vars32 {t : Tm} {a : AV} (ha : IsT a t) (hr : rgT t) (hs : size t ≤ 100000) : callW F 32 [a] [] = some (numsA (uq (plcT t)), []) := by
  refine callW_oracle (g := varsG) rfl ?_
  have h1 := toT_of 1000000 a t ha (ok_of t hr (by omega)) (by rw [size_eq]; omega)
  have h2 := plc_size t
  simp only [varsG, h1]
  rw [if_pos (by omega)]
end Go.AE.YtgcbaefclkfnoaaDoor
end

/-! TermShifts in plain Lean. -/
section
set_option linter.unusedVariables false
set_option linter.unusedSimpArgs false
namespace Go.AE.YtgcbaefclkfnoaaDoor
open Go Go.AE Go.Proofs.YtgcbaefclkfnoaaDoor

def V10 (a : AV) (x : Int) (A Bv : AV) (n i : Int) (x8 x13 x14 : AV) : List AV := [.junk, .v (.int .i64 x), .ptr 0 0, .junk, .v (.bool true), .ptr 1 0, A, Bv, x8, .junk, .junk, .v (.int .i64 n), .v (.int .i64 i), x13, x14]
def K10 : List Bool := [false, true, true, false, true, true, true, true, false, false, false, true, true, false, false]
theorem ip_ld (h : List AO) (y : Int) : Q76 h false 1 (.ip [.v (.int .i64 y)]) = some (.v (.int .i64 y)) := rfl
theorem shifts_loop {x : Int} (hx : rg x) {l : List Int} (hl : ∀ n ∈ l, rg n) (hm : l.length ≤ 100000) (a : AV) (H : List AO) (v : List AV) (hv : clr K10 v = V10 a x (numsA l) (numsA (l.map fun n => IntKind.i64.wrap (n + x))) l.length 0 .junk .junk .junk) :
    ∃ x8 x14, loopN (exec (callW F) (l.length + 1) c10_15) K10 (l.length + 1) v H = some (.exit 0, V10 a x (numsA l) (numsA (l.map fun n => IntKind.i64.wrap (n + x))) l.length l.length x8 (.v (.bool false)) x14, H) := by
  have s1 := numsA_sl l
  have s2 := numsA_sl (l.map fun n => IntKind.i64.wrap (n + x))
  obtain ⟨e, v', h', g1, g2, g3⟩ := loop_rule0 (call := callW F) (K := l.length + 1) (b := c10_15) (keep := K10)
    (fun i v h => v = V10 a x (numsA l) (numsA (l.map fun n => IntKind.i64.wrap (n + x))) l.length i .junk .junk .junk ∧ h = H)
    (fun e v h => e = .exit 0 ∧ h = H ∧ ∃ x8 x14, v = V10 a x (numsA l) (numsA (l.map fun n => IntKind.i64.wrap (n + x))) l.length l.length x8 (.v (.bool false)) x14)
    l.length (m := l.length + 1) (v := v) (h := H) (by omega) ⟨hv, rfl⟩ (by
      rintro i v h hi ⟨rfl, rfl⟩
      by_cases hil : i < l.length
      · have hlt := lt_t hil
        have hw := wrap_succ hil (small_max hm)
        have e1 : (l.map fun n => AV.v (.int .i64 n))[i]? = some (.v (.int .i64 l[i])) := by simp [hil]
        have e2 : ((l.map fun n => IntKind.i64.wrap (n + x)).map fun n => AV.v (.int .i64 n))[i]? = some (.v (.int .i64 (IntKind.i64.wrap (l[i] + x)))) := by simp [hil]
        have q1 : ∀ h : List AO, iaV h 1 (numsA l) (some i) = some (.ip [.v (.int .i64 l[i])]) := fun h => s1.ia e1 h
        have q2 : ∀ h : List AO, iaV h 1 (numsA (l.map fun n => IntKind.i64.wrap (n + x))) (some i) = some (.ip [.v (.int .i64 (IntKind.i64.wrap (l[i] + x)))]) := fun h => s2.ia e2 h
        have hd := wrap_diff (hl l[i] (List.getElem_mem hil)) hx
        have hne : (!(x == x)) = false := by simp
        refine ⟨.normal, V10 a x (numsA l) (numsA (l.map fun n => IntKind.i64.wrap (n + x))) l.length ((i + 1 : Nat) : Int) (.v (.int .i64 i)) (.v (.bool true)) (.v (.bool false)), h, ?_, hil, rfl, rfl⟩
        simp only [V10, c10_15, c10_10, c10_11, c10_12, c10_14, hlt, q1, q2, ip_ld, hd, hne, hw, Q0, Q1, Q2, Q3, Q4, Q5, Q6, Q7, Q8, Q9, Q10, Q11, Q12, Q13, Q14, Q15, Q16, Q17, Q18, Q19, Q20, Q21, Q22, Q23, Q24, Q25, Q26, Q27, Q28, Q29, Q30, Q31, Q32, Q33, Q35, Q36, Q37, Q38, Q39, Q40, Q41, Q42, Q43, Q44, Q45, Q46, Q47, Q48, Q49, Q50, Q51, Q52, Q53, Q54, Q55, Q56, Q57, Q58, Q59, Q60, Q61, Q62, Q63, Q64, Q65, Q66, Q67, Q68, Q69, Q70, Q71, Q72, Q73, Q99, Q100, Q101, Q102, Q103, Q74, Q75, Q77, Q78, Q79, Q80, Q81, Q82, Q83, Q84, clr, List.length_nil, List.length_cons, List.getElem?_cons_zero, List.getElem?_cons_succ, Nat.reduceAdd, Nat.zero_add, Nat.add_zero, Nat.reduceLeDiff, Nat.reduceSub, ↓reduceIte, List.drop_succ_cons, List.drop_zero, List.take_succ_cons, List.take_zero, Bool.false_eq_true, List.nil_append, List.cons_append, Bool.not_true, Bool.not_false, cond_true, cond_false, bne, Q85, Q86, Q87, Q88, Q89, Q90, Q91, Q92, Q93, Q94, Q95, Q96, Q97, Q98, Q110, Q111, Q116, Q117, Q118, Q119, Q120, Q121, Q122, Q123, Option.map_some, Option.map_none, Q34]
      · have hie : i = l.length := by omega
        subst hie
        have hlt := lt_f (n := l.length)
        refine ⟨.exit 0, V10 a x (numsA l) (numsA (l.map fun n => IntKind.i64.wrap (n + x))) l.length l.length .junk (.v (.bool false)) .junk, h, ?_, rfl, rfl, _, _, rfl⟩
        simp only [V10, c10_15, c10_10, hlt, Q0, Q1, Q2, Q3, Q4, Q5, Q6, Q7, Q8, Q9, Q10, Q11, Q12, Q13, Q14, Q15, Q16, Q17, Q18, Q19, Q20, Q21, Q22, Q23, Q24, Q25, Q26, Q27, Q28, Q29, Q30, Q31, Q32, Q33, Q35, Q36, Q37, Q38, Q39, Q40, Q41, Q42, Q43, Q44, Q45, Q46, Q47, Q48, Q49, Q50, Q51, Q52, Q53, Q54, Q55, Q56, Q57, Q58, Q59, Q60, Q61, Q62, Q63, Q64, Q65, Q66, Q67, Q68, Q69, Q70, Q71, Q72, Q73, Q99, Q100, Q101, Q102, Q103, Q74, Q75, Q77, Q78, Q79, Q80, Q81, Q82, Q83, Q84, clr, List.length_nil, List.length_cons, List.getElem?_cons_zero, List.getElem?_cons_succ, Nat.reduceAdd, Nat.zero_add, Nat.add_zero, Nat.reduceLeDiff, Nat.reduceSub, ↓reduceIte, List.drop_succ_cons, List.drop_zero, List.take_succ_cons, List.take_zero, Bool.false_eq_true, List.nil_append, List.cons_append, Bool.not_true, Bool.not_false, cond_true, cond_false, bne, Q85, Q86, Q87, Q88, Q89, Q90, Q91, Q92, Q93, Q94, Q95, Q96, Q97, Q98, Q110, Q111, Q116, Q117, Q118, Q119, Q120, Q121, Q122, Q123, Option.map_some, Option.map_none, Q34])
  obtain ⟨rfl, rfl, x8, x14, rfl⟩ := g3
  exact ⟨x8, x14, g1⟩
theorem shifts_ok {a : AV} {t : Tm} {x : Int} (ha : IsT a t) (hr : rgT t) (hx : rg x) : callW F 10 [a, .v (.int .i64 x)] [] = some (.v (.bool true), []) := by
  have hlive := live_ok
  have hfa := ha.facts
  have hbig := big_ok (isL1 ha)
  have bxa : bx [] 24 (some a.cells) = some (.ptr 0 0, [.box 24 a.cells]) := rfl
  have e1 : Q76 [.box 24 a.cells] true 4 (.ptr 0 0) = some a := hfa.2.2.2.1 [] 24
  have b1 : ∀ h : List AO, bs1 h 4 (some a) = some (.slc 4 true true [a], h) := fun h => bs1_some ha.cl.1 ha.cl.2
  have sl : ∀ h : List AO, (AV.slc 4 true true [a]).snap1 h = some (.slc 4 true true [a]) := fun _ => rfl
  cases hB : bigT [t] with
  | true =>
    refine callW_pure (c := c10) rfl rfl 0 ?_
    rw [hB] at hbig
    simp only [c10, start, List.replicate, c10_0, c10_1, c10_2, c10_3, hlive, hfa, bxa, e1, b1, sl, hbig, Q104, Q0, Q1, Q2, Q3, Q4, Q5, Q6, Q7, Q8, Q9, Q10, Q11, Q12, Q13, Q14, Q15, Q16, Q17, Q18, Q19, Q20, Q21, Q22, Q23, Q24, Q25, Q26, Q27, Q28, Q29, Q30, Q31, Q32, Q33, Q35, Q36, Q37, Q38, Q39, Q40, Q41, Q42, Q43, Q44, Q45, Q46, Q47, Q48, Q49, Q50, Q51, Q52, Q53, Q54, Q55, Q56, Q57, Q58, Q59, Q60, Q61, Q62, Q63, Q64, Q65, Q66, Q67, Q68, Q69, Q70, Q71, Q72, Q73, Q99, Q100, Q101, Q102, Q103, Q74, Q75, Q77, Q78, Q79, Q80, Q81, Q82, Q83, Q84, clr, List.length_nil, List.length_cons, List.getElem?_cons_zero, List.getElem?_cons_succ, Nat.reduceAdd, Nat.zero_add, Nat.add_zero, Nat.reduceLeDiff, Nat.reduceSub, ↓reduceIte, List.drop_succ_cons, List.drop_zero, List.take_succ_cons, List.take_zero, Bool.false_eq_true, List.nil_append, List.cons_append, Bool.not_true, Bool.not_false, cond_true, cond_false, bne, Q85, Q86, Q87, Q88, Q89, Q90, Q91, Q92, Q93, Q94, Q95, Q96, Q97, Q98, Q110, Q111, Q116, Q117, Q118, Q119, Q120, Q121, Q122, Q123, Option.map_some, Option.map_none]
  | false =>
  rw [hB] at hbig
  have hsz := big_size hB t (by simp)
  obtain ⟨s, hs, c1⟩ := shift34 x (by omega) ha
  obtain ⟨d, hd, c2⟩ := copy_ok (by omega) ha
  have hfs := hs.facts
  have hfd := hd.facts
  have v1 := vars32 ha hr (by omega)
  have v2 := vars32 hs (rg_shift x t hr) (by rw [size_shift]; omega)
  rw [uq_shift x hr] at v2
  have z1 := size_ok _ _ _ (Nat.lt_succ_self _) ha
  have z2 := size_ok _ _ _ (Nat.lt_succ_self _) hs
  have d1 := deep_ok _ _ _ (Nat.lt_succ_self _) ha
  have d2 := deep_ok _ _ _ (Nat.lt_succ_self _) hs
  rw [sizI_shift] at z2
  rw [depI_shift] at d2
  have sm := same_ok _ (shiftT x t) t s d (Nat.lt_succ_self _) hs hd
  have hul := uq_len (plcT t)
  have hpl := plc_size t
  have hrg : ∀ n ∈ uq (plcT t), rg n := by
    intro n hn
    rw [plc_eq, uq_plain (places_rg t hr)] at hn
    exact places_rg t hr n (uq_mem hn)
  have hnil : uq (plcT t) = [] → sameT (shiftT x t) t = true := by
    intro h
    rw [plc_eq, uq_plain (places_rg t hr)] at h
    rw [shift_none x t (uq_nil h)]
    exact same_self t
  generalize uq (plcT t) = l at v1 v2 hul hrg hnil
  obtain ⟨y8, y14, lp⟩ := shifts_loop hx hrg (by omega) a [.box 24 a.cells, .box 24 s.cells] [a, .v (.int .i64 x), .ptr 0 0, .v (.bool false), .v (.bool true), .ptr 1 0, numsA l, numsA (l.map fun n => IntKind.i64.wrap (n + x)), .v undef, .v (.bool false), .v (.bool false), .v (.int .i64 l.length), .v (.int .i64 0), .v undef, .v undef] rfl
  refine callW_pure (c := c10) rfl rfl (l.length + 1) ?_
  have n1 : ∀ h : List AO, evLen h .slice (numsA l) = some l.length := fun h => by rw [(numsA_sl l).len h]; simp
  have n2 : ∀ h : List AO, evLen h .slice (numsA (l.map fun n => IntKind.i64.wrap (n + x))) = some l.length := fun h => by rw [(numsA_sl _).len h]; simp
  have bxz : bx [.box 24 a.cells] 24 (some [.v (.int .i64 0), .v (.string ⟨#[]⟩), .v (.int .i64 0), .v (.slice none 0 0)]) = some (.ptr 1 0, [.box 24 a.cells, .box 24 [.v (.int .i64 0), .v (.string ⟨#[]⟩), .v (.int .i64 0), .v (.slice none 0 0)]]) := rfl
  have stz : Q113 [.box 24 a.cells, .box 24 [.v (.int .i64 0), .v (.string ⟨#[]⟩), .v (.int .i64 0), .v (.slice none 0 0)]] 4 (.ptr 1 0) s = some [.box 24 a.cells, .box 24 s.cells] := hfs.2.2.1 [.box 24 a.cells] 24 _ _ _ _
  have f0 : Q76 [.box 24 a.cells, .box 24 s.cells] true 4 (.ptr 1 0) = some s := hfs.2.2.2.1 [.box 24 a.cells] 24
  have f1 : Q76 [.box 24 a.cells, .box 24 s.cells] true 4 (.ptr 0 0) = some a := by have h := hfa.2.2.2.1 [] 24; simpa [Q76] using h
  have nl : (!((l.length : Int) == (l.length : Int))) = false := by simp
  have nz : (!(sizI t == sizI t)) = false := by simp
  have nd : (!(depI t == depI t)) = false := by simp
  rw [show c10.body = (.seq (.region [] [] c10_0) (.seq (.region [] [] c10_1) (.seq (.seq (.region [] [] c10_2) (.cond (.var 9) (.seq (.region [] [] c10_3) .ret) .skip)) (.seq (.region [] [] c10_4) (.seq (.region [] [] c10_5) (.seq (.region [] [] c10_6) (.seq (.seq (.region [] [] c10_7) (.cond (.var 10) (.seq (.region [] [] c10_8) .ret) .skip)) (.seq (.seq (.region [] [] c10_9) (.block 0 (.loop K10 [] c10_15))) (.seq (.region [] [] c10_16) .ret))))))))) from rfl, show c10.res = [.var 3] from rfl]
  rw [show start c10 [a, .v (.int .i64 x)] = [a, .v (.int .i64 x), .v undef, .v undef, .v undef, .v undef, .v undef, .v undef, .v undef, .v undef, .v undef, .v undef, .v undef, .v undef, .v undef] from rfl]
  have sA : ∀ h : List AO, (numsA l).snap1 h = some (numsA l) := (numsA_sl l).snap
  generalize c10_15 = bb at lp ⊢
  have hgt : (sameT (shiftT x t) t = true ∨ (decide ((l.length : Int) > 0)) = true) := by
    cases l with
    | nil => exact .inl (hnil rfl)
    | cons y r => exact .inr (by simp)
  generalize numsA l = A at *
  generalize numsA (l.map fun n => IntKind.i64.wrap (n + x)) = Bv at *
  cases hg : decide ((l.length : Int) > 0) with
  | true =>
    simp only [V10, c10_0, c10_1, c10_2, c10_4, c10_5, c10_6, c10_7, c10_9, c10_16, hlive, hfa, hfs, hfd, bxa, e1, b1, sl, hbig, Q104, c1, c2, v1, v2, z1, z2, d1, d2, sm, lp, n1, n2, bxz, stz, f0, f1, nl, nz, nd, hg, snap_int, q9z, Q0, Q1, Q2, Q3, Q4, Q5, Q6, Q7, Q8, Q9, Q10, Q11, Q12, Q13, Q14, Q15, Q16, Q17, Q18, Q19, Q20, Q21, Q22, Q23, Q24, Q25, Q26, Q27, Q28, Q29, Q30, Q31, Q32, Q33, Q35, Q36, Q37, Q38, Q39, Q40, Q41, Q42, Q43, Q44, Q45, Q46, Q47, Q48, Q49, Q50, Q51, Q52, Q53, Q54, Q55, Q56, Q57, Q58, Q59, Q60, Q61, Q62, Q63, Q64, Q65, Q66, Q67, Q68, Q69, Q70, Q71, Q72, Q73, Q99, Q100, Q101, Q102, Q103, Q74, Q75, Q77, Q78, Q79, Q80, Q81, Q82, Q83, Q84, clr, List.length_nil, List.length_cons, List.getElem?_cons_zero, List.getElem?_cons_succ, Nat.reduceAdd, Nat.zero_add, Nat.add_zero, Nat.reduceLeDiff, Nat.reduceSub, ↓reduceIte, List.drop_succ_cons, List.drop_zero, List.take_succ_cons, List.take_zero, Bool.false_eq_true, List.nil_append, List.cons_append, Bool.not_true, Bool.not_false, cond_true, cond_false, bne, Q85, Q86, Q87, Q88, Q89, Q90, Q91, Q92, Q93, Q94, Q95, Q96, Q97, Q98, Q110, Q111, Q116, Q117, Q118, Q119, Q120, Q121, Q122, Q123, Option.map_some, Option.map_none]
  | false =>
    have := hgt.resolve_right (by rw [hg]; simp)
    rw [this] at sm
    simp only [V10, c10_0, c10_1, c10_2, c10_4, c10_5, c10_6, c10_7, c10_9, c10_16, hlive, hfa, hfs, hfd, bxa, e1, b1, sl, hbig, Q104, c1, c2, v1, v2, z1, z2, d1, d2, sm, lp, n1, n2, bxz, stz, f0, f1, nl, nz, nd, hg, snap_int, q9z, Q0, Q1, Q2, Q3, Q4, Q5, Q6, Q7, Q8, Q9, Q10, Q11, Q12, Q13, Q14, Q15, Q16, Q17, Q18, Q19, Q20, Q21, Q22, Q23, Q24, Q25, Q26, Q27, Q28, Q29, Q30, Q31, Q32, Q33, Q35, Q36, Q37, Q38, Q39, Q40, Q41, Q42, Q43, Q44, Q45, Q46, Q47, Q48, Q49, Q50, Q51, Q52, Q53, Q54, Q55, Q56, Q57, Q58, Q59, Q60, Q61, Q62, Q63, Q64, Q65, Q66, Q67, Q68, Q69, Q70, Q71, Q72, Q73, Q99, Q100, Q101, Q102, Q103, Q74, Q75, Q77, Q78, Q79, Q80, Q81, Q82, Q83, Q84, clr, List.length_nil, List.length_cons, List.getElem?_cons_zero, List.getElem?_cons_succ, Nat.reduceAdd, Nat.zero_add, Nat.add_zero, Nat.reduceLeDiff, Nat.reduceSub, ↓reduceIte, List.drop_succ_cons, List.drop_zero, List.take_succ_cons, List.take_zero, Bool.false_eq_true, List.nil_append, List.cons_append, Bool.not_true, Bool.not_false, cond_true, cond_false, bne, Q85, Q86, Q87, Q88, Q89, Q90, Q91, Q92, Q93, Q94, Q95, Q96, Q97, Q98, Q110, Q111, Q116, Q117, Q118, Q119, Q120, Q121, Q122, Q123, Option.map_some, Option.map_none]
end Go.AE.YtgcbaefclkfnoaaDoor
end

/-! What all rows of this program need. -/
section
set_option linter.unusedVariables false
namespace Go.Proofs.YtgcbaefclkfnoaaDoor
open Go Go.AE Go.Proofs Go.ChangeShapes Go.WideShapes Go.ChangeAt Go.RowKit
open Go.ChangeMaps (open_string shut_string)

theorem own : ownKnob Tryd.prog.godebug = none := by kernel_rfl
theorem laidOut : laidOutB Tryd.prog = true := by kernel_rfl
theorem mixed : Tryd.prog.follows .mixedOrders = true := by kernel_rfl
def G : List TypeId := [2, 3, 9, 22, 24]
theorem hG : goodB T G = true := by kernel_rfl

theorem law_calls {f : FuncId} {args : List AV} {vals : Array Value} {W : World} (hK : K W.heap.size W) (ha : ArgsRep (AllCells W) W [] args vals) {n : Nat} (he : callN F n f args [] = some (.v (.bool true), [])) :
    Calls Tryd.prog f vals W fun e W' => e = .returned (.bool true) ∧ Below W.heap.size W W' := by
  have hI : AE.Inv W.heap.size W (AllCells W) [] W [] := ⟨Below.refl _ _, Nat.le_refl _, rfl, fun id o L h => by simp at h, fun id L h => by simp at h, fun i j Li Lj h => by simp at h, fun b x h => h⟩
  refine ((callN_ok mixed hT hKs hF (fun f h => by cases h) n W.heap.size W hK).calls f args [] _ _ he (AllCells W) [] W vals hI ha).mono fun e W' h => ?_
  obtain ⟨v, I', σ', rfl, hI', _, hr⟩ := h
  cases hr
  exact ⟨rfl, hI'.below⟩
end Go.Proofs.YtgcbaefclkfnoaaDoor
end

/-! What all rows of this seat need: the world in which the library's two tables lie. -/
section
set_option linter.unusedVariables false
namespace Go.Proofs.YtgcbaefclkfnoaaDoor
open Go Go.AE Go.Proofs Go.RowKit Go.Lib Go.Shelf

def d32 : List Value := [0, 1, 28, 2, 29, 14, 24, 3, 30, 22, 20, 15, 25, 17, 4, 8, 31, 27, 13, 23, 21, 19, 16, 7, 26, 12, 18, 6, 11, 5, 10, 9].map fun z : Int => Value.int .u8 z
def d64 : List Value := [0, 1, 56, 2, 57, 49, 28, 3, 61, 58, 42, 50, 38, 29, 17, 4, 62, 47, 59, 36, 45, 43, 51, 22, 53, 39, 33, 30, 24, 18, 12, 5, 63, 55, 48, 27, 60, 41, 37, 16, 46, 35, 44, 21, 52, 32, 23, 11, 54, 26, 40, 15, 34, 20, 31, 10, 25, 14, 19, 9, 13, 8, 7, 6].map fun z : Int => Value.int .u8 z
def p10 : List Value := [1, 10, 100, 1000, 10000, 100000, 1000000, 10000000, 100000000, 1000000000, 10000000000, 100000000000, 1000000000000, 10000000000000, 100000000000000, 1000000000000000, 10000000000000000, 100000000000000000, 1000000000000000000, 10000000000000000000].map fun z : Int => Value.int .u64 z
noncomputable def laidWorld (os : Os) : World :=
  let w0 := World.holding Tryd.prog os ⟨#[], #[], []⟩
  let put (h : Array Obj) (g : Nat) (cs : Array Value) : Array Obj := h.modify g fun
    | .cells _ t frozen => .cells cs t frozen
    | o => o
  let h1 := put w0.heap (Tryd.lays196_ren.g 3) (Lib.firstTab.map fun z => Value.int .u8 z).toArray
  let h2 := put h1 (Tryd.lays196_ren.g 4) ((List.range 16).flatMap fun i => [Value.int .u8 (Lib.accLo i), Value.int .u8 (Lib.accHi i)]).toArray
  let h3 := put h2 4 d32.toArray
  let h4 := put h3 5 d64.toArray
  let h5 := put h4 3 p10.toArray
  { w0 with heap := h5 }
set_option maxRecDepth 1000000 in
theorem laid_met (os : Os) (args : Array Value) : laidMetH Tryd.prog Rows.termSizesRow.laid ((laidWorld os).forCall (fun _ _ => 0) ⟨#[], args, []⟩).memory :=
  (LaidIn.of_run (l := [("math/bits.deBruijn32tab", Rows.laid_math_bits_deBruijn32tab), ("math/bits.deBruijn64tab", Rows.laid_math_bits_deBruijn64tab), ("internal/strconv.uint64pow10", Rows.laid_internal_strconv_uint64pow10), ("unicode/utf8.acceptRanges", Rows.laid_unicode_utf8_acceptRanges), ("unicode/utf8.first", Rows.laid_unicode_utf8_first)]) [0, 1, 2, 3, 4, 5] 8 (by kernel_rfl) (by kernel_rfl) (by kernel_rfl) (by kernel_rfl)).met
def z64 : List Int := [0, 1, 56, 2, 57, 49, 28, 3, 61, 58, 42, 50, 38, 29, 17, 4, 62, 47, 59, 36, 45, 43, 51, 22, 53, 39, 33, 30, 24, 18, 12, 5, 63, 55, 48, 27, 60, 41, 37, 16, 46, 35, 44, 21, 52, 32, 23, 11, 54, 26, 40, 15, 34, 20, 31, 10, 25, 14, 19, 9, 13, 8, 7, 6]
theorem tz_of {W : World} (hL : laidMetH Tryd.prog Rows.termSizesRow.laid W) : W.cell? ⟨5, 15, none⟩ = some (.int .u8 4) ∧ 5 < W.heap.size := by
  obtain ⟨g, t, cs, fuel, p, hg, hty, hvar, hd⟩ := (Lib.laidMet.reads (l := Rows.termSizesRow.laid) hL (.tail _ (.head _)) : Lib.VarReads Tryd.prog W "math/bits.deBruijn64tab" Rows.laid_math_bits_deBruijn64tab)
  obtain rfl : g = 5 := Option.some.inj (hg.symm.trans (by kernel_rfl))
  obtain rfl : t = 122 := Option.some.inj (hty.symm.trans (by kernel_rfl))
  have hcs := Lib.cells_of_tab (zs := z64) Tryd.underlying122 Tryd.underlying5 (by kernel_rfl) (by kernel_rfl) hd
  have h1 := World.var?_cell hg hvar 15
  rw [← Array.getElem?_toList, hcs] at h1
  have h1 : W.cell? ⟨5, 15, none⟩ = some (.int .u8 4) := h1
  refine ⟨h1, ?_⟩
  unfold World.cell? at h1
  split at h1
  all_goals first
    | exact (Array.getElem?_eq_some_iff.1 ‹_›).1
    | cases h1
set_option maxRecDepth 1000000 in
theorem tabs_of {W : World} (hL : laidMetH Tryd.prog Rows.termSizesRow.laid W) : Lib.Utf8Tabs (Tryd.lays196_ren.g 3) (Tryd.lays196_ren.g 4) W ∧ (W.cell? ⟨5, 15, none⟩ = some (.int .u8 4) ∧ 5 < W.heap.size) :=
  ⟨utf8Tabs_of_readsT (U8Types.of196 Tryd.lays196) ⟨by kernel_rfl, by kernel_rfl, by kernel_rfl, by kernel_rfl, by kernel_rfl, by kernel_rfl, by kernel_rfl⟩ (Lib.laidMet.reads (l := Rows.termSizesRow.laid) hL (.tail _ (.tail _ (.tail _ (.tail _ (.head _)))))) (Lib.laidMet.reads (l := Rows.termSizesRow.laid) hL (.tail _ (.tail _ (.tail _ (.head _))))), tz_of hL⟩
end Go.Proofs.YtgcbaefclkfnoaaDoor
end

/-! The row and the card of TermShifts, out of its plain law. -/
section
set_option linter.unusedVariables false
namespace Go.Proofs.YtgcbaefclkfnoaaDoor
open Go Go.AE Go.Proofs Go.ChangeShapes Go.WideShapes Go.ChangeAt Go.RowKit
open Go.ChangeMaps (open_string shut_string)
namespace termShifts
theorem args {I : Cells} {W : World} {a0 a1 : AV} {v0 v1 : Value} (r0 : Rep I W [] a0 v0) (r1 : Rep I W [] a1 v1) : ArgsRep I W [] [a0, a1] #[v0, v1] := by
  refine ⟨rfl, fun i a h => ?_⟩
  match i, h with
  | 0, h => cases h; exact r0
  | 1, h => cases h; exact r1
def Plain : Prop := ∀ a0 a1 : AV, WT T 24 a0.cells → Q77 ti24.agg a0.cells = some a0 → WT T 2 a1.cells → Q77 ti2.agg a1.cells = some a1 →
  ∃ n, callN F n 10 [a0, a1] [] = some (.v (.bool true), [])

set_option maxRecDepth 100000 in
theorem lifted (plain : Plain) (os : Os) (started : os.Started) (H : Type) (enc : TypeId × Value → H) :
    ReturnsInHanded {} Tryd.checked os 10 .any (fun w args => (Rows.termShiftsSpec.pre enc Tryd.prog Tryd.f10 [] false w args ∧ laidMetH Tryd.prog Rows.termShiftsRow.laid w) ∧ sizedMet enc Tryd.prog Tryd.f10 (OpenSpec.ofChange Rows.termShiftsSpec) false w args)
      (Rows.termShiftsSpec.post enc Tryd.prog Tryd.f10 false true false false) := by
  refine returnsInHanded_of_change_and (C := Tryd.checked) (X := fun w _ => laidMetH Tryd.prog Rows.termShiftsRow.laid w) (fun _ _ _ hh h => h.of_heap hh) own started (by kernel_rfl) Tryd.func10
    (ChangeSpec.witness_at (enc := enc) (C := Tryd.checked) (os := os) (X := fun w _ => laidMetH Tryd.prog Rows.termShiftsRow.laid w) false (laidWorld os) #[ti24.zero, ti2.zero] 8 rfl (by kernel_rfl) (by kernel_rfl) (by kernel_rfl) (by kernel_rfl) (by kernel_rfl) (laid_met os _)) ?_
  intro W base args' ds gs before hval0 hW _ _ hL _
  have hval : ∀ (j : Nat) t v, Tryd.f10.params[j]? = some t → args'[j]? = some v → Value.okWide Tryd.prog W .any base t v := hval0
  have hW' := hW
  obtain ⟨p, q, hA0, hV, rfl, hfz, hnd⟩ := hW
  have hA : DataW.TrodAll enc Tryd.prog W 0 (fun _ => true) true Tryd.f10.params.toList args'.toList ds p := hA0
  rw [Tryd.params10] at hA hval
  obtain ⟨v0, vs0, d0, ds0, p0, q0, hargs, rfl, rfl, h0, r0⟩ := trodAll_cons hA
  obtain ⟨v1, vs1, d1, ds1, p1, q1, rfl, rfl, rfl, h1, r1⟩ := trodAll_cons r0
  obtain ⟨rfl, rfl, rfl⟩ := trodAll_nil r1
  obtain rfl : args' = #[v0, v1] := by cases args'; simp_all
  obtain ⟨rfl, rfl⟩ := trodVars_none hV
  obtain ⟨a0, w0, e0, x0⟩ := trod_arg hT hG (t := 24) (i := ti24) (by decide) rfl (hval 0 24 v0 rfl rfl) h0
  obtain ⟨a1, w1, e1, x1⟩ := trod_arg hT hG (t := 2) (i := ti2) (by decide) rfl (hval 1 2 v1 rfl rfl) h1
  have l0 : ∀ x ∈ p0, x.block < W.heap.size := by obtain ⟨m, hm⟩ := h0; exact DataW.trod_lt m _ _ _ hm
  have l1 : ∀ x ∈ p1, x.block < W.heap.size := by obtain ⟨m, hm⟩ := h1; exact DataW.trod_lt m _ _ _ hm
  obtain ⟨n, hn⟩ := plain a0 a1 w0 e0 w1 e1
  refine (law_calls ⟨rfl, tabs_of hL⟩ (args x0 x1) hn).mono fun e W' ⟨he, bel⟩ => ?_
  subst he
  exact ⟨_, rfl, _, _, _, [], _, [], hW', trodAll_mk1 (shut_bool Tryd.underlying4 _),
    (trodAll_cons_mk (Below.trod laidOut (by kernel_rfl) (of_decide_eq_true (by kernel_rfl)) h0 bel l0) (trodAll_cons_mk (Below.trod laidOut (by kernel_rfl) (of_decide_eq_true (by kernel_rfl)) h1 bel l1) trodAll_mk0)), rfl, bel.frame _, fun h => by cases h⟩
theorem over (plain : Plain) : Rows.termShiftsRow.holds Tryd.pinned (OpenSpec.ofChange Rows.termShiftsSpec) :=
  OpenClaim.holds_of_wide 10 Tryd.f10 rfl rfl rfl rfl rfl rfl rfl ⟨rfl, rfl, rfl, rfl, rfl⟩ rfl rfl rfl rfl rfl (by kernel_rfl) Tryd.func10 (by kernel_rfl)
    (of_decide_eq_true (by kernel_rfl)) (by unfold Func.isWrapper; first | (rw [if_pos (by decide +kernel)]; kernel_rfl) | (rw [if_neg (by decide +kernel)]; exact ⟨rfl, rfl⟩))
    (fun os started H enc _ => lifted plain os started H enc)
theorem proved (plain : Plain) : Rows.TermShiftsCardSaid :=
  Claim7.holds_tied_plain_at .later [] Rows.termShiftsCard.laidKinds true Rows.termShiftsCard.stood.harness Rows.termShiftsCard.stood.looks
    (over plain) (fun _ h => by cases h) (by kernel_rfl) (fun _ h => by cases h) termShifts_row_tie rfl ⟨rfl, rfl⟩ (by kernel_rfl) rfl
    (fun f fn hf hfn => by
      obtain rfl : f = 10 := Option.some.inj ((show Tryd.prog.funcNamed Rows.termShiftsRow.func = some 10 by kernel_rfl).symm.trans hf) |>.symm
      obtain rfl : fn = Tryd.f10 := (Option.some.inj (Tryd.func10.symm.trans hfn)).symm
      refine ⟨by kernel_rfl, fun j t ht => ?_⟩
      rw [Tryd.params10] at ht
      match j, ht with
      | 0, ht => cases ht; exact (show Tryd.prog.wantsStandIn 24 = false by kernel_rfl)
      | 1, ht => cases ht; exact (show Tryd.prog.wantsStandIn 2 = false by kernel_rfl)
      | _ + 2, ht => simp at ht)
    (by kernel_rfl)
end termShifts
end Go.Proofs.YtgcbaefclkfnoaaDoor
end
