/- Texts of this claim, put together. -/
import Derived.Test.YtinhjhkmpknbbaaDoorPart3
import Derived.Test.YtinhjhkmpknbbaaDoorPart2
import Derived.Test.YtinhjhkmpknbbaaDoorPart1
import Derived.Test.YtinhjhkmpknbbaaDoorEval3
import Derived.Test.YtinhjhkmpknbbaaDoorRows
import Derived.WalkKit
import Derived.ProofKit
import Derived.OpenShut
import Derived.ShutString
import Derived.ChangeOld
import Derived.Below
import Derived.SizedLaws
import Derived.Test.YtinhjhkmpknbbaaDoorTie
import Derived.Test.YtinhjhkmpknbbaaDoorCards
import Derived.Lib.LaidIn
import Derived.Lib.LaidU8T
import Derived.KernelRfl
import Derived.Handed
import Derived.SevenTiedAt
set_option linter.unusedSimpArgs false
set_option linter.unusedVariables false
section
namespace Go.AE.YtinhjhkmpknbbaaDoor
open Go Go.AE Go.Proofs.YtinhjhkmpknbbaaDoor

theorem putT2_ok {h : List AO} {b rl m : Nat} {code : List Op5} {g : Sg} (c : Dp h b rl m code g) {a : AV} {t : Tm} (ha : IsT a t) (hw : wfT t) {r : Nat} (hcl : code.length + 2 * zT t ≤ 900000) (hnx : g.next + zT t ≤ 3000001) (hml : g.met.length + zT t ≤ 900000) :
  ∃ h', callW F 63 [.ptr b 0, .v (.int .i64 r), a] h = some (.tup [], h') ∧ Dp h' b rl m (code ++ (putT r g t).1) (putT r g t).2 ∧ Rs [b, rl, m] h h' := by
 have hbe : AO.below 0 (.box 24 a.cells) = true := ha.bel
 have hf := ha.facts
 have hz : 1 ≤ zT t := by cases t; rw [zT]; omega
 have cpa := c.app (l := [.box 24 a.cells]) (by simp [below_mono (Nat.zero_le _) _ hbe])
 have gba : Gb h.length [b, rl, m] h (h ++ [.box 24 a.cells]) := Gb.app (Nat.le_refl _) _
 have bxt : bx h 24 (some a.cells) = some (.ptr h.length 0, h ++ [.box 24 a.cells]) := rfl
 have ldt : Q76 (h ++ [.box 24 a.cells]) true 4 (.ptr h.length 0) = some a := hf.2.2.2.1 h 24
 have cl := hf.2.2.2.2
 suffices step : ∃ vs H', exec (callW F) 0 c63.body (start c63 [.ptr b 0, .v (.int .i64 r), a]) (h ++ []) = some (.normal, vs, H') ∧ Dp H' b rl m (code ++ (putT r g t).1) (putT r g t).2 ∧ Gb h.length [b, rl, m] h H' by
  obtain ⟨vs, H', st, cp2, gb⟩ := step
  obtain ⟨h3, L, he, cp3, rs3⟩ := c.pre cp2 gb
  refine ⟨h3, callW_own (c := c63) rfl rfl 0 ?_, cp3, rs3⟩
  rw [st, he]
  exact leaveN _ (.inr rfl) rfl rs3.1 (by rw [← rs3.1]; exact cp3.bel)
 rw [List.append_nil]
 cases hc : isC t with
 | false =>
  have hk := wf_k hw hc
  have hgt : putT r g t = ([pIns 11 r g t], pSg g t) := by rw [putT, if_neg (by simp [hc])]
  rw [hgt]
  cases ha with
  | mk k s n cc l2 hcc =>
  have hob : (h ++ [AO.box 24 [.v (.int .i64 k), .v (.string s), .v (.int .i64 n), cc]])[h.length]? = some (.box 24 [.v (.int .i64 k), .v (.string s), .v (.int .i64 n), cc]) := bxl
  have o0 := tm_ld0 hob
  have o1 := tm_ld1 hob
  have o2 : Q76 (h ++ [AO.box 24 [.v (.int .i64 k), .v (.string s), .v (.int .i64 n), cc]]) false 1 (.ptr h.length 2) = some (.v (.int .i64 n)) := by rw [bx_ld hob]; rfl
  simp only [Tm.k] at hk
  simp only [AV.cells] at cpa ldt bxt cl gba
  rcases hk with rfl | rfl | rfl
  ·obtain ⟨H2, g1, cp2, rs2⟩ := var_ok cpa (by omega) (by omega) (.mk 1 s n cc l2 hcc) rfl (op := 11) (op2 := 12) (a := r) rfl
   refine ⟨[.ptr b 0, .v (.int .i64 r), .agg [.v (.int .i64 1), .v (.string s), .v (.int .i64 n), cc], .ptr h.length 0, .v (.int .i64 1), .v (.bool true), .v undef, .v undef], H2, ?_, cp2, gba.trans rs2.gb⟩
   have e1 : ((1 : Int) == 1) = true := rfl
   simp only [c63, start, List.replicate, c63_0, c63_1, c63_2, c63_3, bxt, cl, o0, ldt, e1, g1, e_callh, List.map_cons, List.map_nil, Q0, Q1, Q2, Q3, Q4, Q5, Q6, Q7, Q8, Q9, Q10, Q11, Q12, Q13, Q14, Q15, Q16, Q17, Q18, Q19, Q20, Q21, Q22, Q23, Q24, Q25, Q26, Q27, Q28, Q29, Q30, Q31, Q32, Q33, Q35, Q36, Q37, Q38, Q39, Q40, Q41, Q42, Q43, Q44, Q45, Q46, Q47, Q48, Q49, Q50, Q51, Q52, Q53, Q54, Q55, Q56, Q57, Q58, Q59, Q60, Q61, Q62, Q63, Q64, Q65, Q66, Q67, Q68, Q69, Q70, Q71, Q72, Q73, Q99, Q100, Q101, Q102, Q103, Q74, Q75, Q77, Q78, Q79, Q80, Q81, Q82, Q83, Q84, clr, List.length_nil, List.length_cons, List.getElem?_cons_zero, List.getElem?_cons_succ, Nat.reduceAdd, Nat.zero_add, Nat.add_zero, Nat.reduceLeDiff, Nat.reduceSub, ↓reduceIte, List.drop_succ_cons, List.drop_zero, List.take_succ_cons, List.take_zero, Bool.false_eq_true, List.nil_append, List.cons_append, Bool.not_true, Bool.not_false, cond_true, cond_false, bne, Q85, Q86, Q87, Q88, Q89, Q90, Q91, Q92, Q93, Q94, Q95, Q96, Q97, Q98, Q110, Q111, Q116, Q117, Q118, Q119, Q120, Q121, Q122, Q123, Option.map_some, Option.map_none]
  ·obtain ⟨H2, g1, cp2, rs2⟩ := cpa.lay (by omega) ⟨13, r, 0, s, 0⟩
   have bld : ∀ (vars env : List AV) (x : AV), evBuild vars (.v (.string s) :: x :: .v (.int .i64 r) :: env) [.v (.int .i64 0), .v (.int .i64 0), .v (.int .i64 0), .v (.string ⟨#[]⟩), .v (.int .i64 0)] [(0, 1, (.k (.int .i64 13))), (1, 1, (.loc 2)), (3, 1, (.loc 0))] = some [.v (.int .i64 13), .v (.int .i64 r), .v (.int .i64 0), .v (.string s), .v (.int .i64 0)] := fun _ _ _ => rfl
   refine ⟨[.ptr b 0, .v (.int .i64 r), .agg [.v (.int .i64 2), .v (.string s), .v (.int .i64 n), cc], .ptr h.length 0, .v (.int .i64 2), .v (.bool false), .v (.bool true), .v undef], H2, ?_, cp2, gba.trans rs2.gb⟩
   have e1 : ((2 : Int) == 1) = false := rfl
   have e2 : ((2 : Int) == 2) = true := rfl
   simp only [o5] at g1
   simp only [c63, start, List.replicate, c63_0, c63_1, c63_2, c63_4, c63_5, bxt, cl, o0, o1, e1, e2, bld, Q106, Q107, toL, g1, e_callh, List.map_cons, List.map_nil, Q0, Q1, Q2, Q3, Q4, Q5, Q6, Q7, Q8, Q9, Q10, Q11, Q12, Q13, Q14, Q15, Q16, Q17, Q18, Q19, Q20, Q21, Q22, Q23, Q24, Q25, Q26, Q27, Q28, Q29, Q30, Q31, Q32, Q33, Q35, Q36, Q37, Q38, Q39, Q40, Q41, Q42, Q43, Q44, Q45, Q46, Q47, Q48, Q49, Q50, Q51, Q52, Q53, Q54, Q55, Q56, Q57, Q58, Q59, Q60, Q61, Q62, Q63, Q64, Q65, Q66, Q67, Q68, Q69, Q70, Q71, Q72, Q73, Q99, Q100, Q101, Q102, Q103, Q74, Q75, Q77, Q78, Q79, Q80, Q81, Q82, Q83, Q84, clr, List.length_nil, List.length_cons, List.getElem?_cons_zero, List.getElem?_cons_succ, Nat.reduceAdd, Nat.zero_add, Nat.add_zero, Nat.reduceLeDiff, Nat.reduceSub, ↓reduceIte, List.drop_succ_cons, List.drop_zero, List.take_succ_cons, List.take_zero, Bool.false_eq_true, List.nil_append, List.cons_append, Bool.not_true, Bool.not_false, cond_true, cond_false, bne, Q85, Q86, Q87, Q88, Q89, Q90, Q91, Q92, Q93, Q94, Q95, Q96, Q97, Q98, Q110, Q111, Q116, Q117, Q118, Q119, Q120, Q121, Q122, Q123, Option.map_some, Option.map_none]
  ·obtain ⟨H2, g1, cp2, rs2⟩ := cpa.lay (by omega) ⟨14, r, 0, nos, n⟩
   have bld : ∀ (vars env : List AV) (x : AV), evBuild vars (.v (.int .i64 n) :: x :: .v (.int .i64 r) :: env) [.v (.int .i64 0), .v (.int .i64 0), .v (.int .i64 0), .v (.string ⟨#[]⟩), .v (.int .i64 0)] [(0, 1, (.k (.int .i64 14))), (1, 1, (.loc 2)), (4, 1, (.loc 0))] = some [.v (.int .i64 14), .v (.int .i64 r), .v (.int .i64 0), .v (.string ⟨#[]⟩), .v (.int .i64 n)] := fun _ _ _ => rfl
   refine ⟨[.ptr b 0, .v (.int .i64 r), .agg [.v (.int .i64 3), .v (.string s), .v (.int .i64 n), cc], .ptr h.length 0, .v (.int .i64 3), .v (.bool false), .v (.bool false), .v (.bool true)], H2, ?_, cp2, gba.trans rs2.gb⟩
   have e1 : ((3 : Int) == 1) = false := rfl
   have e2 : ((3 : Int) == 2) = false := rfl
   have e3 : ((3 : Int) == 3) = true := rfl
   simp only [o5, nos] at g1
   simp only [c63, start, List.replicate, c63_0, c63_1, c63_2, c63_4, c63_6, c63_7, bxt, cl, o0, o2, e1, e2, e3, bld, Q106, Q107, toL, g1, e_callh, List.map_cons, List.map_nil, Q0, Q1, Q2, Q3, Q4, Q5, Q6, Q7, Q8, Q9, Q10, Q11, Q12, Q13, Q14, Q15, Q16, Q17, Q18, Q19, Q20, Q21, Q22, Q23, Q24, Q25, Q26, Q27, Q28, Q29, Q30, Q31, Q32, Q33, Q35, Q36, Q37, Q38, Q39, Q40, Q41, Q42, Q43, Q44, Q45, Q46, Q47, Q48, Q49, Q50, Q51, Q52, Q53, Q54, Q55, Q56, Q57, Q58, Q59, Q60, Q61, Q62, Q63, Q64, Q65, Q66, Q67, Q68, Q69, Q70, Q71, Q72, Q73, Q99, Q100, Q101, Q102, Q103, Q74, Q75, Q77, Q78, Q79, Q80, Q81, Q82, Q83, Q84, clr, List.length_nil, List.length_cons, List.getElem?_cons_zero, List.getElem?_cons_succ, Nat.reduceAdd, Nat.zero_add, Nat.add_zero, Nat.reduceLeDiff, Nat.reduceSub, ↓reduceIte, List.drop_succ_cons, List.drop_zero, List.take_succ_cons, List.take_zero, Bool.false_eq_true, List.nil_append, List.cons_append, Bool.not_true, Bool.not_false, cond_true, cond_false, bne, Q85, Q86, Q87, Q88, Q89, Q90, Q91, Q92, Q93, Q94, Q95, Q96, Q97, Q98, Q110, Q111, Q116, Q117, Q118, Q119, Q120, Q121, Q122, Q123, Option.map_some, Option.map_none]
 | true =>
  have hk4 : t.k = 4 := of_decide_eq_true hc
  have o0 : Q76 (h ++ [AO.box 24 a.cells]) false 1 (.ptr h.length 0) = some (.v (.int .i64 4)) := by rw [box_k ha, hk4]
  obtain ⟨H2, g1, cp2, rs2⟩ := comp_ok (SizeOf.sizeOf t + 1) t (by omega) hw hc a (h ++ [.box 24 a.cells]) code g r ha cpa hcl hnx hml
  refine ⟨[.ptr b 0, .v (.int .i64 r), a, .ptr h.length 0, .v (.int .i64 4), .v (.bool false), .v (.bool false), .v (.bool false)], H2, ?_, by rw [putT, if_pos hc]; exact cp2, gba.trans rs2.gb⟩
  have e1 : ((4 : Int) == 1) = false := rfl
  have e2 : ((4 : Int) == 2) = false := rfl
  have e3 : ((4 : Int) == 3) = false := rfl
  simp only [c63, start, List.replicate, c63_0, c63_1, c63_2, c63_4, c63_6, c63_8, bxt, cl, o0, ldt, e1, e2, e3, g1, e_callh, List.map_cons, List.map_nil, Q0, Q1, Q2, Q3, Q4, Q5, Q6, Q7, Q8, Q9, Q10, Q11, Q12, Q13, Q14, Q15, Q16, Q17, Q18, Q19, Q20, Q21, Q22, Q23, Q24, Q25, Q26, Q27, Q28, Q29, Q30, Q31, Q32, Q33, Q35, Q36, Q37, Q38, Q39, Q40, Q41, Q42, Q43, Q44, Q45, Q46, Q47, Q48, Q49, Q50, Q51, Q52, Q53, Q54, Q55, Q56, Q57, Q58, Q59, Q60, Q61, Q62, Q63, Q64, Q65, Q66, Q67, Q68, Q69, Q70, Q71, Q72, Q73, Q99, Q100, Q101, Q102, Q103, Q74, Q75, Q77, Q78, Q79, Q80, Q81, Q82, Q83, Q84, clr, List.length_nil, List.length_cons, List.getElem?_cons_zero, List.getElem?_cons_succ, Nat.reduceAdd, Nat.zero_add, Nat.add_zero, Nat.reduceLeDiff, Nat.reduceSub, ↓reduceIte, List.drop_succ_cons, List.drop_zero, List.take_succ_cons, List.take_zero, Bool.false_eq_true, List.nil_append, List.cons_append, Bool.not_true, Bool.not_false, cond_true, cond_false, bne, Q85, Q86, Q87, Q88, Q89, Q90, Q91, Q92, Q93, Q94, Q95, Q96, Q97, Q98, Q110, Q111, Q116, Q117, Q118, Q119, Q120, Q121, Q122, Q123, Option.map_some, Option.map_none]
theorem putT_met (r : Nat) (g : Sg) (t : Tm) : (putT r g t).2.met.length ≤ g.met.length + zT t := by
 cases hc : isC t with
 | true =>
  have := putC_met t r g
  have : zL t.l ≤ zT t := by cases t; simp only [Tm.l, zT]; omega
  rw [putT, if_pos hc]; omega
 | false =>
  have := pSg_len g t
  have hz : 1 ≤ zT t := by cases t; rw [zT]; omega
  rw [putT, if_neg (by simp [hc])]; simp only; omega
theorem args_putT_met : ∀ (l : List Tm) (i : Nat) (g : Sg), (args putT i g l).2.met.length ≤ g.met.length + zL l
 | [], i, g => by simp [args]
 | t :: l, i, g => by
  have h1 := putT_met i g t
  have h2 := args_putT_met l (i + 1) (putT i g t).2
  simp only [args, zL]; omega
theorem args_getT_met : ∀ {l : List Tm}, wfL l → ∀ (i : Nat) (g : Sg), (args getT i g l).2.met.length ≤ g.met.length + 2 * zL l
 | [], _, i, g => by simp [args]
 | t :: l, h, i, g => by
  rw [wfL] at h
  have h1 := getT_met h.1 i g
  have h2 := args_getT_met h.2 (i + 1) (getT i g t).2
  have h3 := kT_le t
  simp only [args, zL]; omega
theorem goalT_met (g : Sg) (t : Tm) : (goalT g t).2.met.length ≤ g.met.length + zT t := by
 rw [goalT]
 split
 ·simp
 ·have := args_putT_met t.l 0 g
  cases t; simp only [zT, Tm.l] at this ⊢; omega

theorem arg1b_loop {K b rl m B B' : Nat} {c : AV} {es : List AV} {l : List Tm} (hs : Sl 4 c es) (hes : All2 es l) (hwf : wfL l) (hm : es.length ≤ 900000) :
  ∀ (l' : List Tm) (i : Nat) (H : List AO) (code : List Op5) (g : Sg) (vars : List AV), i + l'.length = es.length → l' = l.drop i → Dp H b rl m code g → B ≤ H.length →
   code.length + 2 * zL l' ≤ 900000 → g.next + zL l' ≤ 1900000 → g.met.length + 2 * zL l' ≤ 890000 → clr K26a vars = V26a B' b es.length c i .junk .junk .junk →
   ∃ H', loopN (exec (callW F) K c27_7) K26a (l'.length + 1) vars H = some (.exit 0, V26a B' b es.length c es.length .junk .junk (.v (.bool false)), H') ∧
    Dp H' b rl m (code ++ (args getT i g l').1) (args getT i g l').2 ∧ Gb B [b, rl, m] H H' := by
 have hll := hes.length
 intro l'
 induction l' with
 | nil =>
  intro i H code g vars hil _ cp hB _ _ _ hv
  have hil : i = es.length := by simpa using hil
  subst hil
  have hlt := lt_f (n := es.length)
  refine ⟨H, ?_, by simpa [args] using cp, .refl H⟩
  rw [List.length_nil, Nat.zero_add]
  refine loop_exit ?_
  rw [hv]
  simp only [V26a, c27_7, c27_3, hlt, Q0, Q1, Q2, Q3, Q4, Q5, Q6, Q7, Q8, Q9, Q10, Q11, Q12, Q13, Q14, Q15, Q16, Q17, Q18, Q19, Q20, Q21, Q22, Q23, Q24, Q25, Q26, Q27, Q28, Q29, Q30, Q31, Q32, Q33, Q35, Q36, Q37, Q38, Q39, Q40, Q41, Q42, Q43, Q44, Q45, Q46, Q47, Q48, Q49, Q50, Q51, Q52, Q53, Q54, Q55, Q56, Q57, Q58, Q59, Q60, Q61, Q62, Q63, Q64, Q65, Q66, Q67, Q68, Q69, Q70, Q71, Q72, Q73, Q99, Q100, Q101, Q102, Q103, Q74, Q75, Q77, Q78, Q79, Q80, Q81, Q82, Q83, Q84, clr, List.length_nil, List.length_cons, List.getElem?_cons_zero, List.getElem?_cons_succ, Nat.reduceAdd, Nat.zero_add, Nat.add_zero, Nat.reduceLeDiff, Nat.reduceSub, ↓reduceIte, List.drop_succ_cons, List.drop_zero, List.take_succ_cons, List.take_zero, Bool.false_eq_true, List.nil_append, List.cons_append, Bool.not_true, Bool.not_false, cond_true, cond_false, bne, Q85, Q86, Q87, Q88, Q89, Q90, Q91, Q92, Q93, Q94, Q95, Q96, Q97, Q98, Q110, Q111, Q116, Q117, Q118, Q119, Q120, Q121, Q122, Q123, Option.map_some, Option.map_none, Q34]
 | cons t l' ih =>
  intro i H code g vars hil hd cp hB hcl hnx hml hv
  have hil' : i < es.length := by simp at hil; omega
  have hll' : i < l.length := by omega
  have hti : l[i] = t := by
   have h1 := List.drop_eq_getElem_cons hll'
   rw [← hd] at h1
   exact (List.cons.inj h1).1.symm
  have hd' : l' = l.drop (i + 1) := by
   have h1 := List.drop_eq_getElem_cons hll'
   rw [← hd] at h1
   exact (List.cons.inj h1).2
  have hT := hes.at hil' hll'
  rw [hti] at hT
  have htm : t ∈ l := by rw [← hti]; exact List.getElem_mem hll'
  have he : es[i]? = some es[i] := List.getElem?_eq_getElem hil'
  generalize es[i] = e at hT he
  have hf := hT.facts
  have q1 := fun h : List AO => hs.ia he h
  have hlt := lt_t hil'
  have hw := wrap_succ hil' (small_maxM hm)
  have q9 : ∀ h : List AO, bx h 24 (ofVal (.agg #[(.int .i64 0), (.string ⟨#[]⟩), (.int .i64 0), (.slice none 0 0)])).cl = some (.ptr h.length 0, h ++ [.box 24 [.v (.int .i64 0), .v (.string ⟨#[]⟩), .v (.int .i64 0), .v (.slice none 0 0)]]) := fun h => by rw [q9z]; rfl
  rw [show (t :: l').length + 1 = (l'.length + 1) + 1 from rfl]
  simp only [zL] at hcl hnx hml
  simp only [List.length_cons] at hil
  have hbe : AO.below 0 (.box 24 e.cells) = true := hT.bel
  have cpa := cp.app (l := [.box 24 e.cells]) (by simp [below_mono (Nat.zero_le _) _ hbe])
  have kl := kT_le t
  have cl := cT_le t
  obtain ⟨H2, g1, cp2, rs2⟩ := getT2_ok cpa hT (wfL_mem hwf t htm) (r := i) (by omega) (by omega) (by omega)
  have st : exec (callW F) K c27_7 (V26a B' b es.length c i .junk .junk .junk) H = some (.normal, V26a B' b es.length c ((i + 1 : Nat) : Int) (.v (.int .i64 i)) (.ptr H.length 0) (.v (.bool true)), H2) := by
   simp only [V26a, c27_7, c27_3, c27_4, c27_5, c27_6, hlt, hw, q1, hf, q9, g1, e_callh, List.map_cons, List.map_nil, Q0, Q1, Q2, Q3, Q4, Q5, Q6, Q7, Q8, Q9, Q10, Q11, Q12, Q13, Q14, Q15, Q16, Q17, Q18, Q19, Q20, Q21, Q22, Q23, Q24, Q25, Q26, Q27, Q28, Q29, Q30, Q31, Q32, Q33, Q35, Q36, Q37, Q38, Q39, Q40, Q41, Q42, Q43, Q44, Q45, Q46, Q47, Q48, Q49, Q50, Q51, Q52, Q53, Q54, Q55, Q56, Q57, Q58, Q59, Q60, Q61, Q62, Q63, Q64, Q65, Q66, Q67, Q68, Q69, Q70, Q71, Q72, Q73, Q99, Q100, Q101, Q102, Q103, Q74, Q75, Q77, Q78, Q79, Q80, Q81, Q82, Q83, Q84, clr, List.length_nil, List.length_cons, List.getElem?_cons_zero, List.getElem?_cons_succ, Nat.reduceAdd, Nat.zero_add, Nat.add_zero, Nat.reduceLeDiff, Nat.reduceSub, ↓reduceIte, List.drop_succ_cons, List.drop_zero, List.take_succ_cons, List.take_zero, Bool.false_eq_true, List.nil_append, List.cons_append, Bool.not_true, Bool.not_false, cond_true, cond_false, bne, Q85, Q86, Q87, Q88, Q89, Q90, Q91, Q92, Q93, Q94, Q95, Q96, Q97, Q98, Q110, Q111, Q116, Q117, Q118, Q119, Q120, Q121, Q122, Q123, Option.map_some, Option.map_none]
  rw [loop_normal (by rw [hv]; exact st)]
  have hgl := getT_len (wfL_mem hwf t htm) i g
  have hgn := getT_next i g t
  have hgm := getT_met (wfL_mem hwf t htm) i g
  have hgb : Gb B [b, rl, m] H H2 := (Gb.app hB _).trans rs2.gb
  obtain ⟨H', k1, k2, k3⟩ := ih (i + 1) H2 _ _ (V26a B' b es.length c ((i + 1 : Nat) : Int) (.v (.int .i64 i)) (.ptr H.length 0) (.v (.bool true))) (by omega) hd' cp2 (by have := hgb.1; omega) (by rw [List.length_append, hgl]; omega) (by omega) (by omega) rfl
  refine ⟨H', k1, ?_, hgb.trans k3⟩
  rw [args]
  simp only
  rw [← List.append_assoc]
  exact k2

theorem arg2b_loop {K b rl m B B' G bn : Nat} {bc : AV} {j : Int} {c : AV} {es : List AV} {l : List Tm} (hs : Sl 4 c es) (hes : All2 es l) (hwf : wfL l) (hm : es.length ≤ 900000) :
  ∀ (l' : List Tm) (i : Nat) (H : List AO) (code : List Op5) (g : Sg) (vars : List AV), i + l'.length = es.length → l' = l.drop i → Dp H b rl m code g → B ≤ H.length →
   code.length + 2 * zL l' ≤ 900000 → g.next + zL l' ≤ 3000000 → g.met.length + zL l' ≤ 890000 → clr K26c vars = V26c B' b G bn bc j es.length c i .junk .junk .junk →
   ∃ H', loopN (exec (callW F) K c27_18) K26c (l'.length + 1) vars H = some (.exit 4, V26c B' b G bn bc j es.length c es.length .junk .junk (.v (.bool false)), H') ∧
    Dp H' b rl m (code ++ (args putT i g l').1) (args putT i g l').2 ∧ Gb B [b, rl, m] H H' := by
 have hll := hes.length
 intro l'
 induction l' with
 | nil =>
  intro i H code g vars hil _ cp hB _ _ _ hv
  have hil : i = es.length := by simpa using hil
  subst hil
  have hlt := lt_f (n := es.length)
  refine ⟨H, ?_, by simpa [args] using cp, .refl H⟩
  rw [List.length_nil, Nat.zero_add]
  refine loop_exit ?_
  rw [hv]
  simp only [V26c, c27_18, c27_14, hlt, Q0, Q1, Q2, Q3, Q4, Q5, Q6, Q7, Q8, Q9, Q10, Q11, Q12, Q13, Q14, Q15, Q16, Q17, Q18, Q19, Q20, Q21, Q22, Q23, Q24, Q25, Q26, Q27, Q28, Q29, Q30, Q31, Q32, Q33, Q35, Q36, Q37, Q38, Q39, Q40, Q41, Q42, Q43, Q44, Q45, Q46, Q47, Q48, Q49, Q50, Q51, Q52, Q53, Q54, Q55, Q56, Q57, Q58, Q59, Q60, Q61, Q62, Q63, Q64, Q65, Q66, Q67, Q68, Q69, Q70, Q71, Q72, Q73, Q99, Q100, Q101, Q102, Q103, Q74, Q75, Q77, Q78, Q79, Q80, Q81, Q82, Q83, Q84, clr, List.length_nil, List.length_cons, List.getElem?_cons_zero, List.getElem?_cons_succ, Nat.reduceAdd, Nat.zero_add, Nat.add_zero, Nat.reduceLeDiff, Nat.reduceSub, ↓reduceIte, List.drop_succ_cons, List.drop_zero, List.take_succ_cons, List.take_zero, Bool.false_eq_true, List.nil_append, List.cons_append, Bool.not_true, Bool.not_false, cond_true, cond_false, bne, Q85, Q86, Q87, Q88, Q89, Q90, Q91, Q92, Q93, Q94, Q95, Q96, Q97, Q98, Q110, Q111, Q116, Q117, Q118, Q119, Q120, Q121, Q122, Q123, Option.map_some, Option.map_none, Q34]
 | cons t l' ih =>
  intro i H code g vars hil hd cp hB hcl hnx hml hv
  have hil' : i < es.length := by simp at hil; omega
  have hll' : i < l.length := by omega
  have hti : l[i] = t := by
   have h1 := List.drop_eq_getElem_cons hll'
   rw [← hd] at h1
   exact (List.cons.inj h1).1.symm
  have hd' : l' = l.drop (i + 1) := by
   have h1 := List.drop_eq_getElem_cons hll'
   rw [← hd] at h1
   exact (List.cons.inj h1).2
  have hT := hes.at hil' hll'
  rw [hti] at hT
  have htm : t ∈ l := by rw [← hti]; exact List.getElem_mem hll'
  have he : es[i]? = some es[i] := List.getElem?_eq_getElem hil'
  generalize es[i] = e at hT he
  have hf := hT.facts
  have q1 := fun h : List AO => hs.ia he h
  have hlt := lt_t hil'
  have hw := wrap_succ hil' (small_maxM hm)
  have q9 : ∀ h : List AO, bx h 24 (ofVal (.agg #[(.int .i64 0), (.string ⟨#[]⟩), (.int .i64 0), (.slice none 0 0)])).cl = some (.ptr h.length 0, h ++ [.box 24 [.v (.int .i64 0), .v (.string ⟨#[]⟩), .v (.int .i64 0), .v (.slice none 0 0)]]) := fun h => by rw [q9z]; rfl
  rw [show (t :: l').length + 1 = (l'.length + 1) + 1 from rfl]
  simp only [zL] at hcl hnx hml
  simp only [List.length_cons] at hil
  have hbe : AO.below 0 (.box 24 e.cells) = true := hT.bel
  have cpa := cp.app (l := [.box 24 e.cells]) (by simp [below_mono (Nat.zero_le _) _ hbe])
  obtain ⟨H2, g1, cp2, rs2⟩ := putT2_ok cpa hT (wfL_mem hwf t htm) (r := i) (by omega) (by omega) (by omega)
  have st : exec (callW F) K c27_18 (V26c B' b G bn bc j es.length c i .junk .junk .junk) H = some (.normal, V26c B' b G bn bc j es.length c ((i + 1 : Nat) : Int) (.v (.int .i64 i)) (.ptr H.length 0) (.v (.bool true)), H2) := by
   simp only [V26c, c27_18, c27_14, c27_15, c27_16, c27_17, hlt, hw, q1, hf, q9, g1, e_callh, List.map_cons, List.map_nil, Q0, Q1, Q2, Q3, Q4, Q5, Q6, Q7, Q8, Q9, Q10, Q11, Q12, Q13, Q14, Q15, Q16, Q17, Q18, Q19, Q20, Q21, Q22, Q23, Q24, Q25, Q26, Q27, Q28, Q29, Q30, Q31, Q32, Q33, Q35, Q36, Q37, Q38, Q39, Q40, Q41, Q42, Q43, Q44, Q45, Q46, Q47, Q48, Q49, Q50, Q51, Q52, Q53, Q54, Q55, Q56, Q57, Q58, Q59, Q60, Q61, Q62, Q63, Q64, Q65, Q66, Q67, Q68, Q69, Q70, Q71, Q72, Q73, Q99, Q100, Q101, Q102, Q103, Q74, Q75, Q77, Q78, Q79, Q80, Q81, Q82, Q83, Q84, clr, List.length_nil, List.length_cons, List.getElem?_cons_zero, List.getElem?_cons_succ, Nat.reduceAdd, Nat.zero_add, Nat.add_zero, Nat.reduceLeDiff, Nat.reduceSub, ↓reduceIte, List.drop_succ_cons, List.drop_zero, List.take_succ_cons, List.take_zero, Bool.false_eq_true, List.nil_append, List.cons_append, Bool.not_true, Bool.not_false, cond_true, cond_false, bne, Q85, Q86, Q87, Q88, Q89, Q90, Q91, Q92, Q93, Q94, Q95, Q96, Q97, Q98, Q110, Q111, Q116, Q117, Q118, Q119, Q120, Q121, Q122, Q123, Option.map_some, Option.map_none]
  rw [loop_normal (by rw [hv]; exact st)]
  have hgl := putT_len (wfL_mem hwf t htm) i g
  have hgn := putT_next i g t
  have hgm := putT_met i g t
  have hgb : Gb B [b, rl, m] H H2 := (Gb.app hB _).trans rs2.gb
  obtain ⟨H', k1, k2, k3⟩ := ih (i + 1) H2 _ _ (V26c B' b G bn bc j es.length c ((i + 1 : Nat) : Int) (.v (.int .i64 i)) (.ptr H.length 0) (.v (.bool true))) (by omega) hd' cp2 (by have := hgb.1; omega) (by rw [List.length_append]; omega) (by omega) (by omega) rfl
  refine ⟨H', k1, ?_, hgb.trans k3⟩
  rw [args]
  simp only
  rw [← List.append_assoc]
  exact k2
theorem goalb_loop {K b rl m B B' : Nat} {c : AV} {es : List AV} {l : List Tm} (hK : 900001 ≤ K) (hs : Sl 4 c es) (hes : All2 es l) (hwf : wfL l) (hm : es.length ≤ 900000) :
  ∀ (l' : List Tm) (i : Nat) (H : List AO) (code : List Op5) (g : Sg) (vars : List AV), i + l'.length = es.length → l' = l.drop i → Dp H b rl m code g → B ≤ H.length →
   code.length + 2 * zL l' ≤ 900000 → g.next + zL l' ≤ 3000000 → g.met.length + zL l' ≤ 890000 → clr K26b vars = V26b B' b es.length c i .junk .junk .junk .junk .junk .junk .junk →
   ∃ H', loopN (exec (callW F) K c27_21) K26b (l'.length + 1) vars H = some (.exit 2, V26b B' b es.length c es.length .junk (.v (.bool false)) .junk .junk .junk .junk .junk, H') ∧
    Dp H' b rl m (code ++ (goalsT g l').1) (goalsT g l').2 ∧ Gb B [b, rl, m] H H' := by
 have hll := hes.length
 intro l'
 induction l' with
 | nil =>
  intro i H code g vars hil _ cp hB _ _ _ hv
  have hil : i = es.length := by simpa using hil
  subst hil
  have hlt := lt_f (n := es.length)
  refine ⟨H, ?_, by simpa [goalsT] using cp, .refl H⟩
  rw [List.length_nil, Nat.zero_add]
  refine loop_exit ?_
  rw [hv]
  simp only [V26b, c27_21, c27_9, hlt, Q0, Q1, Q2, Q3, Q4, Q5, Q6, Q7, Q8, Q9, Q10, Q11, Q12, Q13, Q14, Q15, Q16, Q17, Q18, Q19, Q20, Q21, Q22, Q23, Q24, Q25, Q26, Q27, Q28, Q29, Q30, Q31, Q32, Q33, Q35, Q36, Q37, Q38, Q39, Q40, Q41, Q42, Q43, Q44, Q45, Q46, Q47, Q48, Q49, Q50, Q51, Q52, Q53, Q54, Q55, Q56, Q57, Q58, Q59, Q60, Q61, Q62, Q63, Q64, Q65, Q66, Q67, Q68, Q69, Q70, Q71, Q72, Q73, Q99, Q100, Q101, Q102, Q103, Q74, Q75, Q77, Q78, Q79, Q80, Q81, Q82, Q83, Q84, clr, List.length_nil, List.length_cons, List.getElem?_cons_zero, List.getElem?_cons_succ, Nat.reduceAdd, Nat.zero_add, Nat.add_zero, Nat.reduceLeDiff, Nat.reduceSub, ↓reduceIte, List.drop_succ_cons, List.drop_zero, List.take_succ_cons, List.take_zero, Bool.false_eq_true, List.nil_append, List.cons_append, Bool.not_true, Bool.not_false, cond_true, cond_false, bne, Q85, Q86, Q87, Q88, Q89, Q90, Q91, Q92, Q93, Q94, Q95, Q96, Q97, Q98, Q110, Q111, Q116, Q117, Q118, Q119, Q120, Q121, Q122, Q123, Option.map_some, Option.map_none, Q34]
 | cons t l' ih =>
  intro i H code g vars hil hd cp hB hcl hnx hml hv
  have hil' : i < es.length := by simp at hil; omega
  have hll' : i < l.length := by omega
  have hti : l[i] = t := by
   have h1 := List.drop_eq_getElem_cons hll'
   rw [← hd] at h1
   exact (List.cons.inj h1).1.symm
  have hd' : l' = l.drop (i + 1) := by
   have h1 := List.drop_eq_getElem_cons hll'
   rw [← hd] at h1
   exact (List.cons.inj h1).2
  have hT := hes.at hil' hll'
  rw [hti] at hT
  have htm : t ∈ l := by rw [← hti]; exact List.getElem_mem hll'
  have he : es[i]? = some es[i] := List.getElem?_eq_getElem hil'
  generalize es[i] = e at hT he
  have hf := hT.facts
  have hwt := wfL_mem hwf t htm
  have q1 := fun h : List AO => hs.ia he h
  have hlt := lt_t hil'
  have hw := wrap_succ hil' (small_maxM hm)
  have q9 : ∀ h : List AO, bx h 24 (ofVal (.agg #[(.int .i64 0), (.string ⟨#[]⟩), (.int .i64 0), (.slice none 0 0)])).cl = some (.ptr h.length 0, h ++ [.box 24 [.v (.int .i64 0), .v (.string ⟨#[]⟩), .v (.int .i64 0), .v (.slice none 0 0)]]) := fun h => by rw [q9z]; rfl
  rw [show (t :: l').length + 1 = (l'.length + 1) + 1 from rfl]
  simp only [zL] at hcl hnx hml
  simp only [List.length_cons] at hil
  have hz1 : 1 ≤ zT t := by cases t; rw [zT]; omega
  have hbe : AO.below 0 (.box 24 e.cells) = true := hT.bel
  have cpa := cp.app (l := [.box 24 e.cells]) (by simp [below_mono (Nat.zero_le _) _ hbe])
  have hgl := goalT_len hwt g
  have hgn := goalT_next g t
  have hgm := goalT_met g t
  -- what is to be shown of one goal
  suffices step : ∃ H2 vs2, exec (callW F) K c27_21 (V26b B' b es.length c i .junk .junk .junk .junk .junk .junk .junk) H = some (.normal, vs2, H2) ∧
    clr K26b vs2 = V26b B' b es.length c ((i + 1 : Nat) : Int) .junk .junk .junk .junk .junk .junk .junk ∧ Dp H2 b rl m (code ++ (goalT g t).1) (goalT g t).2 ∧ Gb B [b, rl, m] H H2 by
   obtain ⟨H2, vs2, st, hv2, cp2, hgb⟩ := step
   rw [loop_normal (by rw [hv]; exact st)]
   obtain ⟨H', k1, k2, k3⟩ := ih (i + 1) H2 _ _ vs2 (by omega) hd' cp2 (by have := hgb.1; omega) (by rw [List.length_append]; omega) (by omega) (by omega) hv2
   refine ⟨H', k1, ?_, hgb.trans k3⟩
   rw [goalsT]
   simp only
   rw [← List.append_assoc]
   exact k2
  cases hT with
  | mk k s n c2 l2 hc2 =>
  have hob : (H ++ [AO.box 24 [.v (.int .i64 k), .v (.string s), .v (.int .i64 n), c2]])[H.length]? = some (.box 24 [.v (.int .i64 k), .v (.string s), .v (.int .i64 n), c2]) := by simp
  have o0 := tm_ld0 hob
  have o1 := tm_ld1 hob
  have o3 := tm_ld3 hob
  have b22 : ∀ (vars env : List AV), evBuild vars env [.v (.int .i64 0), .v (.int .i64 0), .v (.int .i64 0), .v (.string ⟨#[]⟩), .v (.int .i64 0)] [(0, 1, (.k (.int .i64 22)))] = some [.v (.int .i64 22), .v (.int .i64 0), .v (.int .i64 0), .v (.string ⟨#[]⟩), .v (.int .i64 0)] := fun _ _ => rfl
  cases hcut : isCut (.mk k s n l2) with
  | true =>
   have hcut' := hcut
   simp only [isCut, Tm.k, Tm.s, Bool.and_eq_true] at hcut'
   have hk2 : (k == 2) = true := hcut'.1
   have hs2 : (s.toList == (⟨#[33]⟩ : ByteArray).toList) = true := hcut'.2
   obtain ⟨H2, g1, cp2, rs2⟩ := cpa.lay (by omega) ⟨22, 0, 0, nos, 0⟩
   refine ⟨H2, V26b B' b es.length c ((i + 1 : Nat) : Int) (.ptr H.length 0) (.v (.bool true)) (.v (.bool true)) .junk .junk .junk .junk, ?_, rfl, by rw [goalT, if_pos hcut]; exact cp2, (Gb.app hB _).trans rs2.gb⟩
   simp only [o5, nos, AV.cells] at g1
   simp only [AV.cells] at hf
   simp only [V26b, c27_21, c27_9, c27_10, c27_11, c27_12, c27_20, hlt, hw, q1, hf, q9, o0, o1, hk2, hs2, g1, b22, Q122, Q106, Q107, toL, e_callh, List.map_cons, List.map_nil, Q0, Q1, Q2, Q3, Q4, Q5, Q6, Q7, Q8, Q9, Q10, Q11, Q12, Q13, Q14, Q15, Q16, Q17, Q18, Q19, Q20, Q21, Q22, Q23, Q24, Q25, Q26, Q27, Q28, Q29, Q30, Q31, Q32, Q33, Q35, Q36, Q37, Q38, Q39, Q40, Q41, Q42, Q43, Q44, Q45, Q46, Q47, Q48, Q49, Q50, Q51, Q52, Q53, Q54, Q55, Q56, Q57, Q58, Q59, Q60, Q61, Q62, Q63, Q64, Q65, Q66, Q67, Q68, Q69, Q70, Q71, Q72, Q73, Q99, Q100, Q101, Q102, Q103, Q74, Q75, Q77, Q78, Q79, Q80, Q81, Q82, Q83, Q84, clr, List.length_nil, List.length_cons, List.getElem?_cons_zero, List.getElem?_cons_succ, Nat.reduceAdd, Nat.zero_add, Nat.add_zero, Nat.reduceLeDiff, Nat.reduceSub, ↓reduceIte, List.drop_succ_cons, List.drop_zero, List.take_succ_cons, List.take_zero, Bool.false_eq_true, List.nil_append, List.cons_append, Bool.not_true, Bool.not_false, cond_true, cond_false, bne, Q85, Q86, Q87, Q88, Q89, Q90, Q91, Q92, Q93, Q94, Q95, Q96, Q97, Q98, Q110, Q111, Q116, Q117, Q118, Q119, Q120, Q121, Q122, Q123, Option.map_some, Option.map_none]
  | false =>
   obtain ⟨es2, hs2, hes2, hm2⟩ := hc2.sl
   have hll2 := hes2.length
   have hzl := zL_len l2
   rw [zT] at hcl hnx hml
   have wl := hwt.l
   simp only [Tm.l] at wl
   have hargl := args_putT_len wl 0 g
   obtain ⟨H3, k1, cp3, gb3⟩ := arg2b_loop (K := K) (b := b) (rl := rl) (m := m) (B := H.length + 1) (B' := B') (G := H.length) (bn := es.length) (bc := c) (j := (i : Int)) hs2 hes2 wl (by omega) l2 0 (H ++ [.box 24 [.v (.int .i64 k), .v (.string s), .v (.int .i64 n), c2]]) code g
    [.junk, .ptr B' 0, .ptr (B' + 1) 0, .ptr b 0, .junk, .junk, .ptr H.length 0, .junk, .junk, .junk, .junk, .junk, .junk, c, .v (.int .i64 es.length), .v (.int .i64 i), .v (.bool true), .v (.bool false), c2, .v (.int .i64 es2.length), .v (.int .i64 0), .junk] (by omega) (by simp) cpa (by simp) (by omega) (by omega) (by omega) rfl
   have hno : H.length ∉ [b, rl, m] := by
    have := cp.mb
    simp; omega
   have hob3 : H3[H.length]? = some (.box 24 [.v (.int .i64 k), .v (.string s), .v (.int .i64 n), c2]) := by rw [gb3.2 _ (by omega) hno]; exact hob
   have p1 := tm_ld1 hob3
   have p3 := tm_ld3 hob3
   obtain ⟨H4, g4, cp4, rs4⟩ := cp3.lay (by rw [List.length_append]; omega) ⟨21, 0, 0, s, l2.length⟩
   have q2 := fun H : List AO => hs2.len H
   refine ⟨H4, V26b B' b es.length c ((i + 1 : Nat) : Int) (.ptr H.length 0) .junk .junk c2 (.v (.int .i64 es2.length)) (.v (.int .i64 es2.length)) (.v (.bool false)), ?_, rfl, ?_, ?_⟩
   ·have k1' : loopN (exec (callW F) K c27_18) K26c K [.junk, .ptr B' 0, .ptr (B' + 1) 0, .ptr b 0, .junk, .junk, .ptr H.length 0, .junk, .junk, .junk, .junk, .junk, .junk, c, .v (.int .i64 es.length), .v (.int .i64 i), .v (.bool true), .v (.bool false), c2, .v (.int .i64 es2.length), .v (.int .i64 0), .junk] (H ++ [.box 24 [.v (.int .i64 k), .v (.string s), .v (.int .i64 n), c2]]) = _ := loop_more k1 (by omega)
    have b21 : ∀ (vars env : List AV) (x1 x2 : AV), evBuild vars (.v (.int .i64 l2.length) :: x1 :: x2 :: .v (.string s) :: env) [.v (.int .i64 0), .v (.int .i64 0), .v (.int .i64 0), .v (.string ⟨#[]⟩), .v (.int .i64 0)] [(0, 1, (.k (.int .i64 21))), (3, 1, (.loc 3)), (4, 1, (.loc 0))] = some [.v (.int .i64 21), .v (.int .i64 0), .v (.int .i64 0), .v (.string s), .v (.int .i64 l2.length)] := fun _ _ _ _ => rfl
    simp only [o5] at g4
    simp only [AV.cells] at hf
    rw [← hll2] at b21 g4
    rw [show c27_21 = (.seq (.region [] [] c27_9) (.seq (.cond (.var 16) .skip (.exit 2)) (.seq (.block 3 (.seq (.region [] [] c27_10) (.seq (.seq (.region [] [] c27_11) (.cond (.var 17) (.seq (.region [] [] c27_12) (.exit 3)) .skip)) (.seq (.seq (.region [] [] c27_13) (.block 4 (.loop K26c [] c27_18))) (.region [] [] c27_19))))) (.region [] [] c27_20)))) from rfl]
    generalize c27_18 = bb1 at k1' ⊢
    have hx : (k == 2) = false ∨ ((k == 2) = true ∧ (s.toList == (⟨#[33]⟩ : ByteArray).toList) = false) := by
     have hc' : ((k == 2) && (s.toList == (⟨#[33]⟩ : ByteArray).toList)) = false := hcut
     cases h1 : (k == 2) with
     | false => exact .inl rfl
     | true =>
      rw [h1, Bool.true_and] at hc'
      exact .inr ⟨rfl, hc'⟩
    rcases hx with hk2 | ⟨hk2, hss⟩
    ·simp only [V26b, c27_9, c27_10, c27_11, c27_13, c27_19, c27_20, hlt, hw, q1, q2, hf, q9, o0, o1, o3, hk2, Q122, k1', V26c, p1, p3, b21, g4, Q106, Q107, toL, e_callh, List.map_cons, List.map_nil, Q0, Q1, Q2, Q3, Q4, Q5, Q6, Q7, Q8, Q9, Q10, Q11, Q12, Q13, Q14, Q15, Q16, Q17, Q18, Q19, Q20, Q21, Q22, Q23, Q24, Q25, Q26, Q27, Q28, Q29, Q30, Q31, Q32, Q33, Q35, Q36, Q37, Q38, Q39, Q40, Q41, Q42, Q43, Q44, Q45, Q46, Q47, Q48, Q49, Q50, Q51, Q52, Q53, Q54, Q55, Q56, Q57, Q58, Q59, Q60, Q61, Q62, Q63, Q64, Q65, Q66, Q67, Q68, Q69, Q70, Q71, Q72, Q73, Q99, Q100, Q101, Q102, Q103, Q74, Q75, Q77, Q78, Q79, Q80, Q81, Q82, Q83, Q84, clr, List.length_nil, List.length_cons, List.getElem?_cons_zero, List.getElem?_cons_succ, Nat.reduceAdd, Nat.zero_add, Nat.add_zero, Nat.reduceLeDiff, Nat.reduceSub, ↓reduceIte, List.drop_succ_cons, List.drop_zero, List.take_succ_cons, List.take_zero, Bool.false_eq_true, List.nil_append, List.cons_append, Bool.not_true, Bool.not_false, cond_true, cond_false, bne, Q85, Q86, Q87, Q88, Q89, Q90, Q91, Q92, Q93, Q94, Q95, Q96, Q97, Q98, Q110, Q111, Q116, Q117, Q118, Q119, Q120, Q121, Q122, Q123, Option.map_some, Option.map_none]
    ·simp only [V26b, c27_9, c27_10, c27_11, c27_13, c27_19, c27_20, hlt, hw, q1, q2, hf, q9, o0, o1, o3, hk2, hss, Q122, k1', V26c, p1, p3, b21, g4, Q106, Q107, toL, e_callh, List.map_cons, List.map_nil, Q0, Q1, Q2, Q3, Q4, Q5, Q6, Q7, Q8, Q9, Q10, Q11, Q12, Q13, Q14, Q15, Q16, Q17, Q18, Q19, Q20, Q21, Q22, Q23, Q24, Q25, Q26, Q27, Q28, Q29, Q30, Q31, Q32, Q33, Q35, Q36, Q37, Q38, Q39, Q40, Q41, Q42, Q43, Q44, Q45, Q46, Q47, Q48, Q49, Q50, Q51, Q52, Q53, Q54, Q55, Q56, Q57, Q58, Q59, Q60, Q61, Q62, Q63, Q64, Q65, Q66, Q67, Q68, Q69, Q70, Q71, Q72, Q73, Q99, Q100, Q101, Q102, Q103, Q74, Q75, Q77, Q78, Q79, Q80, Q81, Q82, Q83, Q84, clr, List.length_nil, List.length_cons, List.getElem?_cons_zero, List.getElem?_cons_succ, Nat.reduceAdd, Nat.zero_add, Nat.add_zero, Nat.reduceLeDiff, Nat.reduceSub, ↓reduceIte, List.drop_succ_cons, List.drop_zero, List.take_succ_cons, List.take_zero, Bool.false_eq_true, List.nil_append, List.cons_append, Bool.not_true, Bool.not_false, cond_true, cond_false, bne, Q85, Q86, Q87, Q88, Q89, Q90, Q91, Q92, Q93, Q94, Q95, Q96, Q97, Q98, Q110, Q111, Q116, Q117, Q118, Q119, Q120, Q121, Q122, Q123, Option.map_some, Option.map_none]
   ·rw [goalT, if_neg (by simp [hcut])]
    simp only [Tm.l, Tm.s]
    rw [← List.append_assoc]
    exact cp4
   ·refine (Gb.app hB _).trans (Gb.trans ⟨gb3.1, fun j h1 h2 => gb3.2 j (by omega) h2⟩ rs4.gb)

def hH2 (cc : List AV) : List AO := [.box 46 cc, .box 52 [.v (.string ⟨#[]⟩), .v (.int .i64 0), .v (.int .i64 0), .v (.slice none 0 0)], .box 97 [.own 5 3 0 0 0, .own 1 4 0 0 0, .v (.int .i64 16)], .row 58 5 0 [] 0, .row 2 1 0 [] 0]
theorem clause2_ok {ca : AV} {x : Cl} (hc : IsCl ca x) (w1 : wfL x.hd.l) (w2 : wfL x.body) (hz : zL x.hd.l + zL x.body ≤ 420000) : ∃ cd, callW F 27 [ca] [] = some (cd, []) ∧ IsCd cd (cdT x) := by
 cases hc with
 | mk k s n c l hcl b bl hbl vs =>
 simp only at w1 w2 hz
 simp only [Tm.l] at w1 hz
 obtain ⟨es, hs, hes, hm⟩ := hcl.sl
 obtain ⟨es2, hs2, hes2, hm2⟩ := hbl.sl
 have hll := hes.length
 have hll2 := hes2.length
 have z1 := zL_len l
 have z2 := zL_len bl
 obtain ⟨cc, hcc⟩ : ∃ cc, [AV.v (.int .i64 k), .v (.string s), .v (.int .i64 n), c, b, .v (.int .i64 vs)] = cc := ⟨_, rfl⟩
 have hbc : (AO.box 46 cc).below 5 = true := by rw [← hcc]; cases hcl <;> cases hbl <;> rfl
 have cp0 : Dp (hH2 cc) 2 3 4 [] ⟨[], 16⟩ := by
  refine ⟨⟨0, 0, ⟨0, rfl, rfl⟩, rfl, Nat.le_refl _⟩, ?_⟩
  have : (hH2 cc).length = 5 := rfl
  rw [this]
  simp only [hH2, List.all_cons, hbc, Bool.true_and]
  rfl
 obtain ⟨H1, k1, cp1, gb1⟩ := arg1b_loop (K := 900001) (B := 5) (B' := 0) hs hes w1 (by omega) l 0 (hH2 cc) [] ⟨[], 16⟩
  [.agg cc, .ptr 0 0, .ptr 1 0, .ptr 2 0, .v undef, .v undef, .v undef, .v undef, .v undef, c, .v (.int .i64 es.length), .v (.int .i64 0), .v undef, .v undef, .v undef, .v undef, .v undef, .v undef, .v undef, .v undef, .v undef, .v undef] (by omega) (by simp) cp0 (Nat.le_refl _) (by simp only [List.length_nil]; omega) (by simp only; omega) (by simp only [List.length_nil]; omega) rfl
 have l1 := args_getT_len w1 0 ⟨[], 16⟩
 have n1 := args_getT_next l 0 ⟨[], 16⟩
 have m1 := args_getT_met w1 0 ⟨[], 16⟩
 simp only [List.length_nil] at m1
 simp only [List.nil_append] at cp1
 obtain ⟨H2, k2, cp2, gb2⟩ := goalb_loop (K := 900001) (B := 5) (B' := 0) (Nat.le_refl _) hs2 hes2 w2 (by omega) bl 0 H1 _ _
  [.junk, .ptr 0 0, .ptr 1 0, .ptr 2 0, .junk, .junk, .junk, .junk, .junk, c, .v (.int .i64 es.length), .v (.int .i64 es.length), .v (.bool false), b, .v (.int .i64 es2.length), .v (.int .i64 0), .junk, .junk, .junk, .junk, .junk, .junk] (by omega) (by simp) cp1 gb1.1 (by omega) (by simp only at n1; omega) (by omega) rfl
 have l2 := goalsT_len w2 (args getT 0 ⟨[], 16⟩ l).2
 obtain ⟨H3, g3, cp3, rs3⟩ := cp2.lay (by rw [List.length_append]; omega) ⟨23, 0, 0, nos, 0⟩
 have gb3 := (gb1.trans gb2).trans rs3.gb
 have l5 : (hH2 cc).length = 5 := rfl
 have c0 : H1[0]? = some (.box 46 cc) := gb1.2 0 (by omega) (by simp)
 have e0 : H3[0]? = some (.box 46 cc) := gb3.2 0 (by omega) (by simp)
 have e1 : H3[1]? = some (.box 52 [.v (.string ⟨#[]⟩), .v (.int .i64 0), .v (.int .i64 0), .v (.slice none 0 0)]) := gb3.2 1 (by omega) (by simp)
 obtain ⟨v2, kk, ob3, _, _⟩ := cp3.ex
 obtain ⟨ver, o1, o2⟩ := ob3.ex
 have hcode : (args getT 0 ⟨[], 16⟩ l).1 ++ (goalsT (args getT 0 ⟨[], 16⟩ l).2 bl).1 ++ [⟨23, 0, 0, nos, 0⟩] = codeT ⟨.mk k s n l, bl, vs⟩ := rfl
 rw [hcode] at o1 o2
 have hlen : (codeT ⟨.mk k s n l, bl, vs⟩).length ≤ maxLen := by
  rw [← hcode, List.length_append, List.length_append, List.length_singleton]
  have : maxLen = 9223372036854775807 := rfl
  omega
 generalize hcde : codeT ⟨.mk k s n l, bl, vs⟩ = cde at *
 refine ⟨.agg [.v (.string s), .v (.int .i64 l.length), .v (.int .i64 vs), .slc 5 false false (cde.map o5)], ?_, ?_⟩
 ·refine callW_own (c := c27) rfl rfl 900001 ?_
  have ldh : ∀ {H : List AO}, H[0]? = some (.box 46 cc) → Q76 H false 1 (.ptr 0 3) = some c ∧ Q76 H false 1 (.ptr 0 4) = some b ∧ Q76 H false 1 (.ptr 0 1) = some (.v (.string s)) ∧ Q76 H false 1 (.ptr 0 5) = some (.v (.int .i64 vs)) := by
   intro H h
   rw [bx_ld h, bx_ld h, bx_ld h, bx_ld h, ← hcc]
   exact ⟨by simp [Q77], by simp [Q77], rfl, rfl⟩
  have f0 := ldh (H := hH2 cc) rfl
  have f1 := ldh c0
  have f3 := ldh e0
  have own1 : Q76 H3 false 1 (.ptr 2 0) = some (.own 5 3 ver 0 cde.length) := by rw [bx_ld o1]; simp [Q77]
  have sto : Q113 H3 4 (.ptr 1 0) (.agg [.v (.string s), .v (.int .i64 es.length), .v (.int .i64 vs), .own 5 3 ver 0 cde.length]) = some (H3.set 1 (.box 52 [.v (.string s), .v (.int .i64 es.length), .v (.int .i64 vs), .own 5 3 ver 0 cde.length])) := by
   rw [bx_st e1 (n := 4) (xs := [.v (.string s), .v (.int .i64 es.length), .v (.int .i64 vs), .own 5 3 ver 0 cde.length]) rfl rfl (by simp)]; rfl
  have hlt1 := (List.getElem?_eq_some_iff.1 e1).1
  have lvv : leave 0 c27 (some (.ret, [.junk, .ptr 0 0, .ptr 1 0, .ptr 2 0, .junk, .junk, .junk, .junk, .junk, .junk, .junk, .junk, .junk, b, .v (.int .i64 es2.length), .v (.int .i64 es2.length), .v (.bool false), .junk, .junk, .junk, .junk, .junk], H3.set 1 (.box 52 [.v (.string s), .v (.int .i64 es.length), .v (.int .i64 vs), .own 5 3 ver 0 cde.length]))) = some (.agg [.v (.string s), .v (.int .i64 l.length), .v (.int .i64 vs), .slc 5 false false (cde.map o5)], []) := by
   refine leave_cell2 (cs := [.v (.string s), .v (.int .i64 es.length), .v (.int .i64 vs), .own 5 3 ver 0 cde.length]) rfl rfl (by simp [hlt1]) rfl ?_
   have hr : (H3.set 1 (.box 52 [.v (.string s), .v (.int .i64 es.length), .v (.int .i64 vs), .own 5 3 ver 0 cde.length]))[3]? = some (.row 58 5 ver (cde.map o5) 0) := by
    rw [List.getElem?_set_ne (by omega)]; exact o2
   have : AV.frz0 0 (H3.set 1 (.box 52 [.v (.string s), .v (.int .i64 es.length), .v (.int .i64 vs), .own 5 3 ver 0 cde.length])) (.own 5 3 ver 0 cde.length) = some (.slc 5 false false (cde.map o5)) := by
    simp only [AV.frz0, Nat.not_lt_zero, if_false]
    rw [row_at hr (by simp)]
    simp only [List.drop_zero]
    rw [List.take_of_length_le (by simp)]
   rw [hll] at this ⊢
   simp only [List.mapM_cons, List.mapM_nil, this, Option.pure_def, Option.bind_eq_bind, Option.bind_some]
   rfl
  rw [show ([] : List AO).length = 0 from rfl, ← lvv]
  congr 1
  have q1 := fun H : List AO => hs.len H
  have q2 := fun H : List AO => hs2.len H
  have k1' : loopN (exec (callW F) 900001 c27_7) K26a 900001 _ _ = _ := loop_more k1 (by omega)
  have k2' : loopN (exec (callW F) 900001 c27_21) K26b 900001 _ _ = _ := loop_more k2 (by omega)
  have bld : ∀ (vars env : List AV) (x1 x2 x3 x5 x7 x8 x9 : AV), evBuild vars (.own 5 3 ver 0 cde.length :: x1 :: x2 :: x3 :: .v (.int .i64 vs) :: x5 :: .v (.int .i64 es.length) :: x7 :: x8 :: x9 :: .v (.string s) :: env) [.v (.string ⟨#[]⟩), .v (.int .i64 0), .v (.int .i64 0), .v (.slice none 0 0)] [(0, 1, (.loc 10)), (1, 1, (.loc 6)), (2, 1, (.loc 4)), (3, 1, (.loc 0))] = some [.v (.string s), .v (.int .i64 es.length), .v (.int .i64 vs), .own 5 3 ver 0 cde.length] := fun _ _ _ _ _ _ _ _ _ => rfl
  have b23 : ∀ (vars env : List AV), evBuild vars env [.v (.int .i64 0), .v (.int .i64 0), .v (.int .i64 0), .v (.string ⟨#[]⟩), .v (.int .i64 0)] [(0, 1, (.k (.int .i64 23)))] = some [.v (.int .i64 23), .v (.int .i64 0), .v (.int .i64 0), .v (.string ⟨#[]⟩), .v (.int .i64 0)] := fun _ _ => rfl
  have b97 : ∀ (vars env : List AV), evBuild vars env [.v (.slice none 0 0), .v (.slice none 0 0), .v (.int .i64 0)] [(2, 1, (.k (.int .i64 16)))] = some [.v (.slice none 0 0), .v (.slice none 0 0), .v (.int .i64 16)] := fun _ _ => rfl
  have mk : ∀ v : List AV, doMark (.agg cc :: .ptr 0 0 :: .ptr 1 0 :: .ptr 2 0 :: v, [.box 46 cc, .box 52 [.v (.string ⟨#[]⟩), .v (.int .i64 0), .v (.int .i64 0), .v (.slice none 0 0)], .box 97 [.v (.slice none 0 0), .v (.slice none 0 0), .v (.int .i64 16)]]) (.ap 3 0 58 5) = (.agg cc :: .ptr 0 0 :: .ptr 1 0 :: .ptr 2 0 :: v, [.box 46 cc, .box 52 [.v (.string ⟨#[]⟩), .v (.int .i64 0), .v (.int .i64 0), .v (.slice none 0 0)], .box 97 [.own 5 3 0 0 0, .v (.slice none 0 0), .v (.int .i64 16)], .row 58 5 0 [] 0]) := fun v => rfl
  have mk2 : ∀ v : List AV, doMark (.agg cc :: .ptr 0 0 :: .ptr 1 0 :: .ptr 2 0 :: v, [.box 46 cc, .box 52 [.v (.string ⟨#[]⟩), .v (.int .i64 0), .v (.int .i64 0), .v (.slice none 0 0)], .box 97 [.own 5 3 0 0 0, .v (.slice none 0 0), .v (.int .i64 16)], .row 58 5 0 [] 0]) (.ap 3 1 2 1) = (.agg cc :: .ptr 0 0 :: .ptr 1 0 :: .ptr 2 0 :: v, hH2 cc) := fun v => rfl
  rw [show c27.body = (.seq (.region [] [] c27_0) (.seq (.region [] [] c27_1) (.seq (.seq (.region [.ap 3 0 58 5, .ap 3 1 2 1] [] c27_2) (.block 0 (.loop K26a [] c27_7))) (.seq (.seq (.region [] [] c27_8) (.block 2 (.loop K26b [] c27_21))) (.seq (.region [] [] c27_22) (.seq (.region [] [] c27_23) .ret)))))) from rfl, hcc]
  simp only [o5, nos] at g3
  simp only [V26a, V26b] at k1' k2'
  generalize c27_7 = bb1 at k1' ⊢
  generalize c27_21 = bb2 at k2' ⊢
  simp only [c27, start, List.replicate, List.append_nil, List.nil_append, c27_0, c27_1, c27_2, c27_8, c27_22, c27_23, z4, Q34, Q110, b97, x_region_m, List.foldl_cons, List.foldl_nil, mk, mk2, marked_eq, f0, f1, f3, q1, q2, k1', k2', g3, b23, bld, own1, sto, Q106, Q107, toL, e_callh, List.map_cons, List.map_nil, Q0, Q1, Q2, Q3, Q4, Q5, Q6, Q7, Q8, Q9, Q10, Q11, Q12, Q13, Q14, Q15, Q16, Q17, Q18, Q19, Q20, Q21, Q22, Q23, Q24, Q25, Q26, Q27, Q28, Q29, Q30, Q31, Q32, Q33, Q35, Q36, Q37, Q38, Q39, Q40, Q41, Q42, Q43, Q44, Q45, Q46, Q47, Q48, Q49, Q50, Q51, Q52, Q53, Q54, Q55, Q56, Q57, Q58, Q59, Q60, Q61, Q62, Q63, Q64, Q65, Q66, Q67, Q68, Q69, Q70, Q71, Q72, Q73, Q99, Q100, Q101, Q102, Q103, Q74, Q75, Q77, Q78, Q79, Q80, Q81, Q82, Q83, Q84, clr, List.length_nil, List.length_cons, List.getElem?_cons_zero, List.getElem?_cons_succ, Nat.reduceAdd, Nat.zero_add, Nat.add_zero, Nat.reduceLeDiff, Nat.reduceSub, ↓reduceIte, List.drop_succ_cons, List.drop_zero, List.take_succ_cons, List.take_zero, Bool.false_eq_true, List.nil_append, List.cons_append, Bool.not_true, Bool.not_false, cond_true, cond_false, bne, Q85, Q86, Q87, Q88, Q89, Q90, Q91, Q92, Q93, Q94, Q95, Q96, Q97, Q98, Q110, Q111, Q116, Q117, Q118, Q119, Q120, Q121, Q122, Q123, Option.map_some, Option.map_none]
 ·simp only [cdT, hcde]
  exact .mk _ _ _ _ _ ⟨cde.map o5, .slc false false _, allR_o5 cde, by simpa using hlen⟩
end Go.AE.YtinhjhkmpknbbaaDoor
end

section
namespace Go.AE.YtinhjhkmpknbbaaDoor
open Go Go.AE Go.Proofs.YtinhjhkmpknbbaaDoor

def eqI (i j : Op5) : Bool := i.op == j.op && (i.a == j.a && (i.b == j.b && (i.nm.toList == j.nm.toList && (i.n == j.n && true))))
theorem eqI_iff {i j : Op5} : eqI i j = true ↔ i = j := by
 cases i; cases j
 simp only [eqI, Bool.and_eq_true, beq_iff_eq, Bool.and_true, Op5.mk.injEq]
 constructor
 ·rintro ⟨h1, h2, h3, h4, h5⟩
  exact ⟨h1, h2, h3, toL_inj h4, h5⟩
 ·rintro ⟨h1, h2, h3, h4, h5⟩
  exact ⟨h1, h2, h3, by rw [h4], h5⟩
theorem eqI_ok (H : List AO) (i j : Op5) : eqNil H (.flat [.i, .i, .i, .s, .i]) (o5 i) (o5 j) = some (eqI i j) := rfl
def eqIL : List Op5 → List Op5 → Bool
 | [], _ => true
 | _, [] => true
 | a :: l, b :: l' => eqI a b && eqIL l l'
theorem eqIL_iff : ∀ {l l' : List Op5}, l.length = l'.length → (eqIL l l' = true ↔ l = l')
 | [], [], _ => by simp [eqIL]
 | [], _ :: _, h => by simp at h
 | _ :: _, [], h => by simp at h
 | a :: l, b :: l', h => by
  rw [eqIL, Bool.and_eq_true, eqI_iff, eqIL_iff (by simpa using h), List.cons.injEq]
def headC (s : ByteArray) (a v : Int) (l : List Op5) (s' : ByteArray) (a' v' : Int) (l' : List Op5) : Bool := (s.toList == s'.toList) && ((a == a') && ((v == v') && ((l.length : Int) == (l'.length : Int))))
def eqCd (x y : Cd) : Bool := headC x.nm x.ar x.vars x.l y.nm y.ar y.vars y.l && eqIL x.l y.l
theorem headC_len {s s' : ByteArray} {a v a' v' : Int} {l l' : List Op5} (h : headC s a v l s' a' v' l' = true) : l.length = l'.length := by
 simp only [headC, Bool.and_eq_true, beq_iff_eq] at h
 omega
theorem eqCd_iff {x y : Cd} : eqCd x y = true ↔ x = y := by
 cases x with | mk s a v l => cases y with | mk s' a' v' l' =>
 simp only [eqCd, Bool.and_eq_true, Cd.mk.injEq]
 constructor
 ·rintro ⟨h1, h2⟩
  have h3 := headC_len h1
  simp only [headC, Bool.and_eq_true, beq_iff_eq] at h1
  exact ⟨toL_inj h1.1, h1.2.1, h1.2.2.1, (eqIL_iff h3).1 h2⟩
 ·rintro ⟨rfl, rfl, rfl, rfl⟩
  exact ⟨by simp [headC], (eqIL_iff rfl).2 rfl⟩
def cb (s : ByteArray) (a v : Int) (c : AV) : AO := .box 52 [.v (.string s), .v (.int .i64 a), .v (.int .i64 v), c]
section
variable {s s' : ByteArray} {a v a' v' : Int} {c c' : AV} {G : List AO}
theorem cb0 : Q76 (cb s a v c :: G) false 1 (.ptr 0 0) = some (.v (.string s)) := rfl
theorem cb1 : Q76 (cb s a v c :: G) false 1 (.ptr 0 1) = some (.v (.int .i64 a)) := rfl
theorem cb2 : Q76 (cb s a v c :: G) false 1 (.ptr 0 2) = some (.v (.int .i64 v)) := rfl
theorem cb3 : Q76 (cb s a v c :: G) false 1 (.ptr 0 3) = some c := rfl
theorem cc0 : Q76 (cb s a v c :: cb s' a' v' c' :: G) false 1 (.ptr 1 0) = some (.v (.string s')) := rfl
theorem cc1 : Q76 (cb s a v c :: cb s' a' v' c' :: G) false 1 (.ptr 1 1) = some (.v (.int .i64 a')) := rfl
theorem cc2 : Q76 (cb s a v c :: cb s' a' v' c' :: G) false 1 (.ptr 1 2) = some (.v (.int .i64 v')) := rfl
theorem cc3 : Q76 (cb s a v c :: cb s' a' v' c' :: G) false 1 (.ptr 1 3) = some c' := rfl
theorem cbx : bx [] 52 (some [.v (.string s), .v (.int .i64 a), .v (.int .i64 v), c]) = some (.ptr 0 0, [cb s a v c]) := rfl
theorem ccx : bx [cb s a v c] 52 (some [.v (.string s'), .v (.int .i64 a'), .v (.int .i64 v'), c']) = some (.ptr 1 0, [cb s a v c, cb s' a' v' c']) := rfl
end
theorem at5 {c : AV} {l : List Op5} (h : IsS 5 (fun x i => x = o5 i) c l) : ∃ es, Sl 5 c es ∧ es = l.map o5 ∧ es.length ≤ maxLen := by
 obtain ⟨es, h1, h2, h3⟩ := h
 refine ⟨es, h1, ?_, h3⟩
 clear h1 h3
 induction h2 with
 | nil => rfl
 | cons a x es xs h _ ih => rw [h, ih]; rfl
theorem o5_load (i : Op5) (H : List AO) : Q76 H true 5 (.ip (o5 i).cells) = some (o5 i) := rfl
def W15 (n i : Int) (x5 x9 x10 : AV) : List AV := [.junk, .junk, .ptr 0 0, .ptr 1 0, .junk, x5, .junk, .v (.int .i64 n), .v (.int .i64 i), x9, x10]
theorem csame_ok {a b : AV} {x y : Cd} (ha : IsCd a x) (hb : IsCd b y) : callW F 25 [a, b] [] = some (.v (.bool (eqCd x y)), []) := by
 cases ha with
 | mk s ar v c l hc =>
 cases hb with
 | mk s' ar' v' c' l' hc' =>
 obtain ⟨es, hs, hes, hm⟩ := at5 hc
 obtain ⟨es', hs', hes', hm'⟩ := at5 hc'
 have hll : es.length = l.length := by rw [hes]; simp
 have hll' : es'.length = l'.length := by rw [hes']; simp
 refine callW_pure (c := c25) rfl rfl (l.length + 1) ?_
 have q1 := fun h : List AO => hs.len h
 have q1' := fun h : List AO => hs'.len h
 rw [hll] at q1
 rw [hll'] at q1'
 rw [eqCd]
 simp only
 have hlen : headC s ar v l s' ar' v' l' = true → l.length = l'.length := headC_len
 have loop : l.length = l'.length → ∀ (w : List AV), clr K15 w = W15 l.length 0 .junk .junk .junk → (eqIL l l' = true ∧ loopN (exec (callW F) (l.length + 1) c25_9) K15 (l.length + 1) w [cb s ar v c, cb s' ar' v' c'] = some (.exit 0, W15 l.length l.length .junk (.v (.bool false)) .junk, [cb s ar v c, cb s' ar' v' c'])) ∨
   (eqIL l l' = false ∧ ∃ v2 h, loopN (exec (callW F) (l.length + 1) c25_9) K15 (l.length + 1) w [cb s ar v c, cb s' ar' v' c'] = some (.ret, v2, h) ∧ getO v2 [] (.var 4) = .v (.bool false)) := by
  intro hleq w hv
  obtain ⟨e, v2, h', g1, g2, g3⟩ := loop_rule0 (call := callW F) (K := l.length + 1) (b := c25_9) (keep := K15)
   (fun i w h => w = W15 l.length i .junk .junk .junk ∧ h = [cb s ar v c, cb s' ar' v' c'] ∧ eqIL (l.drop i) (l'.drop i) = eqIL l l')
   (fun e w h => (e = .exit 0 ∧ eqIL l l' = true ∧ w = W15 l.length l.length .junk (.v (.bool false)) .junk ∧ h = [cb s ar v c, cb s' ar' v' c']) ∨ (e = .ret ∧ eqIL l l' = false ∧ getO w [] (.var 4) = .v (.bool false)))
   l.length (m := l.length + 1) (v := w) (h := [cb s ar v c, cb s' ar' v' c']) (by omega) ⟨hv, rfl, rfl⟩ (by
    rintro i w h hi ⟨rfl, rfl, hR⟩
    by_cases hil : i < l.length
    ·have hil' : i < l'.length := by omega
     have hlt := lt_t hil
     have he : es[i]? = some (o5 l[i]) := by rw [hes, List.getElem?_map, List.getElem?_eq_getElem hil]; rfl
     have he' : es'[i]? = some (o5 l'[i]) := by rw [hes', List.getElem?_map, List.getElem?_eq_getElem hil']; rfl
     have q2 := fun h : List AO => hs.ia he h
     have q2' := fun h : List AO => hs'.ia he' h
     have hd : l.drop i = l[i] :: l.drop (i + 1) := List.drop_eq_getElem_cons hil
     have hd' : l'.drop i = l'[i] :: l'.drop (i + 1) := List.drop_eq_getElem_cons hil'
     have hw := wrap_succ (show i < es.length by omega) hm
     rw [hd, hd', eqIL] at hR
     have f1 := o5_load l[i]
     have f2 := o5_load l'[i]
     have f3 := fun H => eqI_ok H l[i] l'[i]
     cases hq : eqI l[i] l'[i] with
     | true =>
      rw [hq, Bool.true_and] at hR
      rw [hq] at f3
      generalize o5 l[i] = A at *
      generalize o5 l'[i] = B at *
      refine ⟨.normal, W15 l.length ((i + 1 : Nat) : Int) (.v (.int .i64 i)) (.v (.bool true)) (.v (.bool false)), [cb s ar v c, cb s' ar' v' c'], ?_, hil, rfl, rfl, hR⟩
      simp only [W15, c25_9, c25_4, c25_5, c25_6, c25_8, hlt, q2, q2', f1, f2, f3, hw, cb3, cc3, Q40, Q42, Bool.not_true, Q0, Q1, Q2, Q3, Q4, Q5, Q6, Q7, Q8, Q9, Q10, Q11, Q12, Q13, Q14, Q15, Q16, Q17, Q18, Q19, Q20, Q21, Q22, Q23, Q24, Q25, Q26, Q27, Q28, Q29, Q30, Q31, Q32, Q33, Q35, Q36, Q37, Q38, Q39, Q40, Q41, Q42, Q43, Q44, Q45, Q46, Q47, Q48, Q49, Q50, Q51, Q52, Q53, Q54, Q55, Q56, Q57, Q58, Q59, Q60, Q61, Q62, Q63, Q64, Q65, Q66, Q67, Q68, Q69, Q70, Q71, Q72, Q73, Q99, Q100, Q101, Q102, Q103, Q74, Q75, Q77, Q78, Q79, Q80, Q81, Q82, Q83, Q84, clr, List.length_nil, List.length_cons, List.getElem?_cons_zero, List.getElem?_cons_succ, Nat.reduceAdd, Nat.zero_add, Nat.add_zero, Nat.reduceLeDiff, Nat.reduceSub, ↓reduceIte, List.drop_succ_cons, List.drop_zero, List.take_succ_cons, List.take_zero, Bool.false_eq_true, List.nil_append, List.cons_append, Bool.not_true, Bool.not_false, cond_true, cond_false, bne, Q85, Q86, Q87, Q88, Q89, Q90, Q91, Q92, Q93, Q94, Q95, Q96, Q97, Q98, Q110, Q111, Q116, Q117, Q118, Q119, Q120, Q121, Q122, Q123, Option.map_some, Option.map_none, Q34]
     | false =>
      rw [hq, Bool.false_and] at hR
      rw [hq] at f3
      generalize o5 l[i] = A at *
      generalize o5 l'[i] = B at *
      refine ⟨.ret, [.junk, .junk, .ptr 0 0, .ptr 1 0, .v (.bool false), .v (.int .i64 i), .junk, .v (.int .i64 l.length), .v (.int .i64 i), .v (.bool true), .v (.bool true)], [cb s ar v c, cb s' ar' v' c'], ?_, .inr ⟨rfl, hR.symm, rfl⟩⟩
      simp only [W15, c25_9, c25_4, c25_5, c25_6, c25_7, hlt, q2, q2', f1, f2, f3, hw, cb3, cc3, Q40, Q42, Bool.not_false, Q0, Q1, Q2, Q3, Q4, Q5, Q6, Q7, Q8, Q9, Q10, Q11, Q12, Q13, Q14, Q15, Q16, Q17, Q18, Q19, Q20, Q21, Q22, Q23, Q24, Q25, Q26, Q27, Q28, Q29, Q30, Q31, Q32, Q33, Q35, Q36, Q37, Q38, Q39, Q40, Q41, Q42, Q43, Q44, Q45, Q46, Q47, Q48, Q49, Q50, Q51, Q52, Q53, Q54, Q55, Q56, Q57, Q58, Q59, Q60, Q61, Q62, Q63, Q64, Q65, Q66, Q67, Q68, Q69, Q70, Q71, Q72, Q73, Q99, Q100, Q101, Q102, Q103, Q74, Q75, Q77, Q78, Q79, Q80, Q81, Q82, Q83, Q84, clr, List.length_nil, List.length_cons, List.getElem?_cons_zero, List.getElem?_cons_succ, Nat.reduceAdd, Nat.zero_add, Nat.add_zero, Nat.reduceLeDiff, Nat.reduceSub, ↓reduceIte, List.drop_succ_cons, List.drop_zero, List.take_succ_cons, List.take_zero, Bool.false_eq_true, List.nil_append, List.cons_append, Bool.not_true, Bool.not_false, cond_true, cond_false, bne, Q85, Q86, Q87, Q88, Q89, Q90, Q91, Q92, Q93, Q94, Q95, Q96, Q97, Q98, Q110, Q111, Q116, Q117, Q118, Q119, Q120, Q121, Q122, Q123, Option.map_some, Option.map_none, Q34]
    ·have hie : i = l.length := by omega
     subst hie
     have hlt := lt_f (n := l.length)
     rw [List.drop_of_length_le (Nat.le_refl _), eqIL] at hR
     refine ⟨.exit 0, W15 l.length l.length .junk (.v (.bool false)) .junk, _, ?_, .inl ⟨rfl, hR.symm, rfl, rfl⟩⟩
     simp only [W15, c25_9, c25_4, hlt, Q0, Q1, Q2, Q3, Q4, Q5, Q6, Q7, Q8, Q9, Q10, Q11, Q12, Q13, Q14, Q15, Q16, Q17, Q18, Q19, Q20, Q21, Q22, Q23, Q24, Q25, Q26, Q27, Q28, Q29, Q30, Q31, Q32, Q33, Q35, Q36, Q37, Q38, Q39, Q40, Q41, Q42, Q43, Q44, Q45, Q46, Q47, Q48, Q49, Q50, Q51, Q52, Q53, Q54, Q55, Q56, Q57, Q58, Q59, Q60, Q61, Q62, Q63, Q64, Q65, Q66, Q67, Q68, Q69, Q70, Q71, Q72, Q73, Q99, Q100, Q101, Q102, Q103, Q74, Q75, Q77, Q78, Q79, Q80, Q81, Q82, Q83, Q84, clr, List.length_nil, List.length_cons, List.getElem?_cons_zero, List.getElem?_cons_succ, Nat.reduceAdd, Nat.zero_add, Nat.add_zero, Nat.reduceLeDiff, Nat.reduceSub, ↓reduceIte, List.drop_succ_cons, List.drop_zero, List.take_succ_cons, List.take_zero, Bool.false_eq_true, List.nil_append, List.cons_append, Bool.not_true, Bool.not_false, cond_true, cond_false, bne, Q85, Q86, Q87, Q88, Q89, Q90, Q91, Q92, Q93, Q94, Q95, Q96, Q97, Q98, Q110, Q111, Q116, Q117, Q118, Q119, Q120, Q121, Q122, Q123, Option.map_some, Option.map_none, Q34])
  rcases g3 with ⟨rfl, h1, rfl, rfl⟩ | ⟨rfl, h1, h2⟩
  ·exact .inl ⟨h1, g1⟩
  ·exact .inr ⟨h1, v2, h', g1, h2⟩
 rw [show c25.body = (.seq (.region [] [] c25_0) (.seq (.seq (.region [] [] c25_1) (.cond (.var 6) (.seq (.region [] [] c25_2) .ret) .skip)) (.seq (.seq (.region [] [] c25_3) (.block 0 (.loop K15 [] c25_9))) (.seq (.region [] [] c25_10) .ret)))) from rfl, show c25.res = [.var 4] from rfl]
 rw [show start c25 [.agg [.v (.string s), .v (.int .i64 ar), .v (.int .i64 v), c], .agg [.v (.string s'), .v (.int .i64 ar'), .v (.int .i64 v'), c']] = [.agg [.v (.string s), .v (.int .i64 ar), .v (.int .i64 v), c], .agg [.v (.string s'), .v (.int .i64 ar'), .v (.int .i64 v'), c'], .v undef, .v undef, .v undef, .v undef, .v undef, .v undef, .v undef, .v undef, .v undef] from rfl]
 generalize c25_9 = bb at loop ⊢
 cases hc0 : headC s ar v l s' ar' v' l' with
 | false =>
  unfold headC at hc0
  cases h1 : (s.toList == s'.toList) <;> cases h2 : (ar == ar') <;> cases h3 : (v == v') <;> cases h4 : ((l.length : Int) == (l'.length : Int)) <;>
   (simp only [h1, h2, h3, h4, Bool.and_true, Bool.and_false, Bool.false_and, Bool.true_and, Bool.and_self, reduceCtorEq] at hc0) <;>
   simp only [c25_0, c25_1, c25_2, cbx, ccx, cb0, cb1, cb2, cb3, cc0, cc1, cc2, cc3, q1, q1', h1, h2, h3, h4, Bool.not_true, Bool.not_false, Bool.false_and, Q0, Q1, Q2, Q3, Q4, Q5, Q6, Q7, Q8, Q9, Q10, Q11, Q12, Q13, Q14, Q15, Q16, Q17, Q18, Q19, Q20, Q21, Q22, Q23, Q24, Q25, Q26, Q27, Q28, Q29, Q30, Q31, Q32, Q33, Q35, Q36, Q37, Q38, Q39, Q40, Q41, Q42, Q43, Q44, Q45, Q46, Q47, Q48, Q49, Q50, Q51, Q52, Q53, Q54, Q55, Q56, Q57, Q58, Q59, Q60, Q61, Q62, Q63, Q64, Q65, Q66, Q67, Q68, Q69, Q70, Q71, Q72, Q73, Q99, Q100, Q101, Q102, Q103, Q74, Q75, Q77, Q78, Q79, Q80, Q81, Q82, Q83, Q84, clr, List.length_nil, List.length_cons, List.getElem?_cons_zero, List.getElem?_cons_succ, Nat.reduceAdd, Nat.zero_add, Nat.add_zero, Nat.reduceLeDiff, Nat.reduceSub, ↓reduceIte, List.drop_succ_cons, List.drop_zero, List.take_succ_cons, List.take_zero, Bool.false_eq_true, List.nil_append, List.cons_append, Bool.not_true, Bool.not_false, cond_true, cond_false, bne, Q85, Q86, Q87, Q88, Q89, Q90, Q91, Q92, Q93, Q94, Q95, Q96, Q97, Q98, Q110, Q111, Q116, Q117, Q118, Q119, Q120, Q121, Q122, Q123, Option.map_some, Option.map_none]
 | true =>
  have lp := loop (hlen hc0) [.agg [.v (.string s), .v (.int .i64 ar), .v (.int .i64 v), c], .agg [.v (.string s'), .v (.int .i64 ar'), .v (.int .i64 v'), c'], .ptr 0 0, .ptr 1 0, .v (.bool false), .v undef, .v (.bool false), .v (.int .i64 l.length), .v (.int .i64 0), .v undef, .v undef] rfl
  simp only [headC, Bool.and_eq_true] at hc0
  obtain ⟨h1, h2, h3, h4⟩ := hc0
  rcases lp with ⟨p0, p1⟩ | ⟨p0, v2, h', p1, p2⟩
  ·rw [p0]
   simp only [W15, c25_0, c25_1, c25_3, c25_10, cbx, ccx, cb0, cb1, cb2, cb3, cc0, cc1, cc2, cc3, q1, q1', h1, h2, h3, h4, p1, Bool.not_true, Bool.not_false, Bool.true_and, Q0, Q1, Q2, Q3, Q4, Q5, Q6, Q7, Q8, Q9, Q10, Q11, Q12, Q13, Q14, Q15, Q16, Q17, Q18, Q19, Q20, Q21, Q22, Q23, Q24, Q25, Q26, Q27, Q28, Q29, Q30, Q31, Q32, Q33, Q35, Q36, Q37, Q38, Q39, Q40, Q41, Q42, Q43, Q44, Q45, Q46, Q47, Q48, Q49, Q50, Q51, Q52, Q53, Q54, Q55, Q56, Q57, Q58, Q59, Q60, Q61, Q62, Q63, Q64, Q65, Q66, Q67, Q68, Q69, Q70, Q71, Q72, Q73, Q99, Q100, Q101, Q102, Q103, Q74, Q75, Q77, Q78, Q79, Q80, Q81, Q82, Q83, Q84, clr, List.length_nil, List.length_cons, List.getElem?_cons_zero, List.getElem?_cons_succ, Nat.reduceAdd, Nat.zero_add, Nat.add_zero, Nat.reduceLeDiff, Nat.reduceSub, ↓reduceIte, List.drop_succ_cons, List.drop_zero, List.take_succ_cons, List.take_zero, Bool.false_eq_true, List.nil_append, List.cons_append, Bool.not_true, Bool.not_false, cond_true, cond_false, bne, Q85, Q86, Q87, Q88, Q89, Q90, Q91, Q92, Q93, Q94, Q95, Q96, Q97, Q98, Q110, Q111, Q116, Q117, Q118, Q119, Q120, Q121, Q122, Q123, Option.map_some, Option.map_none]
  ·rw [p0]
   simp only [W15, c25_0, c25_1, c25_3, c25_10, cbx, ccx, cb0, cb1, cb2, cb3, cc0, cc1, cc2, cc3, q1, q1', h1, h2, h3, h4, p1, p2, Bool.not_true, Bool.not_false, Bool.and_false, Q0, Q1, Q2, Q3, Q4, Q5, Q6, Q7, Q8, Q9, Q10, Q11, Q12, Q13, Q14, Q15, Q16, Q17, Q18, Q19, Q20, Q21, Q22, Q23, Q24, Q25, Q26, Q27, Q28, Q29, Q30, Q31, Q32, Q33, Q35, Q36, Q37, Q38, Q39, Q40, Q41, Q42, Q43, Q44, Q45, Q46, Q47, Q48, Q49, Q50, Q51, Q52, Q53, Q54, Q55, Q56, Q57, Q58, Q59, Q60, Q61, Q62, Q63, Q64, Q65, Q66, Q67, Q68, Q69, Q70, Q71, Q72, Q73, Q99, Q100, Q101, Q102, Q103, Q74, Q75, Q77, Q78, Q79, Q80, Q81, Q82, Q83, Q84, clr, List.length_nil, List.length_cons, List.getElem?_cons_zero, List.getElem?_cons_succ, Nat.reduceAdd, Nat.zero_add, Nat.add_zero, Nat.reduceLeDiff, Nat.reduceSub, ↓reduceIte, List.drop_succ_cons, List.drop_zero, List.take_succ_cons, List.take_zero, Bool.false_eq_true, List.nil_append, List.cons_append, Bool.not_true, Bool.not_false, cond_true, cond_false, bne, Q85, Q86, Q87, Q88, Q89, Q90, Q91, Q92, Q93, Q94, Q95, Q96, Q97, Q98, Q110, Q111, Q116, Q117, Q118, Q119, Q120, Q121, Q122, Q123, Option.map_some, Option.map_none]
def eqCl (x y : Cl) : Bool := sameT x.hd y.hd && (sameT (.mk 0 nos 0 x.body) (.mk 0 nos 0 y.body) && (x.vars == y.vars))
theorem eqCl_iff {x y : Cl} : eqCl x y = true ↔ x = y := by
 cases x; cases y
 simp only [eqCl, Bool.and_eq_true, same_iff _ _ _ (Nat.lt_succ_self _), beq_iff_eq, Cl.mk.injEq, Tm.mk.injEq, true_and]
theorem sameAll_ok {b c : AV} {l m : List Tm} (hb : IsL b l) (hc : IsL c m) : callW F 64 [b, c] [] = some (.v (.bool (sameT (.mk 0 nos 0 l) (.mk 0 nos 0 m))), []) := by
 refine callW_pure (c := c64) rfl rfl 0 ?_
 have h := rsame_ok _ _ _ _ _ (Nat.lt_succ_self _) (IsT.mk 0 nos 0 b l hb) (IsT.mk 0 nos 0 c m hc)
 simp only [nos] at h ⊢
 have b1 : ∀ (vars env : List AV), evBuild vars (b :: env) [.v (.int .i64 0), .v (.string ⟨#[]⟩), .v (.int .i64 0), .v (.slice none 0 0)] [(3, 1, (.loc 0))] = some [.v (.int .i64 0), .v (.string ⟨#[]⟩), .v (.int .i64 0), b] := fun _ _ => by cases hb <;> rfl
 have b2 : ∀ (vars env : List AV), evBuild vars (c :: env) [.v (.int .i64 0), .v (.string ⟨#[]⟩), .v (.int .i64 0), .v (.slice none 0 0)] [(3, 1, (.loc 0))] = some [.v (.int .i64 0), .v (.string ⟨#[]⟩), .v (.int .i64 0), c] := fun _ _ => by cases hc <;> rfl
 have s1 := fun H : List AO => (IsT.mk 0 nos 0 b l hb).snap (h := H)
 have s2 := fun H : List AO => (IsT.mk 0 nos 0 c m hc).snap (h := H)
 simp only [nos] at s1 s2
 simp only [c64, start, List.replicate, c64_0, c64_1, b1, b2, s1, s2, Q106, Q107, toL, List.map_cons, List.map_nil, h, Q0, Q1, Q2, Q3, Q4, Q5, Q6, Q7, Q8, Q9, Q10, Q11, Q12, Q13, Q14, Q15, Q16, Q17, Q18, Q19, Q20, Q21, Q22, Q23, Q24, Q25, Q26, Q27, Q28, Q29, Q30, Q31, Q32, Q33, Q35, Q36, Q37, Q38, Q39, Q40, Q41, Q42, Q43, Q44, Q45, Q46, Q47, Q48, Q49, Q50, Q51, Q52, Q53, Q54, Q55, Q56, Q57, Q58, Q59, Q60, Q61, Q62, Q63, Q64, Q65, Q66, Q67, Q68, Q69, Q70, Q71, Q72, Q73, Q99, Q100, Q101, Q102, Q103, Q74, Q75, Q77, Q78, Q79, Q80, Q81, Q82, Q83, Q84, clr, List.length_nil, List.length_cons, List.getElem?_cons_zero, List.getElem?_cons_succ, Nat.reduceAdd, Nat.zero_add, Nat.add_zero, Nat.reduceLeDiff, Nat.reduceSub, ↓reduceIte, List.drop_succ_cons, List.drop_zero, List.take_succ_cons, List.take_zero, Bool.false_eq_true, List.nil_append, List.cons_append, Bool.not_true, Bool.not_false, cond_true, cond_false, bne, Q85, Q86, Q87, Q88, Q89, Q90, Q91, Q92, Q93, Q94, Q95, Q96, Q97, Q98, Q110, Q111, Q116, Q117, Q118, Q119, Q120, Q121, Q122, Q123, Option.map_some, Option.map_none]
theorem clsame_ok {a b : AV} {x y : Cl} (ha : IsCl a x) (hb : IsCl b y) : callW F 30 [a, b] [] = some (.v (.bool (eqCl x y)), []) := by
 refine callW_pure (c := c30) rfl rfl 0 ?_
 cases ha with
 | mk k s n c l hc bd bl hbd vs =>
 cases hb with
 | mk k' s' n' c' l' hc' bd' bl' hbd' vs' =>
 have h1 := rsame_ok _ _ _ _ _ (Nat.lt_succ_self _) (IsT.mk k s n c l hc) (IsT.mk k' s' n' c' l' hc')
 have h2 := sameAll_ok hbd hbd'
 have s1 := fun H : List AO => (IsT.mk k s n c l hc).snap (h := H)
 have s2 := fun H : List AO => (IsT.mk k' s' n' c' l' hc').snap (h := H)
 have s3 : ∀ H : List AO, bd.snap1 H = some bd := fun H => by cases hbd <;> rfl
 have s4 : ∀ H : List AO, bd'.snap1 H = some bd' := fun H => by cases hbd' <;> rfl
 rw [eqCl]
 simp only
 generalize sameT (.mk k s n l) (.mk k' s' n' l') = B1 at *
 generalize sameT (.mk 0 nos 0 bl) (.mk 0 nos 0 bl') = B2 at *
 generalize hB3 : (vs == vs') = B3
 generalize hcs : [AV.v (.int .i64 k), .v (.string s), .v (.int .i64 n), c, bd, .v (.int .i64 vs)] = cs at *
 generalize hcs' : [AV.v (.int .i64 k'), .v (.string s'), .v (.int .i64 n'), c', bd', .v (.int .i64 vs')] = cs' at *
 have bx1 : bx [] 46 (some cs) = some (.ptr 0 0, [.box 46 cs]) := rfl
 have bx2 : bx [.box 46 cs] 46 (some cs') = some (.ptr 1 0, [.box 46 cs, .box 46 cs']) := rfl
 have l1 : Q76 [.box 46 cs, .box 46 cs'] true 4 (.ptr 0 0) = some (.agg [.v (.int .i64 k), .v (.string s), .v (.int .i64 n), c]) := by rw [← hcs]; rfl
 have l2 : Q76 [.box 46 cs, .box 46 cs'] true 4 (.ptr 1 0) = some (.agg [.v (.int .i64 k'), .v (.string s'), .v (.int .i64 n'), c']) := by rw [← hcs']; rfl
 have l3 : Q76 [.box 46 cs, .box 46 cs'] false 1 (.ptr 0 4) = some bd := by rw [← hcs]; rfl
 have l4 : Q76 [.box 46 cs, .box 46 cs'] false 1 (.ptr 1 4) = some bd' := by rw [← hcs']; rfl
 have l5 : Q76 [.box 46 cs, .box 46 cs'] false 1 (.ptr 0 5) = some (.v (.int .i64 vs)) := by rw [← hcs]; rfl
 have l6 : Q76 [.box 46 cs, .box 46 cs'] false 1 (.ptr 1 5) = some (.v (.int .i64 vs')) := by rw [← hcs']; rfl
 cases B1 <;> cases B2 <;> cases B3 <;> simp only [c30, start, List.replicate, c30_0, c30_1, bx1, bx2, l1, l2, l3, l4, l5, l6, h1, h2, s1, s2, s3, s4, hB3, Q110, Q122, Bool.true_and, Bool.false_and, Bool.and_self, Q0, Q1, Q2, Q3, Q4, Q5, Q6, Q7, Q8, Q9, Q10, Q11, Q12, Q13, Q14, Q15, Q16, Q17, Q18, Q19, Q20, Q21, Q22, Q23, Q24, Q25, Q26, Q27, Q28, Q29, Q30, Q31, Q32, Q33, Q35, Q36, Q37, Q38, Q39, Q40, Q41, Q42, Q43, Q44, Q45, Q46, Q47, Q48, Q49, Q50, Q51, Q52, Q53, Q54, Q55, Q56, Q57, Q58, Q59, Q60, Q61, Q62, Q63, Q64, Q65, Q66, Q67, Q68, Q69, Q70, Q71, Q72, Q73, Q99, Q100, Q101, Q102, Q103, Q74, Q75, Q77, Q78, Q79, Q80, Q81, Q82, Q83, Q84, clr, List.length_nil, List.length_cons, List.getElem?_cons_zero, List.getElem?_cons_succ, Nat.reduceAdd, Nat.zero_add, Nat.add_zero, Nat.reduceLeDiff, Nat.reduceSub, ↓reduceIte, List.drop_succ_cons, List.drop_zero, List.take_succ_cons, List.take_zero, Bool.false_eq_true, List.nil_append, List.cons_append, Bool.not_true, Bool.not_false, cond_true, cond_false, bne, Q85, Q86, Q87, Q88, Q89, Q90, Q91, Q92, Q93, Q94, Q95, Q96, Q97, Q98, Q110, Q111, Q116, Q117, Q118, Q119, Q120, Q121, Q122, Q123, Option.map_some, Option.map_none]
end Go.AE.YtinhjhkmpknbbaaDoor
end

section
namespace Go.AE.YtinhjhkmpknbbaaDoor
open Go Go.AE Go.Proofs.YtinhjhkmpknbbaaDoor
set_option maxRecDepth 1000000 in
theorem live_n : callN F 60 23 [] [] = some (.v (.bool true), []) := by kernel_rfl
theorem live_ok : callW F 23 [] [] = some (.v (.bool true), []) := callW_iff.2 ⟨_, live_n⟩
end Go.AE.YtinhjhkmpknbbaaDoor
end

section
namespace Go.AE.YtinhjhkmpknbbaaDoor
open Go Go.AE Go.Proofs.YtinhjhkmpknbbaaDoor

theorem wrap_predM {m : Int} (h0 : 0 ≤ m) (h1 : m ≤ 1000000) : IntKind.i64.wrap (m - 1) = m - 1 := by
 rw [IntWalk.i64_in]; omega
mutual
theorem left_z : ∀ (t : Tm) (m : Int), 0 ≤ m → m ≤ 1000000 → -1 ≤ fewT t m ∧ fewT t m ≤ m ∧ (0 ≤ fewT t m → fewT t m + zT t = m)
 | .mk k s n l, m, h0, h1 => by
  rw [fewT, zT, wrap_predM h0 h1]
  have := leftL_z l (m - 1) (by omega) (by omega)
  refine ⟨this.1, by omega, fun h => ?_⟩
  have := this.2.2 h
  omega
theorem leftL_z : ∀ (l : List Tm) (m : Int), -1 ≤ m → m ≤ 1000000 → -1 ≤ fewL l m ∧ fewL l m ≤ m ∧ (0 ≤ fewL l m → fewL l m + zL l = m)
 | [], m, h0, h1 => by simp only [fewL, zL]; omega
 | t :: l, m, h0, h1 => by
  simp only [fewL, zL]
  by_cases hm : m < 0
  ·rw [if_pos hm]; omega
  ·rw [if_neg hm]
   have a := left_z t m (by omega) h1
   have b := leftL_z l (fewT t m) (by omega) (by omega)
   refine ⟨b.1, by omega, fun h => ?_⟩
   have := b.2.2 h
   have := a.2.2 (by omega)
   omega
end
theorem few_z {t : Tm} {m : Int} (h0 : 0 ≤ m) (hm : m ≤ 1000000) (h : decide (fewT t m ≥ 0) = true) : (zT t : Int) ≤ m := by
 have h1 : fewT t m ≥ 0 := of_decide_eq_true h
 have := (left_z t m h0 hm).2.2 h1
 omega
theorem noS_nos {s : ByteArray} (h : noS s = true) : s = nos := toL_inj (by simpa [noS, nos] using h)
mutual
theorem may_wf : ∀ t : Tm, mayT t = true → wfT t
 | .mk k s n l, h => by
  rw [mayT] at h
  rw [wfT]
  by_cases k1 : (k == 1) = true
  ·rw [if_pos k1] at h
   simp only [Bool.and_eq_true, beq_iff_eq] at h k1
   exact .inl ⟨k1, noS_nos h.2.1, List.length_eq_zero_iff.1 (by omega)⟩
  rw [if_neg k1] at h
  by_cases k2 : (k == 2) = true
  ·rw [if_pos k2] at h
   simp only [Bool.and_eq_true, beq_iff_eq] at h k2
   exact .inr (.inl ⟨k2, h.2.1, List.length_eq_zero_iff.1 (by omega)⟩)
  rw [if_neg k2] at h
  by_cases k3 : (k == 3) = true
  ·rw [if_pos k3] at h
   simp only [Bool.and_eq_true, beq_iff_eq] at h k3
   exact .inr (.inr (.inl ⟨k3, noS_nos h.2, List.length_eq_zero_iff.1 (by omega)⟩))
  rw [if_neg k3] at h
  by_cases k4 : (k == 4) = true
  ·rw [if_pos k4] at h
   simp only [Bool.and_eq_true, beq_iff_eq, Bool.not_eq_true', beq_eq_false_iff_ne, ne_eq] at h k4
   exact .inr (.inr (.inr ⟨k4, h.2.1, fun e => h.1 (by simp [e]), mayL_wf l h.2.2.2.2⟩))
  ·rw [if_neg k4] at h; cases h
theorem mayL_wf : ∀ l : List Tm, mayL l = true → wfL l
 | [], _ => trivial
 | t :: l, h => by
  rw [mayL, Bool.and_eq_true] at h
  rw [wfL]
  exact ⟨may_wf t h.1, mayL_wf l h.2⟩
end
theorem check_may {t : Tm} (h : checkT t = 0) : mayT t = true := by
 rw [checkT] at h
 by_cases hm : mayT t = true
 ·exact hm
 ·rw [if_neg hm] at h; simp at h
mutual
theorem bod_z : ∀ t : Tm, zL (bodT t) ≤ zT t
 | .mk k s n l => by
  have := bodL_z l
  rw [bodT]
  split
  ·rw [zT]; omega
  ·simp [zL]
theorem bodL_z : ∀ l : List Tm, zL (bodL l) ≤ zL l
 | [] => by simp [bodL]
 | t :: l => by
  have := bod_z t
  have := bodL_z l
  have e : ∀ a b : List Tm, zL (a ++ b) = zL a + zL b := by
   intro a b
   induction a with
   | nil => simp [zL]
   | cons x a ih => rw [List.cons_append, zL, zL, ih]; omega
  rw [bodL, e, zL]; omega
end
def mdT (t : Tm) : Cl := cutC (numT (varT t) t) (varT t).length
theorem made {t : Tm} {M : Nat} (hz : zT t ≤ M) (h : makeE t = 0) : wfC (mdT t) ∧ ((metC (mdT t)).length : Int) = (mdT t).vars ∧ zT (mdT t).hd + zL (mdT t).body ≤ M := by
 rw [makeE] at h
 by_cases hc : checkT t = 0
 ·rw [if_pos hc] at h
  have wf := may_wf t (check_may hc)
  have hzn := num_size (varT t) t
  have key : goalB (mdT t).hd = true ∧ (∀ g ∈ (mdT t).body, goalB g = true) ∧ (mdT t).vars = (varT t).length ∧ zT (mdT t).hd + zL (mdT t).body ≤ M := by
   rw [mdT]
   have hd0 : ∀ u : Tm, headE u = 0 → goalB u = true := by
    intro u hu
    rw [headE] at hu
    cases hg : goalB u with
    | true => rfl
    | false => rw [hg] at hu; simp at hu
   by_cases h2 : is2 (numT (varT t) t) neck = true
   ·rw [if_pos h2] at h
    have h2' := is2_iff.1 h2
    rw [cutC, if_pos h2]
    by_cases hg : goalsE ((numT (varT t) t).l.getD 1 zeroT) = 0
    ·rw [if_pos hg] at h
     refine ⟨hd0 _ h, ?_, rfl, ?_⟩
     ·rw [goalsE] at hg
      by_cases hcg : checkT ((numT (varT t) t).l.getD 1 zeroT) = 0
      ·rw [if_pos hcg] at hg
       by_cases ha : (bodT ((numT (varT t) t).l.getD 1 zeroT)).all goalB = true
       ·exact fun g hm => List.all_eq_true.1 ha g hm
       ·rw [if_neg ha] at hg; simp at hg
      ·rw [if_neg hcg] at hg; exact absurd hg hcg
     ·have hb := bod_z ((numT (varT t) t).l.getD 1 zeroT)
      have hl := h2'.2.2
      simp only
      generalize numT (varT t) t = u at *
      cases u with
      | mk k s n l =>
      simp only [Tm.l] at hl hb ⊢
      match l, hl with
      | [x, y], _ =>
       simp only [List.getD_cons_zero, List.getD_cons_succ] at hb ⊢
       simp only [zT, zL] at hzn
       omega
    ·rw [if_neg hg] at h; exact absurd h hg
   ·rw [if_neg h2] at h
    rw [cutC, if_neg h2]
    exact ⟨hd0 _ h, by simp, rfl, by simp only [zL]; omega⟩
  refine ⟨(made_ok wf key.1 key.2.1).1, ?_, key.2.2.2⟩
  rw [key.2.2.1]
  have := made_count wf key.1 key.2.1
  exact congrArg _ this
 ·rw [if_neg hc] at h; exact absurd h hc
theorem wfC_l {c : Cl} (h : wfC c) : wfL c.hd.l ∧ wfL c.body := by
 refine ⟨h.hd.1.l, ?_⟩
 have hb := h.body
 generalize c.body = l at hb
 induction l with
 | nil => trivial
 | cons t l ih => rw [wfL]; exact ⟨(hb t (by simp)).1, ih fun u hu => hb u (by simp [hu])⟩
theorem cl_snap {a : AV} {x : Cl} (h : IsCl a x) (H : List AO) : a.snap1 H = some a := by
 cases h with
 | mk k s n c l hc b bl hb vs => cases hc <;> cases hb <;> rfl
theorem cd_snap {a : AV} {x : Cd} (h : IsCd a x) (H : List AO) : a.snap1 H = some a := by
 cases h with
 | mk s ar v c l hc =>
  obtain ⟨es, hs, _, _⟩ := hc
  cases hs <;> rfl
theorem six_zero : (ofVal (.agg #[(.int .i64 0), (.string ⟨#[]⟩), (.int .i64 0), (.slice none 0 0), (.slice none 0 0), (.int .i64 0)])).cl = some zero6 := by simp [ofVal, AV.cl, Value.oneCell', zero6]
theorem st6 {h : List AO} {ca : AV} (h6 : Six ca) : Q113 (h ++ [.box 46 zero6]) 6 (.ptr h.length 0) ca = some (h ++ [.box 46 ca.cells]) := st_new h6.1 h6.2 rfl
theorem cl_load {h G : List AO} {ca : AV} {x : Cl} (hc : IsCl ca x) : Q76 (h ++ (.box 46 ca.cells :: G)) true 6 (.ptr h.length 0) = some ca := by
 rw [bx_ld (id := h.length) (bt := 46) (cs := ca.cells) (by simp)]
 cases hc; rfl
end Go.AE.YtinhjhkmpknbbaaDoor
end

section
namespace Go.AE.YtinhjhkmpknbbaaDoor
open Go Go.AE Go.Proofs.YtinhjhkmpknbbaaDoor

theorem isL_2 {a b : AV} {t u : Tm} (h : IsT a t) (k : IsT b u) : IsL (.slc 4 true true [a, b]) [t, u] := .slc _ _ _ _ (.cons _ _ _ _ h (.cons _ _ _ _ k .nil)) (by simp [maxLen])
theorem cmp_ok {a b : AV} {t u : Tm} (ha : IsT a t) (hb : IsT b u) (s : ByteArray) : ∃ r, callW F 36 [.v (.string s), .slc 4 true true [a, b]] [] = some (r, []) ∧ IsT r (.mk 4 s 0 [t, u]) := by
 refine ⟨.agg [.v (.int .i64 4), .v (.string s), .v (.int .i64 0), .slc 4 true true [a, b]], callW_pure (c := c36) rfl rfl 0 ?_, .mk 4 s 0 _ _ (isL_2 ha hb)⟩
 generalize [a, b] = L
 have b1 : ∀ (vars env : List AV), evBuild vars (.slc 4 true true L :: .v (.string s) :: env) [.v (.int .i64 0), .v (.string ⟨#[]⟩), .v (.int .i64 0), .v (.slice none 0 0)] [(0, 1, (.k (.int .i64 4))), (1, 1, (.loc 1)), (3, 1, (.loc 0))] = some [.v (.int .i64 4), .v (.string s), .v (.int .i64 0), .slc 4 true true L] := fun _ _ => rfl
 have q9 : ∀ h : List AO, bx h 24 (ofVal (.agg #[(.int .i64 0), (.string ⟨#[]⟩), (.int .i64 0), (.slice none 0 0)])).cl = some (.ptr h.length 0, h ++ [.box 24 [.v (.int .i64 0), .v (.string ⟨#[]⟩), .v (.int .i64 0), .v (.slice none 0 0)]]) := fun h => by rw [q9z]; rfl
 have q9' := q9 []
 have st : Q113 [.box 24 [.v (.int .i64 0), .v (.string ⟨#[]⟩), .v (.int .i64 0), .v (.slice none 0 0)]] 4 (.ptr 0 0) (.agg [.v (.int .i64 4), .v (.string s), .v (.int .i64 0), .slc 4 true true L]) = some [.box 24 [.v (.int .i64 4), .v (.string s), .v (.int .i64 0), .slc 4 true true L]] := rfl
 have ld : Q76 [.box 24 [.v (.int .i64 4), .v (.string s), .v (.int .i64 0), .slc 4 true true L]] true 4 (.ptr 0 0) = some (.agg [.v (.int .i64 4), .v (.string s), .v (.int .i64 0), .slc 4 true true L]) := rfl
 have fz : lvf [.box 24 [.v (.int .i64 4), .v (.string s), .v (.int .i64 0), .slc 4 true true L]] (.agg [.v (.int .i64 4), .v (.string s), .v (.int .i64 0), .slc 4 true true L]) = some (.agg [.v (.int .i64 4), .v (.string s), .v (.int .i64 0), .slc 4 true true L], []) := rfl
 simp only [c36, start, List.replicate, c36_0, c36_1, q9', b1, st, ld, fz, Q106, Q107, toL, List.map_cons, List.map_nil, List.length_nil, List.nil_append, Q0, Q1, Q2, Q3, Q4, Q5, Q6, Q7, Q8, Q9, Q10, Q11, Q12, Q13, Q14, Q15, Q16, Q17, Q18, Q19, Q20, Q21, Q22, Q23, Q24, Q25, Q26, Q27, Q28, Q29, Q30, Q31, Q32, Q33, Q35, Q36, Q37, Q38, Q39, Q40, Q41, Q42, Q43, Q44, Q45, Q46, Q47, Q48, Q49, Q50, Q51, Q52, Q53, Q54, Q55, Q56, Q57, Q58, Q59, Q60, Q61, Q62, Q63, Q64, Q65, Q66, Q67, Q68, Q69, Q70, Q71, Q72, Q73, Q99, Q100, Q101, Q102, Q103, Q74, Q75, Q77, Q78, Q79, Q80, Q81, Q82, Q83, Q84, clr, List.length_nil, List.length_cons, List.getElem?_cons_zero, List.getElem?_cons_succ, Nat.reduceAdd, Nat.zero_add, Nat.add_zero, Nat.reduceLeDiff, Nat.reduceSub, ↓reduceIte, List.drop_succ_cons, List.drop_zero, List.take_succ_cons, List.take_zero, Bool.false_eq_true, List.nil_append, List.cons_append, Bool.not_true, Bool.not_false, cond_true, cond_false, bne, Q85, Q86, Q87, Q88, Q89, Q90, Q91, Q92, Q93, Q94, Q95, Q96, Q97, Q98, Q110, Q111, Q116, Q117, Q118, Q119, Q120, Q121, Q122, Q123, Option.map_some, Option.map_none]
theorem st_box {H : List AO} {id : Nat} {old a : AV} {t u : Tm} (h : H[id]? = some (.box 24 old.cells)) (ho : IsT old u) (ha : IsT a t) : Q113 H 4 (.ptr id 0) a = some (H.set id (.box 24 a.cells)) := by
 rw [bx_st h ha.cl.1 (n := 4) (o := 0) ha.cl.2 (by have := ho.cl.2; omega)]
 have : Q112 old.cells 0 a.cells = a.cells := by cases ho; cases ha; rfl
 rw [this]
def cmT : List Tm → Tm
 | [] => zeroT
 | [t] => t
 | g :: u :: l => .mk 4 comma 0 [g, cmT (u :: l)]
theorem cmT_cons {g : Tm} {l : List Tm} (h : l ≠ []) : cmT (g :: l) = .mk 4 comma 0 [g, cmT l] := by
 cases l with
 | nil => exact absurd rfl h
 | cons u l => rw [cmT]
def trmT (x : Cl) : Tm := if x.body.length = 0 then x.hd else .mk 4 neck 0 [x.hd, cmT x.body]
theorem cmT_z : ∀ l : List Tm, zT (cmT l) ≤ 1 + zL l + l.length
 | [] => by simp [cmT, zeroT, zT, zL]
 | [t] => by simp only [cmT, zL, List.length_singleton]; omega
 | g :: u :: l => by
  have := cmT_z (u :: l)
  simp only [cmT, zT, zL, List.length_cons] at this ⊢; omega
theorem trmT_z (x : Cl) : zT (trmT x) ≤ 3 + zT x.hd + zL x.body + x.body.length := by
 have := cmT_z x.body
 rw [trmT]
 split
 ·omega
 ·simp only [zT, zL]; omega
def K65 : List Bool := [false, true, true, true, true, false, false]
def V65 (v : Int) (x6 : AV) : List AV := [.junk, .ptr 0 0, .ptr 1 0, .ptr 2 0, .v (.int .i64 v), .junk, x6]
def z24 : AO := .box 24 [.v (.int .i64 0), .v (.string ⟨#[]⟩), .v (.int .i64 0), .v (.slice none 0 0)]
theorem trm_loop {K : Nat} {cc : List AV} {b : AV} {es : List AV} {l : List Tm} (hb : Q76 [.box 46 cc] false 1 (.ptr 0 4) = some b) (hs : Sl 4 b es) (hes : All2 es l) (hm : es.length ≤ 900000) :
  ∀ (d : Nat) (a : AV) (vars : List AV), d < es.length → IsT a (cmT (l.drop d)) → clr K65 vars = V65 ((d : Int) - 1) .junk →
   ∃ a', loopN (exec (callW F) K c65_8) K65 (d + 1) vars [.box 46 cc, z24, .box 24 a.cells] = some (.exit 0, V65 (-1) (.v (.bool false)), [.box 46 cc, z24, .box 24 a'.cells]) ∧ IsT a' (cmT l) := by
 have hll := hes.length
 intro d
 induction d with
 | zero =>
  intro a vars hd ha hv
  refine ⟨a, ?_, ha⟩
  refine loop_exit ?_
  rw [hv]
  have e : ((0 : Nat) : Int) - 1 = -1 := rfl
  rw [e]
  have hg : decide ((-1 : Int) ≥ 0) = false := rfl
  simp only [V65, c65_8, c65_5, hg, Q0, Q1, Q2, Q3, Q4, Q5, Q6, Q7, Q8, Q9, Q10, Q11, Q12, Q13, Q14, Q15, Q16, Q17, Q18, Q19, Q20, Q21, Q22, Q23, Q24, Q25, Q26, Q27, Q28, Q29, Q30, Q31, Q32, Q33, Q35, Q36, Q37, Q38, Q39, Q40, Q41, Q42, Q43, Q44, Q45, Q46, Q47, Q48, Q49, Q50, Q51, Q52, Q53, Q54, Q55, Q56, Q57, Q58, Q59, Q60, Q61, Q62, Q63, Q64, Q65, Q66, Q67, Q68, Q69, Q70, Q71, Q72, Q73, Q99, Q100, Q101, Q102, Q103, Q74, Q75, Q77, Q78, Q79, Q80, Q81, Q82, Q83, Q84, clr, List.length_nil, List.length_cons, List.getElem?_cons_zero, List.getElem?_cons_succ, Nat.reduceAdd, Nat.zero_add, Nat.add_zero, Nat.reduceLeDiff, Nat.reduceSub, ↓reduceIte, List.drop_succ_cons, List.drop_zero, List.take_succ_cons, List.take_zero, Bool.false_eq_true, List.nil_append, List.cons_append, Bool.not_true, Bool.not_false, cond_true, cond_false, bne, Q85, Q86, Q87, Q88, Q89, Q90, Q91, Q92, Q93, Q94, Q95, Q96, Q97, Q98, Q110, Q111, Q116, Q117, Q118, Q119, Q120, Q121, Q122, Q123, Option.map_some, Option.map_none]
 | succ d ih =>
  intro a vars hd ha hv
  have hdl : d < l.length := by omega
  have hde : d < es.length := by omega
  have hT := hes.at hde hdl
  have he : es[d]? = some es[d] := List.getElem?_eq_getElem hde
  have hdrop : l.drop d = l[d] :: l.drop (d + 1) := List.drop_eq_getElem_cons hdl
  have hne : l.drop (d + 1) ≠ [] := by
   intro e
   have := congrArg List.length e
   simp at this; omega
  generalize es[d] = e at hT he
  have hf := hT.facts
  have hfa := ha.facts
  obtain ⟨r, r1, r2⟩ := cmp_ok hT ha comma
  rw [← cmT_cons hne, ← hdrop] at r2
  have hfr := r2.facts
  have q1 := fun h : List AO => hs.ia he h
  have ev : ((d + 1 : Nat) : Int) - 1 = (d : Int) := by omega
  rw [ev] at hv
  have hg : decide ((d : Int) ≥ 0) = true := by simp
  have hw : IntKind.i64.wrap ((d : Int) - 1) = (d : Int) - 1 := by rw [IntWalk.i64_in] <;> omega
  have lb : Q76 [.box 46 cc, z24, .box 24 a.cells] false 1 (.ptr 0 4) = some b := hb
  have la : Q76 [.box 46 cc, z24, .box 24 a.cells] true 4 (.ptr 2 0) = some a := hfa.2.2.2.1 [.box 46 cc, z24] 24
  have sr : Q113 [.box 46 cc, z24, .box 24 a.cells] 4 (.ptr 2 0) r = some [.box 46 cc, z24, .box 24 r.cells] := by
   exact st_box (H := [.box 46 cc, z24, .box 24 a.cells]) (id := 2) rfl ha r2
  have b2 : bs2 [.box 46 cc, z24, .box 24 a.cells] 4 (some e) (some a) = some (.slc 4 true true [e, a], [.box 46 cc, z24, .box 24 a.cells]) := by
   simp only [bs2, hT.cl.1, hT.cl.2, ha.cl.1, ha.cl.2, if_true]
  have sl2 : ∀ H : List AO, (AV.slc 4 true true [e, a]).snap1 H = some (.slc 4 true true [e, a]) := fun _ => rfl
  simp only [comma] at r1
  have st : exec (callW F) K c65_8 (V65 (d : Int) .junk) [.box 46 cc, z24, .box 24 a.cells] = some (.normal, V65 ((d : Int) - 1) (.v (.bool true)), [.box 46 cc, z24, .box 24 r.cells]) := by
   generalize [AO.box 46 cc, z24, .box 24 a.cells] = H0 at *
   generalize [AO.box 46 cc, z24, .box 24 r.cells] = H1 at *
   generalize [e, a] = L at *
   simp only [V65, c65_8, c65_5, c65_6, c65_7, hg, hw, lb, la, q1, hf, hfa, Q105, b2, sl2, snap_str, r1, sr, Q0, Q1, Q2, Q3, Q4, Q5, Q6, Q7, Q8, Q9, Q10, Q11, Q12, Q13, Q14, Q15, Q16, Q17, Q18, Q19, Q20, Q21, Q22, Q23, Q24, Q25, Q26, Q27, Q28, Q29, Q30, Q31, Q32, Q33, Q35, Q36, Q37, Q38, Q39, Q40, Q41, Q42, Q43, Q44, Q45, Q46, Q47, Q48, Q49, Q50, Q51, Q52, Q53, Q54, Q55, Q56, Q57, Q58, Q59, Q60, Q61, Q62, Q63, Q64, Q65, Q66, Q67, Q68, Q69, Q70, Q71, Q72, Q73, Q99, Q100, Q101, Q102, Q103, Q74, Q75, Q77, Q78, Q79, Q80, Q81, Q82, Q83, Q84, clr, List.length_nil, List.length_cons, List.getElem?_cons_zero, List.getElem?_cons_succ, Nat.reduceAdd, Nat.zero_add, Nat.add_zero, Nat.reduceLeDiff, Nat.reduceSub, ↓reduceIte, List.drop_succ_cons, List.drop_zero, List.take_succ_cons, List.take_zero, Bool.false_eq_true, List.nil_append, List.cons_append, Bool.not_true, Bool.not_false, cond_true, cond_false, bne, Q85, Q86, Q87, Q88, Q89, Q90, Q91, Q92, Q93, Q94, Q95, Q96, Q97, Q98, Q110, Q111, Q116, Q117, Q118, Q119, Q120, Q121, Q122, Q123, Option.map_some, Option.map_none]
  rw [loop_normal (by rw [hv]; exact st)]
  exact ih r (V65 ((d : Int) - 1) (.v (.bool true))) (by omega) r2 rfl
theorem trm_ok {ca : AV} {x : Cl} (hc : IsCl ca x) (hz : x.body.length ≤ 900000) : ∃ a, callW F 65 [ca] [] = some (a, []) ∧ IsT a (trmT x) := by
 cases hc with
 | mk k s n c l hcl b bl hbl vs =>
 obtain ⟨es, hs, hes, hm⟩ := hbl.sl
 have hll := hes.length
 simp only at hz
 have hT : IsT (.agg [.v (.int .i64 k), .v (.string s), .v (.int .i64 n), c]) (.mk k s n l) := .mk k s n c l hcl
 obtain ⟨cc, hcc⟩ : ∃ cc, [AV.v (.int .i64 k), .v (.string s), .v (.int .i64 n), c, b, .v (.int .i64 vs)] = cc := ⟨_, rfl⟩
 have bx0 : bx [] 46 (some cc) = some (.ptr 0 0, [.box 46 cc]) := rfl
 have bx1 : bx [.box 46 cc] 24 (ofVal (.agg #[(.int .i64 0), (.string ⟨#[]⟩), (.int .i64 0), (.slice none 0 0)])).cl = some (.ptr 1 0, [.box 46 cc, z24]) := by rw [q9z]; rfl
 have lb0 : Q76 [.box 46 cc] false 1 (.ptr 0 4) = some b := by rw [← hcc, bx_ld (id := 0) (bt := 46) rfl]; simp [Q77]
 have lb : Q76 [.box 46 cc, z24] false 1 (.ptr 0 4) = some b := lb0
 have lh : ∀ G : List AO, Q76 (.box 46 cc :: G) true 4 (.ptr 0 0) = some (.agg [.v (.int .i64 k), .v (.string s), .v (.int .i64 n), c]) := by intro G; rw [← hcc]; rfl
 have lh0 := lh [z24]
 have q1 := fun H : List AO => hs.len H
 have res : ∀ {a : AV} {t : Tm} (G : List AO), IsT a t → lvf ([.box 46 cc, .box 24 a.cells] ++ G) a = some (a, []) := by
  intro a t G h
  cases h with | mk k s n c l hc => cases hc <;> rfl
 have rl : ∀ {a : AV} {t : Tm} (G : List AO), IsT a t → Q76 ([.box 46 cc, .box 24 a.cells] ++ G) true 4 (.ptr 1 0) = some a := by
  intro a t G h
  cases h; rfl
 have stz : ∀ {a : AV} {t : Tm} (G : List AO), IsT a t → Q113 ([.box 46 cc, z24] ++ G) 4 (.ptr 1 0) a = some ([.box 46 cc, .box 24 a.cells] ++ G) := by
  intro a t G h
  cases h; rfl
 have hsn : ∀ H : List AO, Q76 H true 4 (.ptr 0 0) = Q76 H true 4 (.ptr 0 0) := fun _ => rfl
 rw [show AV.agg [AV.v (.int .i64 k), .v (.string s), .v (.int .i64 n), c, b, .v (.int .i64 vs)] = .agg cc from by rw [hcc]]
 by_cases h0 : es.length = 0
 ·refine ⟨_, callW_pure (c := c65) rfl rfl 0 ?_, by rw [trmT, if_pos (by simp only; omega)]; exact hT⟩
  have e0 : ((es.length : Int) == 0) = true := by simp [h0]
  have r1 := res [] hT
  have r2 := rl [] hT
  have r3 := stz [] hT
  simp only [List.append_nil] at r1 r2 r3
  generalize AV.agg [.v (.int .i64 k), .v (.string s), .v (.int .i64 n), c] = A at *
  simp only [c65, start, List.replicate, c65_0, c65_1, c65_2, bx0, bx1, lb, lh0, q1, e0, r1, r2, r3, Q110, Q0, Q1, Q2, Q3, Q4, Q5, Q6, Q7, Q8, Q9, Q10, Q11, Q12, Q13, Q14, Q15, Q16, Q17, Q18, Q19, Q20, Q21, Q22, Q23, Q24, Q25, Q26, Q27, Q28, Q29, Q30, Q31, Q32, Q33, Q35, Q36, Q37, Q38, Q39, Q40, Q41, Q42, Q43, Q44, Q45, Q46, Q47, Q48, Q49, Q50, Q51, Q52, Q53, Q54, Q55, Q56, Q57, Q58, Q59, Q60, Q61, Q62, Q63, Q64, Q65, Q66, Q67, Q68, Q69, Q70, Q71, Q72, Q73, Q99, Q100, Q101, Q102, Q103, Q74, Q75, Q77, Q78, Q79, Q80, Q81, Q82, Q83, Q84, clr, List.length_nil, List.length_cons, List.getElem?_cons_zero, List.getElem?_cons_succ, Nat.reduceAdd, Nat.zero_add, Nat.add_zero, Nat.reduceLeDiff, Nat.reduceSub, ↓reduceIte, List.drop_succ_cons, List.drop_zero, List.take_succ_cons, List.take_zero, Bool.false_eq_true, List.nil_append, List.cons_append, Bool.not_true, Bool.not_false, cond_true, cond_false, bne, Q85, Q86, Q87, Q88, Q89, Q90, Q91, Q92, Q93, Q94, Q95, Q96, Q97, Q98, Q110, Q111, Q116, Q117, Q118, Q119, Q120, Q121, Q122, Q123, Option.map_some, Option.map_none]
 ·have e0 : ((es.length : Int) == 0) = false := beq_eq_false_iff_ne.2 (by omega)
  obtain ⟨d, hd⟩ : ∃ d, es.length = d + 1 := ⟨es.length - 1, by omega⟩
  have hdl : d < l.length ∨ True := .inr trivial
  have hdb : d < bl.length := by omega
  have hde : d < es.length := by omega
  have hTd := hes.at hde hdb
  have he : es[d]? = some es[d] := List.getElem?_eq_getElem hde
  have hdrop : bl.drop d = [bl[d]] := by
   rw [List.drop_eq_getElem_cons hdb, List.drop_eq_nil_of_le (by omega)]
  generalize es[d] = e at hTd he
  have hf := hTd.facts
  have q2 := fun h : List AO => hs.ia he h
  obtain ⟨a', k1, k2⟩ := trm_loop (K := d + 1) (cc := cc) lb0 hs hes (by omega) d e [.agg cc, .ptr 0 0, .ptr 1 0, .ptr 2 0, .v (.int .i64 ((d : Int) - 1)), .v (.bool false), .v undef] hde (by rw [hdrop]; exact hTd) rfl
  obtain ⟨r, r1, r2⟩ := cmp_ok hT k2 neck
  refine ⟨r, callW_pure (c := c65) rfl rfl (d + 1) ?_, by rw [trmT, if_neg (by simp only; omega)]; exact r2⟩
  have w1 : IntKind.i64.wrap ((es.length : Int) - 1) = (d : Int) := by rw [IntWalk.i64_in] <;> omega
  have w2 : IntKind.i64.wrap ((es.length : Int) - 2) = (d : Int) - 1 := by rw [IntWalk.i64_in] <;> omega
  have q9 : bx [.box 46 cc, z24] 24 (ofVal (.agg #[(.int .i64 0), (.string ⟨#[]⟩), (.int .i64 0), (.slice none 0 0)])).cl = some (.ptr 2 0, [.box 46 cc, z24, z24]) := by rw [q9z]; rfl
  have st2 : Q113 [.box 46 cc, z24, z24] 4 (.ptr 2 0) e = some [.box 46 cc, z24, .box 24 e.cells] := hf.2.2.1 [.box 46 cc, z24] 24 _ _ _ _
  have lb2 : Q76 [.box 46 cc, z24, .box 24 e.cells] false 1 (.ptr 0 4) = some b := lb0
  have lh2 := lh [z24, .box 24 a'.cells]
  have la2 : Q76 [.box 46 cc, z24, .box 24 a'.cells] true 4 (.ptr 2 0) = some a' := k2.facts.2.2.2.1 [.box 46 cc, z24] 24
  have b2 : bs2 [.box 46 cc, z24, .box 24 a'.cells] 4 (some (.agg [.v (.int .i64 k), .v (.string s), .v (.int .i64 n), c])) (some a') = some (.slc 4 true true [.agg [.v (.int .i64 k), .v (.string s), .v (.int .i64 n), c], a'], [.box 46 cc, z24, .box 24 a'.cells]) := by
   simp only [bs2, hT.cl.1, hT.cl.2, k2.cl.1, k2.cl.2, if_true]
  have sl2 : ∀ H : List AO, (AV.slc 4 true true [.agg [.v (.int .i64 k), .v (.string s), .v (.int .i64 n), c], a']).snap1 H = some (.slc 4 true true [.agg [.v (.int .i64 k), .v (.string s), .v (.int .i64 n), c], a']) := fun _ => rfl
  have r3 := stz [.box 24 a'.cells] r2
  have r4 := rl [.box 24 a'.cells] r2
  have r5 := res [.box 24 a'.cells] r2
  simp only [List.cons_append, List.nil_append] at r3 r4 r5
  have hfT := hT.facts
  have hfa := k2.facts
  simp only [neck] at r1
  simp only [V65] at k1
  rw [show c65.body = (.seq (.region [] [] c65_0) (.seq (.seq (.region [] [] c65_1) (.cond (.var 5) (.seq (.region [] [] c65_2) .ret) .skip)) (.seq (.region [] [] c65_3) (.seq (.seq (.region [] [] c65_4) (.block 0 (.loop K65 [] c65_8))) (.seq (.region [] [] c65_9) .ret))))) from rfl]
  generalize c65_8 = bb at k1 ⊢
  generalize AV.agg [.v (.int .i64 k), .v (.string s), .v (.int .i64 n), c] = A at *
  generalize [A, a'] = L at *
  simp only [c65, start, List.replicate, c65_0, c65_1, c65_3, c65_4, c65_9, bx0, bx1, lb, lb2, lh2, la2, q1, q2, hf, hfT, hfa, e0, w1, w2, q9, st2, k1, Q105, b2, sl2, snap_str, r1, r3, r4, r5, Q110, Q0, Q1, Q2, Q3, Q4, Q5, Q6, Q7, Q8, Q9, Q10, Q11, Q12, Q13, Q14, Q15, Q16, Q17, Q18, Q19, Q20, Q21, Q22, Q23, Q24, Q25, Q26, Q27, Q28, Q29, Q30, Q31, Q32, Q33, Q35, Q36, Q37, Q38, Q39, Q40, Q41, Q42, Q43, Q44, Q45, Q46, Q47, Q48, Q49, Q50, Q51, Q52, Q53, Q54, Q55, Q56, Q57, Q58, Q59, Q60, Q61, Q62, Q63, Q64, Q65, Q66, Q67, Q68, Q69, Q70, Q71, Q72, Q73, Q99, Q100, Q101, Q102, Q103, Q74, Q75, Q77, Q78, Q79, Q80, Q81, Q82, Q83, Q84, clr, List.length_nil, List.length_cons, List.getElem?_cons_zero, List.getElem?_cons_succ, Nat.reduceAdd, Nat.zero_add, Nat.add_zero, Nat.reduceLeDiff, Nat.reduceSub, ↓reduceIte, List.drop_succ_cons, List.drop_zero, List.take_succ_cons, List.take_zero, Bool.false_eq_true, List.nil_append, List.cons_append, Bool.not_true, Bool.not_false, cond_true, cond_false, bne, Q85, Q86, Q87, Q88, Q89, Q90, Q91, Q92, Q93, Q94, Q95, Q96, Q97, Q98, Q110, Q111, Q116, Q117, Q118, Q119, Q120, Q121, Q122, Q123, Option.map_some, Option.map_none]
end Go.AE.YtinhjhkmpknbbaaDoor
end

section
namespace Go.AE.YtinhjhkmpknbbaaDoor
open Go Go.AE Go.Proofs.YtinhjhkmpknbbaaDoor

def Gd (x : Cl) : Prop := wfC x ∧ zL x.hd.l + zL x.body ≤ 420000
def few2 (t : Tm) : Bool := decide (fewT t 2000 ≥ 0)
theorem few2_z {t : Tm} (h : few2 t = true) : zT t ≤ 2000 := by
 have := few_z (t := t) (m := 2000) (by omega) (by omega) h
 omega
theorem zL_bound : ∀ {l : List Tm}, (∀ t ∈ l, zT t ≤ 2000) → zL l ≤ 2000 * l.length
 | [], _ => by simp [zL]
 | t :: l, h => by
  have h1 := h t (by simp)
  have h2 := zL_bound (l := l) fun u hu => h u (by simp [hu])
  simp only [zL, List.length_cons]; omega
def K31 : List Bool := [false, true, false, false, false, false, false, true, true, true, false, false]
def V31 (b : AV) (n i : Int) (x3 x10 x11 : AV) : List AV := [.junk, .ptr 0 0, .junk, x3, .junk, .junk, .junk, b, .v (.int .i64 n), .v (.int .i64 i), x10, x11]
theorem good_loop {K : Nat} {b : AV} {es : List AV} {l : List Tm} (hs : Sl 4 b es) (hes : All2 es l) (hm : es.length ≤ 900000) (H : List AO) (w : List AV) (hK : l.length < K) (hv : clr K31 w = V31 b es.length 0 .junk .junk .junk) :
  (l.all few2 = true ∧ ∃ X, loopN (exec (callW F) K c31_9) K31 K w H = some (.exit 0, V31 b es.length es.length .junk (.v (.bool false)) .junk, H ++ X)) ∨
  (l.all few2 = false ∧ ∃ v' h', loopN (exec (callW F) K c31_9) K31 K w H = some (.ret, v', h') ∧ getO v' [] (.var 2) = .v (.bool false)) := by
 have hll := hes.length
 obtain ⟨e, v', h', g1, g2, g3⟩ := loop_rule0 (call := callW F) (K := K) (b := c31_9) (keep := K31)
  (fun i v h => v = V31 b es.length i .junk .junk .junk ∧ (∃ X, h = H ++ X) ∧ (l.drop i).all few2 = l.all few2)
  (fun e v h => (e = .exit 0 ∧ l.all few2 = true ∧ v = V31 b es.length es.length .junk (.v (.bool false)) .junk ∧ ∃ X, h = H ++ X) ∨ (e = .ret ∧ l.all few2 = false ∧ getO v [] (.var 2) = .v (.bool false)))
  l.length (m := K) (v := w) (h := H) hK ⟨hv, ⟨[], by simp⟩, rfl⟩ (by
   rintro i v h hi ⟨rfl, ⟨X, rfl⟩, hR⟩
   by_cases hil : i < l.length
   ·have hie : i < es.length := by omega
    have hT := hes.at hie hil
    have hlt := lt_t hie
    have he : es[i]? = some es[i] := List.getElem?_eq_getElem hie
    have q2 := fun h : List AO => hs.ia he h
    have hf := hT.facts
    have hd : l.drop i = l[i] :: l.drop (i + 1) := List.drop_eq_getElem_cons hil
    have hw := wrap_succ hie (small_maxM hm)
    have hfew := few_ok l[i] es[i] 2000 hT
    have q9 : ∀ h : List AO, bx h 24 (ofVal (.agg #[(.int .i64 0), (.string ⟨#[]⟩), (.int .i64 0), (.slice none 0 0)])).cl = some (.ptr h.length 0, h ++ [.box 24 [.v (.int .i64 0), .v (.string ⟨#[]⟩), .v (.int .i64 0), .v (.slice none 0 0)]]) := fun h => by rw [q9z]; rfl
    rw [hd, List.all_cons] at hR
    cases hq : few2 l[i] with
    | true =>
     rw [hq, Bool.true_and] at hR
     rw [show decide (fewT l[i] 2000 ≥ 0) = true from hq] at hfew
     refine ⟨.normal, V31 b es.length ((i + 1 : Nat) : Int) (.ptr (H ++ X).length 0) (.v (.bool true)) (.v (.bool false)), (H ++ X) ++ [.box 24 es[i].cells], ?_, hil, rfl, ⟨X ++ [.box 24 es[i].cells], by rw [List.append_assoc]⟩, hR⟩
     generalize H ++ X = G
     simp only [V31, c31_9, c31_4, c31_5, c31_6, c31_8, hlt, q2, hf, hfew, hw, q9, snap_int, Bool.not_true, Q0, Q1, Q2, Q3, Q4, Q5, Q6, Q7, Q8, Q9, Q10, Q11, Q12, Q13, Q14, Q15, Q16, Q17, Q18, Q19, Q20, Q21, Q22, Q23, Q24, Q25, Q26, Q27, Q28, Q29, Q30, Q31, Q32, Q33, Q35, Q36, Q37, Q38, Q39, Q40, Q41, Q42, Q43, Q44, Q45, Q46, Q47, Q48, Q49, Q50, Q51, Q52, Q53, Q54, Q55, Q56, Q57, Q58, Q59, Q60, Q61, Q62, Q63, Q64, Q65, Q66, Q67, Q68, Q69, Q70, Q71, Q72, Q73, Q99, Q100, Q101, Q102, Q103, Q74, Q75, Q77, Q78, Q79, Q80, Q81, Q82, Q83, Q84, clr, List.length_nil, List.length_cons, List.getElem?_cons_zero, List.getElem?_cons_succ, Nat.reduceAdd, Nat.zero_add, Nat.add_zero, Nat.reduceLeDiff, Nat.reduceSub, ↓reduceIte, List.drop_succ_cons, List.drop_zero, List.take_succ_cons, List.take_zero, Bool.false_eq_true, List.nil_append, List.cons_append, Bool.not_true, Bool.not_false, cond_true, cond_false, bne, Q85, Q86, Q87, Q88, Q89, Q90, Q91, Q92, Q93, Q94, Q95, Q96, Q97, Q98, Q110, Q111, Q116, Q117, Q118, Q119, Q120, Q121, Q122, Q123, Option.map_some, Option.map_none]
    | false =>
     rw [hq, Bool.false_and] at hR
     rw [show decide (fewT l[i] 2000 ≥ 0) = false from hq] at hfew
     refine ⟨.ret, [.junk, .ptr 0 0, .v (.bool false), .ptr (H ++ X).length 0, .junk, .junk, .junk, b, .v (.int .i64 es.length), .v (.int .i64 i), .v (.bool true), .v (.bool true)], (H ++ X) ++ [.box 24 es[i].cells], ?_, .inr ⟨rfl, hR.symm, rfl⟩⟩
     generalize H ++ X = G
     simp only [V31, c31_9, c31_4, c31_5, c31_6, c31_7, hlt, q2, hf, hfew, q9, snap_int, Bool.not_false, Q0, Q1, Q2, Q3, Q4, Q5, Q6, Q7, Q8, Q9, Q10, Q11, Q12, Q13, Q14, Q15, Q16, Q17, Q18, Q19, Q20, Q21, Q22, Q23, Q24, Q25, Q26, Q27, Q28, Q29, Q30, Q31, Q32, Q33, Q35, Q36, Q37, Q38, Q39, Q40, Q41, Q42, Q43, Q44, Q45, Q46, Q47, Q48, Q49, Q50, Q51, Q52, Q53, Q54, Q55, Q56, Q57, Q58, Q59, Q60, Q61, Q62, Q63, Q64, Q65, Q66, Q67, Q68, Q69, Q70, Q71, Q72, Q73, Q99, Q100, Q101, Q102, Q103, Q74, Q75, Q77, Q78, Q79, Q80, Q81, Q82, Q83, Q84, clr, List.length_nil, List.length_cons, List.getElem?_cons_zero, List.getElem?_cons_succ, Nat.reduceAdd, Nat.zero_add, Nat.add_zero, Nat.reduceLeDiff, Nat.reduceSub, ↓reduceIte, List.drop_succ_cons, List.drop_zero, List.take_succ_cons, List.take_zero, Bool.false_eq_true, List.nil_append, List.cons_append, Bool.not_true, Bool.not_false, cond_true, cond_false, bne, Q85, Q86, Q87, Q88, Q89, Q90, Q91, Q92, Q93, Q94, Q95, Q96, Q97, Q98, Q110, Q111, Q116, Q117, Q118, Q119, Q120, Q121, Q122, Q123, Option.map_some, Option.map_none]
   ·have hie : i = es.length := by omega
    subst hie
    have hlt := lt_f (n := es.length)
    rw [List.drop_of_length_le (by omega), List.all_nil] at hR
    refine ⟨.exit 0, V31 b es.length es.length .junk (.v (.bool false)) .junk, H ++ X, ?_, .inl ⟨rfl, hR.symm, rfl, X, rfl⟩⟩
    generalize H ++ X = G
    simp only [V31, c31_9, c31_4, hlt, Q0, Q1, Q2, Q3, Q4, Q5, Q6, Q7, Q8, Q9, Q10, Q11, Q12, Q13, Q14, Q15, Q16, Q17, Q18, Q19, Q20, Q21, Q22, Q23, Q24, Q25, Q26, Q27, Q28, Q29, Q30, Q31, Q32, Q33, Q35, Q36, Q37, Q38, Q39, Q40, Q41, Q42, Q43, Q44, Q45, Q46, Q47, Q48, Q49, Q50, Q51, Q52, Q53, Q54, Q55, Q56, Q57, Q58, Q59, Q60, Q61, Q62, Q63, Q64, Q65, Q66, Q67, Q68, Q69, Q70, Q71, Q72, Q73, Q99, Q100, Q101, Q102, Q103, Q74, Q75, Q77, Q78, Q79, Q80, Q81, Q82, Q83, Q84, clr, List.length_nil, List.length_cons, List.getElem?_cons_zero, List.getElem?_cons_succ, Nat.reduceAdd, Nat.zero_add, Nat.add_zero, Nat.reduceLeDiff, Nat.reduceSub, ↓reduceIte, List.drop_succ_cons, List.drop_zero, List.take_succ_cons, List.take_zero, Bool.false_eq_true, List.nil_append, List.cons_append, Bool.not_true, Bool.not_false, cond_true, cond_false, bne, Q85, Q86, Q87, Q88, Q89, Q90, Q91, Q92, Q93, Q94, Q95, Q96, Q97, Q98, Q110, Q111, Q116, Q117, Q118, Q119, Q120, Q121, Q122, Q123, Option.map_some, Option.map_none, Q34])
 rcases g3 with ⟨rfl, h1, rfl, X, rfl⟩ | ⟨rfl, h1, h2⟩
 ·exact .inl ⟨h1, X, g1⟩
 ·exact .inr ⟨h1, v', h', g1, h2⟩
theorem good_ok {ca : AV} {x : Cl} (hc : IsCl ca x) : ∃ g, callW F 31 [ca] [] = some (.v (.bool g), []) ∧ (g = true → Gd x) := by
 have hcc0 := hc
 cases hc with
 | mk k s n c l hcl b bl hbl vs =>
 obtain ⟨es, hs, hes, hm⟩ := hbl.sl
 have hll := hes.length
 have hT : IsT (.agg [.v (.int .i64 k), .v (.string s), .v (.int .i64 n), c]) (.mk k s n l) := .mk k s n c l hcl
 obtain ⟨cc, hcc⟩ : ∃ cc, [AV.v (.int .i64 k), .v (.string s), .v (.int .i64 n), c, b, .v (.int .i64 vs)] = cc := ⟨_, rfl⟩
 have bx0 : bx [] 46 (some cc) = some (.ptr 0 0, [.box 46 cc]) := rfl
 have lb : Q76 [.box 46 cc] false 1 (.ptr 0 4) = some b := by rw [← hcc, bx_ld (id := 0) (bt := 46) rfl]; simp [Q77]
 have lh : Q76 [.box 46 cc] true 4 (.ptr 0 0) = some (.agg [.v (.int .i64 k), .v (.string s), .v (.int .i64 n), c]) := by rw [← hcc]; rfl
 have l6 : ∀ G : List AO, Q76 (.box 46 cc :: G) true 6 (.ptr 0 0) = some (.agg cc) := by intro G; rw [← hcc]; rfl
 have q1 := fun H : List AO => hs.len H
 have hfew := few_ok _ _ 2000 hT
 have snT := hT.facts.2.1
 have snC := cl_snap hcc0
 rw [show AV.agg [AV.v (.int .i64 k), .v (.string s), .v (.int .i64 n), c, b, .v (.int .i64 vs)] = .agg cc from by rw [hcc]] at snC hcc0 ⊢
 generalize AV.agg [.v (.int .i64 k), .v (.string s), .v (.int .i64 n), c] = A at *
 cases h1 : few2 (.mk k s n l) with
 | false =>
  rw [show decide (fewT (.mk k s n l) 2000 ≥ 0) = false from h1] at hfew
  refine ⟨false, callW_pure (c := c31) rfl rfl 0 ?_, fun h => by cases h⟩
  simp only [c31, start, List.replicate, c31_0, c31_1, c31_2, bx0, lb, lh, q1, snT, snap_int, hfew, Q122, Q110, Bool.not_false, Q0, Q1, Q2, Q3, Q4, Q5, Q6, Q7, Q8, Q9, Q10, Q11, Q12, Q13, Q14, Q15, Q16, Q17, Q18, Q19, Q20, Q21, Q22, Q23, Q24, Q25, Q26, Q27, Q28, Q29, Q30, Q31, Q32, Q33, Q35, Q36, Q37, Q38, Q39, Q40, Q41, Q42, Q43, Q44, Q45, Q46, Q47, Q48, Q49, Q50, Q51, Q52, Q53, Q54, Q55, Q56, Q57, Q58, Q59, Q60, Q61, Q62, Q63, Q64, Q65, Q66, Q67, Q68, Q69, Q70, Q71, Q72, Q73, Q99, Q100, Q101, Q102, Q103, Q74, Q75, Q77, Q78, Q79, Q80, Q81, Q82, Q83, Q84, clr, List.length_nil, List.length_cons, List.getElem?_cons_zero, List.getElem?_cons_succ, Nat.reduceAdd, Nat.zero_add, Nat.add_zero, Nat.reduceLeDiff, Nat.reduceSub, ↓reduceIte, List.drop_succ_cons, List.drop_zero, List.take_succ_cons, List.take_zero, Bool.false_eq_true, List.nil_append, List.cons_append, Bool.not_true, Bool.not_false, cond_true, cond_false, bne, Q85, Q86, Q87, Q88, Q89, Q90, Q91, Q92, Q93, Q94, Q95, Q96, Q97, Q98, Q110, Q111, Q116, Q117, Q118, Q119, Q120, Q121, Q122, Q123, Option.map_some, Option.map_none]
 | true =>
 rw [show decide (fewT (.mk k s n l) 2000 ≥ 0) = true from h1] at hfew
 cases h2 : decide ((es.length : Int) > 200) with
 | true =>
  refine ⟨false, callW_pure (c := c31) rfl rfl 0 ?_, fun h => by cases h⟩
  simp only [c31, start, List.replicate, c31_0, c31_1, c31_2, bx0, lb, lh, q1, snT, snap_int, hfew, h2, Q122, Q110, Bool.not_true, Q0, Q1, Q2, Q3, Q4, Q5, Q6, Q7, Q8, Q9, Q10, Q11, Q12, Q13, Q14, Q15, Q16, Q17, Q18, Q19, Q20, Q21, Q22, Q23, Q24, Q25, Q26, Q27, Q28, Q29, Q30, Q31, Q32, Q33, Q35, Q36, Q37, Q38, Q39, Q40, Q41, Q42, Q43, Q44, Q45, Q46, Q47, Q48, Q49, Q50, Q51, Q52, Q53, Q54, Q55, Q56, Q57, Q58, Q59, Q60, Q61, Q62, Q63, Q64, Q65, Q66, Q67, Q68, Q69, Q70, Q71, Q72, Q73, Q99, Q100, Q101, Q102, Q103, Q74, Q75, Q77, Q78, Q79, Q80, Q81, Q82, Q83, Q84, clr, List.length_nil, List.length_cons, List.getElem?_cons_zero, List.getElem?_cons_succ, Nat.reduceAdd, Nat.zero_add, Nat.add_zero, Nat.reduceLeDiff, Nat.reduceSub, ↓reduceIte, List.drop_succ_cons, List.drop_zero, List.take_succ_cons, List.take_zero, Bool.false_eq_true, List.nil_append, List.cons_append, Bool.not_true, Bool.not_false, cond_true, cond_false, bne, Q85, Q86, Q87, Q88, Q89, Q90, Q91, Q92, Q93, Q94, Q95, Q96, Q97, Q98, Q110, Q111, Q116, Q117, Q118, Q119, Q120, Q121, Q122, Q123, Option.map_some, Option.map_none]
 | false =>
 have hlen : es.length ≤ 200 := by have := of_decide_eq_false h2; omega
 have hbody : c31.body = (.seq (.region [] [] c31_0) (.seq (.seq (.region [] [] c31_1) (.cond (.var 6) (.seq (.region [] [] c31_2) .ret) .skip)) (.seq (.seq (.region [] [] c31_3) (.block 0 (.loop K31 [] c31_9))) (.seq (.region [] [] c31_10) (.seq (.region [] [] c31_11) .ret))))) := rfl
 rcases good_loop (K := l.length + bl.length + 1) hs hes (by omega) [.box 46 cc] [.agg cc, .ptr 0 0, .v (.bool false), .v undef, .v undef, .v undef, .v (.bool false), b, .v (.int .i64 es.length), .v (.int .i64 0), .v undef, .v undef] (by omega) rfl with ⟨hall, X, k1⟩ | ⟨hall, v', h', k1, k2⟩
 ·-- Make is asked
  have hz1 := few2_z h1
  have hz2 : zL bl ≤ 2000 * bl.length := zL_bound fun t ht => few2_z (List.all_eq_true.1 hall t ht)
  obtain ⟨a, t1, t2⟩ := trm_ok hcc0 (by simp only; omega)
  have hzt := trmT_z ⟨.mk k s n l, bl, vs⟩
  simp only at hzt
  obtain ⟨ca2, h6, m1, m2⟩ := make_ok t2 (by omega)
  have hft := t2.facts.2.1
  have l6X := l6 X
  have s6 : Q113 ((.box 46 cc :: X) ++ [.box 46 zero6]) 6 (.ptr (.box 46 cc :: X).length 0) ca2 = some ((.box 46 cc :: X) ++ [.box 46 ca2.cells]) := st6 (h := .box 46 cc :: X) h6
  have bx6 : bx (.box 46 cc :: X) 46 (some zero6) = some (.ptr (.box 46 cc :: X).length 0, (.box 46 cc :: X) ++ [.box 46 zero6]) := rfl
  have l6Y : Q76 ((.box 46 cc :: X) ++ [.box 46 ca2.cells]) true 6 (.ptr 0 0) = some (.agg cc) := l6 _
  have z6 := six_zero
  simp only [List.singleton_append] at k1
  generalize hH0 : AO.box 46 cc :: X = H0 at *
  by_cases he : makeE (trmT ⟨.mk k s n l, bl, vs⟩) = 0
  ·have hcl2 : IsCl ca2 (mdT (trmT ⟨.mk k s n l, bl, vs⟩)) := m2 he
   have hmd := made (M := 405000) (by omega) he
   have hsame := clsame_ok hcc0 hcl2
   have hiff := eqCl_iff (x := ⟨.mk k s n l, bl, vs⟩) (y := mdT (trmT ⟨.mk k s n l, bl, vs⟩))
   refine ⟨eqCl ⟨.mk k s n l, bl, vs⟩ (mdT (trmT ⟨.mk k s n l, bl, vs⟩)), callW_pure (c := c31) rfl rfl (l.length + bl.length + 1) ?_, fun h => ?_⟩
   ·have lY : Q76 (H0 ++ [.box 46 ca2.cells]) true 6 (.ptr H0.length 0) = some ca2 := cl_load (h := H0) (G := []) hcl2
    have sn2 := cl_snap hcl2
    generalize eqCl ⟨.mk k s n l, bl, vs⟩ (mdT (trmT ⟨.mk k s n l, bl, vs⟩)) = EB at *
    rw [he] at m1
    have e0 : ((0 : Int) == 0) = true := rfl
    rw [hbody]
    simp only [V31] at k1
    generalize c31_9 = bb at k1 ⊢
    simp only [c31, start, List.replicate, c31_0, c31_1, c31_3, c31_10, c31_11, bx0, lb, lh, q1, snT, snC, hft, snap_int, hfew, h2, k1, l6X, t1, m1, z6, bx6, s6, l6Y, lY, sn2, hsame, e0, Q122, Q110, Bool.not_true, Q0, Q1, Q2, Q3, Q4, Q5, Q6, Q7, Q8, Q9, Q10, Q11, Q12, Q13, Q14, Q15, Q16, Q17, Q18, Q19, Q20, Q21, Q22, Q23, Q24, Q25, Q26, Q27, Q28, Q29, Q30, Q31, Q32, Q33, Q35, Q36, Q37, Q38, Q39, Q40, Q41, Q42, Q43, Q44, Q45, Q46, Q47, Q48, Q49, Q50, Q51, Q52, Q53, Q54, Q55, Q56, Q57, Q58, Q59, Q60, Q61, Q62, Q63, Q64, Q65, Q66, Q67, Q68, Q69, Q70, Q71, Q72, Q73, Q99, Q100, Q101, Q102, Q103, Q74, Q75, Q77, Q78, Q79, Q80, Q81, Q82, Q83, Q84, clr, List.length_nil, List.length_cons, List.getElem?_cons_zero, List.getElem?_cons_succ, Nat.reduceAdd, Nat.zero_add, Nat.add_zero, Nat.reduceLeDiff, Nat.reduceSub, ↓reduceIte, List.drop_succ_cons, List.drop_zero, List.take_succ_cons, List.take_zero, Bool.false_eq_true, List.nil_append, List.cons_append, Bool.not_true, Bool.not_false, cond_true, cond_false, bne, Q85, Q86, Q87, Q88, Q89, Q90, Q91, Q92, Q93, Q94, Q95, Q96, Q97, Q98, Q110, Q111, Q116, Q117, Q118, Q119, Q120, Q121, Q122, Q123, Option.map_some, Option.map_none]
   ·have := hiff.1 h
    rw [this]
    have hzz := hmd.2.2
    have hzl : zL (mdT (trmT ⟨.mk k s n l, bl, vs⟩)).hd.l ≤ zT (mdT (trmT ⟨.mk k s n l, bl, vs⟩)).hd := by
     cases (mdT (trmT ⟨.mk k s n l, bl, vs⟩)).hd; simp only [Tm.l, zT]; omega
    exact ⟨hmd.1, by omega⟩
  ·refine ⟨false, callW_pure (c := c31) rfl rfl (l.length + bl.length + 1) ?_, fun h => by cases h⟩
   have e0 : (makeE (trmT ⟨.mk k s n l, bl, vs⟩) == 0) = false := beq_eq_false_iff_ne.2 he
   generalize makeE (trmT ⟨.mk k s n l, bl, vs⟩) = E at *
   rw [hbody]
   simp only [V31] at k1
   generalize c31_9 = bb at k1 ⊢
   simp only [c31, start, List.replicate, c31_0, c31_1, c31_3, c31_10, c31_11, bx0, lb, lh, q1, snT, snC, hft, snap_int, hfew, h2, k1, l6X, t1, m1, z6, bx6, s6, e0, Q122, Q110, Bool.not_true, Q0, Q1, Q2, Q3, Q4, Q5, Q6, Q7, Q8, Q9, Q10, Q11, Q12, Q13, Q14, Q15, Q16, Q17, Q18, Q19, Q20, Q21, Q22, Q23, Q24, Q25, Q26, Q27, Q28, Q29, Q30, Q31, Q32, Q33, Q35, Q36, Q37, Q38, Q39, Q40, Q41, Q42, Q43, Q44, Q45, Q46, Q47, Q48, Q49, Q50, Q51, Q52, Q53, Q54, Q55, Q56, Q57, Q58, Q59, Q60, Q61, Q62, Q63, Q64, Q65, Q66, Q67, Q68, Q69, Q70, Q71, Q72, Q73, Q99, Q100, Q101, Q102, Q103, Q74, Q75, Q77, Q78, Q79, Q80, Q81, Q82, Q83, Q84, clr, List.length_nil, List.length_cons, List.getElem?_cons_zero, List.getElem?_cons_succ, Nat.reduceAdd, Nat.zero_add, Nat.add_zero, Nat.reduceLeDiff, Nat.reduceSub, ↓reduceIte, List.drop_succ_cons, List.drop_zero, List.take_succ_cons, List.take_zero, Bool.false_eq_true, List.nil_append, List.cons_append, Bool.not_true, Bool.not_false, cond_true, cond_false, bne, Q85, Q86, Q87, Q88, Q89, Q90, Q91, Q92, Q93, Q94, Q95, Q96, Q97, Q98, Q110, Q111, Q116, Q117, Q118, Q119, Q120, Q121, Q122, Q123, Option.map_some, Option.map_none]
 ·refine ⟨false, callW_pure (c := c31) rfl rfl (l.length + bl.length + 1) ?_, fun h => by cases h⟩
  rw [hbody]
  generalize c31_9 = bb at k1 ⊢
  generalize (CC.seq (.region [] [] c31_10) (.seq (.region [] [] c31_11) .ret)) = rest
  simp only [c31, start, List.replicate, c31_0, c31_1, c31_3, bx0, lb, lh, q1, snT, snap_int, hfew, h2, k1, Q122, Q110, Bool.not_true, Q0, Q1, Q2, Q3, Q4, Q5, Q6, Q7, Q8, Q9, Q10, Q11, Q12, Q13, Q14, Q15, Q16, Q17, Q18, Q19, Q20, Q21, Q22, Q23, Q24, Q25, Q26, Q27, Q28, Q29, Q30, Q31, Q32, Q33, Q35, Q36, Q37, Q38, Q39, Q40, Q41, Q42, Q43, Q44, Q45, Q46, Q47, Q48, Q49, Q50, Q51, Q52, Q53, Q54, Q55, Q56, Q57, Q58, Q59, Q60, Q61, Q62, Q63, Q64, Q65, Q66, Q67, Q68, Q69, Q70, Q71, Q72, Q73, Q99, Q100, Q101, Q102, Q103, Q74, Q75, Q77, Q78, Q79, Q80, Q81, Q82, Q83, Q84, clr, List.length_nil, List.length_cons, List.getElem?_cons_zero, List.getElem?_cons_succ, Nat.reduceAdd, Nat.zero_add, Nat.add_zero, Nat.reduceLeDiff, Nat.reduceSub, ↓reduceIte, List.drop_succ_cons, List.drop_zero, List.take_succ_cons, List.take_zero, Bool.false_eq_true, List.nil_append, List.cons_append, Bool.not_true, Bool.not_false, cond_true, cond_false, bne, Q85, Q86, Q87, Q88, Q89, Q90, Q91, Q92, Q93, Q94, Q95, Q96, Q97, Q98, Q110, Q111, Q116, Q117, Q118, Q119, Q120, Q121, Q122, Q123, Option.map_some, Option.map_none]
  simp only [Q85, Q87, k2, Q92]
end Go.AE.YtinhjhkmpknbbaaDoor
end

section
namespace Go.AE.YtinhjhkmpknbbaaDoor
open Go Go.AE Go.Proofs.YtinhjhkmpknbbaaDoor

theorem cd_elm {a : AV} {x : Cd} (h : IsCd a x) : El true 4 a := by
 cases h with
 | mk s ar v c l hc =>
  obtain ⟨es, hs, _, _⟩ := hc
  cases hs <;> exact ⟨rfl, rfl, fun _ => rfl, rfl, rfl, rfl⟩
theorem Gd.clause {ca : AV} {x : Cl} (hc : IsCl ca x) (h : Gd x) : ∃ cd, callW F 26 [ca] [] = some (cd, []) ∧ IsCd cd (cdT x) := by
 have hw := wfC_l h.1
 exact clause_ok hc hw.1 hw.2 h.2
theorem Gd.clause2 {ca : AV} {x : Cl} (hc : IsCl ca x) (h : Gd x) : ∃ cd, callW F 27 [ca] [] = some (cd, []) ∧ IsCd cd (cdT x) := by
 have hw := wfC_l h.1
 exact clause2_ok hc hw.1 hw.2 h.2
theorem cl_facts {e : AV} {x : Cl} (h : IsCl e x) : (∀ H : List AO, Q76 H true 6 (.ip e.cells) = some e) ∧ (∀ H : List AO, Q113 (H ++ [.box 46 zero6]) 6 (.ptr H.length 0) e = some (H ++ [.box 46 e.cells])) ∧ (∀ H : List AO, Q76 (H ++ [.box 46 e.cells]) true 6 (.ptr H.length 0) = some e) := by
 refine ⟨fun H => ?_, fun H => ?_, fun H => cl_load (G := []) h⟩
 ·cases h; rfl
 ·refine st6 ?_
  cases h; exact ⟨rfl, rfl⟩
def zc : AV := .agg [.v (.string ⟨#[]⟩), .v (.int .i64 0), .v (.int .i64 0), .v (.slice none 0 0)]
theorem zc_el : El true 4 zc := ⟨rfl, rfl, fun _ => rfl, rfl, rfl, rfl⟩
def K32 : List Bool := [false, false, true, false, false, true, true, true, false]
def V32 (c : AV) (n : Nat) (i : Int) (x3 x4 x8 : AV) : List AV := [.junk, .junk, .own 4 0 0 0 n, x3, x4, c, .v (.int .i64 n), .v (.int .i64 i), x8]
theorem prog_loop {K : Nat} {c : AV} {es : List AV} {l : List Cl} (hs : Sl 6 c es) (hes : AllR IsCl es l) (hg : ∀ x ∈ l, Gd x) (hm : es.length ≤ 900000) :
  ∀ (d i : Nat) (cs : List AV) (X : List AO) (vars : List AV), i + d = es.length → AllR (fun a x => IsCd a (cdT x)) cs (l.take i) → clr K32 vars = V32 c es.length i .junk .junk .junk →
   ∃ cs' X', loopN (exec (callW F) K c32_7) K32 (d + 1) vars (.row 52 4 0 (cs ++ List.replicate d zc) 0 :: X) = some (.exit 0, V32 c es.length es.length .junk .junk (.v (.bool false)), .row 52 4 0 cs' 0 :: X') ∧ AllR (fun a x => IsCd a (cdT x)) cs' l := by
 have hll := hes.length
 intro d
 induction d with
 | zero =>
  intro i cs X vars hil hcs hv
  have hil : i = es.length := by omega
  subst hil
  have hlt := lt_f (n := es.length)
  rw [hll, List.take_length] at hcs
  refine ⟨cs, X, ?_, hcs⟩
  rw [List.replicate_zero, List.append_nil]
  refine loop_exit ?_
  rw [hv]
  simp only [V32, c32_7, c32_3, hlt, Q0, Q1, Q2, Q3, Q4, Q5, Q6, Q7, Q8, Q9, Q10, Q11, Q12, Q13, Q14, Q15, Q16, Q17, Q18, Q19, Q20, Q21, Q22, Q23, Q24, Q25, Q26, Q27, Q28, Q29, Q30, Q31, Q32, Q33, Q35, Q36, Q37, Q38, Q39, Q40, Q41, Q42, Q43, Q44, Q45, Q46, Q47, Q48, Q49, Q50, Q51, Q52, Q53, Q54, Q55, Q56, Q57, Q58, Q59, Q60, Q61, Q62, Q63, Q64, Q65, Q66, Q67, Q68, Q69, Q70, Q71, Q72, Q73, Q99, Q100, Q101, Q102, Q103, Q74, Q75, Q77, Q78, Q79, Q80, Q81, Q82, Q83, Q84, clr, List.length_nil, List.length_cons, List.getElem?_cons_zero, List.getElem?_cons_succ, Nat.reduceAdd, Nat.zero_add, Nat.add_zero, Nat.reduceLeDiff, Nat.reduceSub, ↓reduceIte, List.drop_succ_cons, List.drop_zero, List.take_succ_cons, List.take_zero, Bool.false_eq_true, List.nil_append, List.cons_append, Bool.not_true, Bool.not_false, cond_true, cond_false, bne, Q85, Q86, Q87, Q88, Q89, Q90, Q91, Q92, Q93, Q94, Q95, Q96, Q97, Q98, Q110, Q111, Q116, Q117, Q118, Q119, Q120, Q121, Q122, Q123, Option.map_some, Option.map_none, Q34]
 | succ d ih =>
  intro i cs X vars hil hcs hv
  have hi : i < es.length := by omega
  have hil' : i < l.length := by omega
  have he : es[i]? = some es[i] := List.getElem?_eq_getElem hi
  obtain ⟨x, hx, hT⟩ := hes.get he
  have hxl : x ∈ l := List.mem_of_getElem? hx
  obtain ⟨cd, g1, g2⟩ := (hg x hxl).clause hT
  generalize es[i] = e at hT he g1
  obtain ⟨f1, f2, f3⟩ := cl_facts hT
  have csn := cl_snap hT
  have q1 := fun h : List AO => hs.ia he h
  have hlt := lt_t hi
  have hw := wrap_succ hi (small_maxM hm)
  have hcl : cs.length = i := by have := hcs.length; simp at this; omega
  have z6 := six_zero
  have hrow : ∀ G : List AO, (.row 52 4 0 (cs ++ List.replicate (d + 1) zc) 0 :: G : List AO)[0]? = some (.row 52 4 0 (cs ++ List.replicate (d + 1) zc) 0) := fun _ => rfl
  have ia : ∀ G : List AO, iaV (.row 52 4 0 (cs ++ List.replicate (d + 1) zc) 0 :: G) 4 (.own 4 0 0 0 es.length) (some i) = some (.ep 4 0 0 i 0) := fun G => row_ia (hrow G) (by simp; omega) hi
  have hz : (cs ++ List.replicate (d + 1) zc)[i]? = some zc := by
   rw [List.getElem?_append_right (by omega)]
   simp [List.getElem?_replicate]; omega
  have hset : (cs ++ List.replicate (d + 1) zc).set i cd = (cs ++ [cd]) ++ List.replicate d zc := by
   rw [List.set_append_right _ _ (by omega), show i - cs.length = 0 from by omega, List.replicate_succ, List.set_cons_zero, List.append_assoc]
   rfl
  have st4 : ∀ G : List AO, Q113 (.row 52 4 0 (cs ++ List.replicate (d + 1) zc) 0 :: G) 4 (.ep 4 0 0 i 0) cd = some (.row 52 4 0 ((cs ++ [cd]) ++ List.replicate d zc) 0 :: G) := by
   intro G
   rw [row_st (hrow G) hz zc_el (cd_elm g2), hset]
   rfl
  have st : exec (callW F) K c32_7 (V32 c es.length i .junk .junk .junk) (.row 52 4 0 (cs ++ List.replicate (d + 1) zc) 0 :: X) = some (.normal, V32 c es.length ((i + 1 : Nat) : Int) (.v (.int .i64 i)) (.ptr (.row 52 4 0 (cs ++ List.replicate (d + 1) zc) 0 :: X : List AO).length 0) (.v (.bool true)), .row 52 4 0 ((cs ++ [cd]) ++ List.replicate d zc) 0 :: (X ++ [.box 46 e.cells])) := by
   have f2' := f2 (.row 52 4 0 (cs ++ List.replicate (d + 1) zc) 0 :: X)
   have f3' := f3 (.row 52 4 0 (cs ++ List.replicate (d + 1) zc) 0 :: X)
   have ia' := ia (X ++ [.box 46 e.cells])
   have st4' := st4 (X ++ [.box 46 e.cells])
   have bx6 : bx (.row 52 4 0 (cs ++ List.replicate (d + 1) zc) 0 :: X) 46 (some zero6) = some (.ptr (.row 52 4 0 (cs ++ List.replicate (d + 1) zc) 0 :: X : List AO).length 0, (.row 52 4 0 (cs ++ List.replicate (d + 1) zc) 0 :: X) ++ [.box 46 zero6]) := rfl
   rw [← List.cons_append] at ia' st4'
   generalize (.row 52 4 0 (cs ++ List.replicate (d + 1) zc) 0 :: X : List AO) = G at *
   simp only [V32, c32_7, c32_3, c32_4, c32_5, c32_6, hlt, hw, q1, f1, z6, bx6, f2', f3', csn, g1, ia', st4', Q0, Q1, Q2, Q3, Q4, Q5, Q6, Q7, Q8, Q9, Q10, Q11, Q12, Q13, Q14, Q15, Q16, Q17, Q18, Q19, Q20, Q21, Q22, Q23, Q24, Q25, Q26, Q27, Q28, Q29, Q30, Q31, Q32, Q33, Q35, Q36, Q37, Q38, Q39, Q40, Q41, Q42, Q43, Q44, Q45, Q46, Q47, Q48, Q49, Q50, Q51, Q52, Q53, Q54, Q55, Q56, Q57, Q58, Q59, Q60, Q61, Q62, Q63, Q64, Q65, Q66, Q67, Q68, Q69, Q70, Q71, Q72, Q73, Q99, Q100, Q101, Q102, Q103, Q74, Q75, Q77, Q78, Q79, Q80, Q81, Q82, Q83, Q84, clr, List.length_nil, List.length_cons, List.getElem?_cons_zero, List.getElem?_cons_succ, Nat.reduceAdd, Nat.zero_add, Nat.add_zero, Nat.reduceLeDiff, Nat.reduceSub, ↓reduceIte, List.drop_succ_cons, List.drop_zero, List.take_succ_cons, List.take_zero, Bool.false_eq_true, List.nil_append, List.cons_append, Bool.not_true, Bool.not_false, cond_true, cond_false, bne, Q85, Q86, Q87, Q88, Q89, Q90, Q91, Q92, Q93, Q94, Q95, Q96, Q97, Q98, Q110, Q111, Q116, Q117, Q118, Q119, Q120, Q121, Q122, Q123, Option.map_some, Option.map_none]
  rw [loop_normal (by rw [hv]; exact st)]
  refine ih (i + 1) (cs ++ [cd]) _ _ (by omega) ?_ rfl
  rw [List.take_add_one, hx]
  exact AllR.app hcs (.one g2)
theorem prog_ok {c : AV} {l : List Cl} (hc : IsS 6 IsCl c l) (hg : ∀ x ∈ l, Gd x) (hl : l.length ≤ 100) : ∃ r cs, callW F 32 [c] [] = some (r, []) ∧ Sl 4 r cs ∧ AllR (fun a x => IsCd a (cdT x)) cs l := by
 obtain ⟨es, hs, hes, hm⟩ := hc
 have hll := hes.length
 obtain ⟨cs, X, k1, k2⟩ := prog_loop (K := es.length + 1) hs hes hg (by omega) es.length 0 [] [] [c, .v (.slice none 0 0), .own 4 0 0 0 es.length, .v undef, .v undef, c, .v (.int .i64 es.length), .v (.int .i64 0), .v undef] (by omega) .nil rfl
 have hcl := k2.length
 refine ⟨.slc 4 false false cs, cs, callW_pure (c := c32) rfl rfl (es.length + 1) ?_, .slc _ _ _, k2⟩
 have mk := mkS_own (rt := 52) (sz := 4) (H := []) (l := []) (B := 0) rfl (bytes := 56) (zero := [.string ⟨#[]⟩, .int .i64 0, .int .i64 0, .slice none 0 0]) (n := es.length) (by omega) (by omega)
 have hze : zeroEl [.string ⟨#[]⟩, .int .i64 0, .int .i64 0, .slice none 0 0] = zc := rfl
 simp only [hze, List.nil_append, List.length_nil, Nat.add_zero] at mk
 have q1 := fun H : List AO => hs.len H
 have fz : lvf (.row 52 4 0 cs 0 :: X) (.own 4 0 0 0 es.length) = some (.slc 4 false false cs, []) := by
  rw [lvf_own (rt := 52) (k := 0) (l := cs) rfl (by omega), List.take_of_length_le (by omega)]
 rw [show c32.body = (.seq (.region [] [] c32_0) (.seq (.region [] [] c32_1) (.seq (.seq (.region [] [] c32_2) (.block 0 (.loop K32 [] c32_7))) (.seq (.region [] [] c32_8) .ret)))) from rfl]
 simp only [List.nil_append, V32] at k1
 generalize c32_7 = bb at k1 ⊢
 simp only [c32, start, List.replicate, c32_0, c32_1, c32_2, c32_8, q1, mk, e_mkslice, k1, fz, List.nil_append, Q0, Q1, Q2, Q3, Q4, Q5, Q6, Q7, Q8, Q9, Q10, Q11, Q12, Q13, Q14, Q15, Q16, Q17, Q18, Q19, Q20, Q21, Q22, Q23, Q24, Q25, Q26, Q27, Q28, Q29, Q30, Q31, Q32, Q33, Q35, Q36, Q37, Q38, Q39, Q40, Q41, Q42, Q43, Q44, Q45, Q46, Q47, Q48, Q49, Q50, Q51, Q52, Q53, Q54, Q55, Q56, Q57, Q58, Q59, Q60, Q61, Q62, Q63, Q64, Q65, Q66, Q67, Q68, Q69, Q70, Q71, Q72, Q73, Q99, Q100, Q101, Q102, Q103, Q74, Q75, Q77, Q78, Q79, Q80, Q81, Q82, Q83, Q84, clr, List.length_nil, List.length_cons, List.getElem?_cons_zero, List.getElem?_cons_succ, Nat.reduceAdd, Nat.zero_add, Nat.add_zero, Nat.reduceLeDiff, Nat.reduceSub, ↓reduceIte, List.drop_succ_cons, List.drop_zero, List.take_succ_cons, List.take_zero, Bool.false_eq_true, List.nil_append, List.cons_append, Bool.not_true, Bool.not_false, cond_true, cond_false, bne, Q85, Q86, Q87, Q88, Q89, Q90, Q91, Q92, Q93, Q94, Q95, Q96, Q97, Q98, Q110, Q111, Q116, Q117, Q118, Q119, Q120, Q121, Q122, Q123, Option.map_some, Option.map_none]
def K33 : List Bool := [false, false, true, false, true, true, true, false]
def V33 (q c : AV) (n : Nat) (i : Int) (x3 x7 : AV) : List AV := [.junk, .junk, q, x3, c, .v (.int .i64 n), .v (.int .i64 i), x7]
theorem prog2_loop {K : Nat} {c : AV} {es : List AV} {l : List Cl} (hs : Sl 6 c es) (hes : AllR IsCl es l) (hg : ∀ x ∈ l, Gd x) (hm : es.length ≤ 900000) :
  ∀ (d i : Nat) (q : AV) (cs : List AV) (H : List AO) (vars : List AV), i + d = es.length → Acc 52 4 H q cs → AllR (fun a x => IsCd a (cdT x)) cs (l.take i) → clr K33 vars = V33 q c es.length i .junk .junk →
   ∃ q' cs' H', loopN (exec (callW F) K c33_7) K33 (d + 1) vars H = some (.exit 0, V33 q' c es.length es.length .junk (.v (.bool false)), H') ∧ Acc 52 4 H' q' cs' ∧ AllR (fun a x => IsCd a (cdT x)) cs' l := by
 have hll := hes.length
 intro d
 induction d with
 | zero =>
  intro i q cs H vars hil hq hcs hv
  have hil : i = es.length := by omega
  subst hil
  have hlt := lt_f (n := es.length)
  rw [hll, List.take_length] at hcs
  refine ⟨q, cs, H, ?_, hq, hcs⟩
  refine loop_exit ?_
  rw [hv]
  simp only [V33, c33_7, c33_3, hlt, Q0, Q1, Q2, Q3, Q4, Q5, Q6, Q7, Q8, Q9, Q10, Q11, Q12, Q13, Q14, Q15, Q16, Q17, Q18, Q19, Q20, Q21, Q22, Q23, Q24, Q25, Q26, Q27, Q28, Q29, Q30, Q31, Q32, Q33, Q35, Q36, Q37, Q38, Q39, Q40, Q41, Q42, Q43, Q44, Q45, Q46, Q47, Q48, Q49, Q50, Q51, Q52, Q53, Q54, Q55, Q56, Q57, Q58, Q59, Q60, Q61, Q62, Q63, Q64, Q65, Q66, Q67, Q68, Q69, Q70, Q71, Q72, Q73, Q99, Q100, Q101, Q102, Q103, Q74, Q75, Q77, Q78, Q79, Q80, Q81, Q82, Q83, Q84, clr, List.length_nil, List.length_cons, List.getElem?_cons_zero, List.getElem?_cons_succ, Nat.reduceAdd, Nat.zero_add, Nat.add_zero, Nat.reduceLeDiff, Nat.reduceSub, ↓reduceIte, List.drop_succ_cons, List.drop_zero, List.take_succ_cons, List.take_zero, Bool.false_eq_true, List.nil_append, List.cons_append, Bool.not_true, Bool.not_false, cond_true, cond_false, bne, Q85, Q86, Q87, Q88, Q89, Q90, Q91, Q92, Q93, Q94, Q95, Q96, Q97, Q98, Q110, Q111, Q116, Q117, Q118, Q119, Q120, Q121, Q122, Q123, Option.map_some, Option.map_none, Q34]
 | succ d ih =>
  intro i q cs H vars hil hq hcs hv
  have hi : i < es.length := by omega
  have hil' : i < l.length := by omega
  have he : es[i]? = some es[i] := List.getElem?_eq_getElem hi
  obtain ⟨x, hx, hT⟩ := hes.get he
  have hxl : x ∈ l := List.mem_of_getElem? hx
  obtain ⟨cd, g1, g2⟩ := (hg x hxl).clause2 hT
  generalize es[i] = e at hT he g1
  obtain ⟨f1, f2, f3⟩ := cl_facts hT
  have csn := cl_snap hT
  have q1 := fun h : List AO => hs.ia he h
  have hlt := lt_t hi
  have hw := wrap_succ hi (small_maxM hm)
  have hcl : cs.length = i := by have := hcs.length; simp at this; omega
  have z6 := six_zero
  have f2' := f2 H
  have f3' := f3 H
  have bx6 : bx H 46 (some zero6) = some (.ptr H.length 0, H ++ [.box 46 zero6]) := rfl
  have b4 : ∀ G : List AO, bs1 G 4 (some cd) = some (.slc 4 true true [cd], G) := fun G => bs1_some (cd_elm g2).cl (cd_elm g2).len
  have dsn := (cd_elm g2).snap
  obtain ⟨q', H', a1, a2, _⟩ := (hq.app (.box 46 e.cells)).add (bytes := 56) (x := .slc 4 true true [cd]) (ys := [cd]) rfl (fits_small (by simp; omega) (by omega))
  have st : exec (callW F) K c33_7 (V33 q c es.length i .junk .junk) H = some (.normal, V33 q' c es.length ((i + 1 : Nat) : Int) (.ptr H.length 0) (.v (.bool true)), H') := by
   simp only [V33, c33_7, c33_3, c33_4, c33_5, c33_6, hlt, hw, q1, f1, z6, bx6, f2', f3', csn, g1, dsn, b4, Q104, e_append, a1, Q0, Q1, Q2, Q3, Q4, Q5, Q6, Q7, Q8, Q9, Q10, Q11, Q12, Q13, Q14, Q15, Q16, Q17, Q18, Q19, Q20, Q21, Q22, Q23, Q24, Q25, Q26, Q27, Q28, Q29, Q30, Q31, Q32, Q33, Q35, Q36, Q37, Q38, Q39, Q40, Q41, Q42, Q43, Q44, Q45, Q46, Q47, Q48, Q49, Q50, Q51, Q52, Q53, Q54, Q55, Q56, Q57, Q58, Q59, Q60, Q61, Q62, Q63, Q64, Q65, Q66, Q67, Q68, Q69, Q70, Q71, Q72, Q73, Q99, Q100, Q101, Q102, Q103, Q74, Q75, Q77, Q78, Q79, Q80, Q81, Q82, Q83, Q84, clr, List.length_nil, List.length_cons, List.getElem?_cons_zero, List.getElem?_cons_succ, Nat.reduceAdd, Nat.zero_add, Nat.add_zero, Nat.reduceLeDiff, Nat.reduceSub, ↓reduceIte, List.drop_succ_cons, List.drop_zero, List.take_succ_cons, List.take_zero, Bool.false_eq_true, List.nil_append, List.cons_append, Bool.not_true, Bool.not_false, cond_true, cond_false, bne, Q85, Q86, Q87, Q88, Q89, Q90, Q91, Q92, Q93, Q94, Q95, Q96, Q97, Q98, Q110, Q111, Q116, Q117, Q118, Q119, Q120, Q121, Q122, Q123, Option.map_some, Option.map_none]
  rw [loop_normal (by rw [hv]; exact st)]
  refine ih (i + 1) q' (cs ++ [cd]) H' _ (by omega) a2 ?_ rfl
  rw [List.take_add_one, hx]
  exact AllR.app hcs (.one g2)
theorem prog2_ok {c : AV} {l : List Cl} (hc : IsS 6 IsCl c l) (hg : ∀ x ∈ l, Gd x) (hl : l.length ≤ 100) : ∃ r cs, callW F 33 [c] [] = some (r, []) ∧ Sl 4 r cs ∧ AllR (fun a x => IsCd a (cdT x)) cs l := by
 obtain ⟨es, hs, hes, hm⟩ := hc
 have hll := hes.length
 obtain ⟨q, cs, H, k1, k2, k3⟩ := prog2_loop (K := es.length + 1) hs hes hg (by omega) es.length 0 (.v (.slice none 0 0)) [] [] [c, .v (.slice none 0 0), .v (.slice none 0 0), .v undef, c, .v (.int .i64 es.length), .v (.int .i64 0), .v undef] (by omega) .nil .nil rfl
 obtain ⟨r, r1, r2⟩ := k2.lvf
 refine ⟨r, cs, callW_pure (c := c33) rfl rfl (es.length + 1) ?_, r2, k3⟩
 have q1 := fun H : List AO => hs.len H
 rw [show c33.body = (.seq (.region [] [] c33_0) (.seq (.region [] [] c33_1) (.seq (.seq (.region [] [] c33_2) (.block 0 (.loop K33 [] c33_7))) (.seq (.region [] [] c33_8) .ret)))) from rfl]
 simp only [V33] at k1
 generalize c33_7 = bb at k1 ⊢
 simp only [c33, start, List.replicate, c33_0, c33_1, c33_2, c33_8, q1, k1, r1, Q0, Q1, Q2, Q3, Q4, Q5, Q6, Q7, Q8, Q9, Q10, Q11, Q12, Q13, Q14, Q15, Q16, Q17, Q18, Q19, Q20, Q21, Q22, Q23, Q24, Q25, Q26, Q27, Q28, Q29, Q30, Q31, Q32, Q33, Q35, Q36, Q37, Q38, Q39, Q40, Q41, Q42, Q43, Q44, Q45, Q46, Q47, Q48, Q49, Q50, Q51, Q52, Q53, Q54, Q55, Q56, Q57, Q58, Q59, Q60, Q61, Q62, Q63, Q64, Q65, Q66, Q67, Q68, Q69, Q70, Q71, Q72, Q73, Q99, Q100, Q101, Q102, Q103, Q74, Q75, Q77, Q78, Q79, Q80, Q81, Q82, Q83, Q84, clr, List.length_nil, List.length_cons, List.getElem?_cons_zero, List.getElem?_cons_succ, Nat.reduceAdd, Nat.zero_add, Nat.add_zero, Nat.reduceLeDiff, Nat.reduceSub, ↓reduceIte, List.drop_succ_cons, List.drop_zero, List.take_succ_cons, List.take_zero, Bool.false_eq_true, List.nil_append, List.cons_append, Bool.not_true, Bool.not_false, cond_true, cond_false, bne, Q85, Q86, Q87, Q88, Q89, Q90, Q91, Q92, Q93, Q94, Q95, Q96, Q97, Q98, Q110, Q111, Q116, Q117, Q118, Q119, Q120, Q121, Q122, Q123, Option.map_some, Option.map_none]
end Go.AE.YtinhjhkmpknbbaaDoor
end

section
namespace Go.AE.YtinhjhkmpknbbaaDoor
open Go Go.AE Go.Proofs.YtinhjhkmpknbbaaDoor

def K8a : List Bool := [true, false, true, false, false, false, false, false, true, true, true, false, false, false, false, false, false, false]
def V8a (c : AV) (n i : Int) (x3 x11 x12 : AV) : List AV := [c, .junk, .v (.bool true), x3, .junk, .junk, .junk, .junk, c, .v (.int .i64 n), .v (.int .i64 i), x11, x12, .junk, .junk, .junk, .junk, .junk]
theorem goods_loop {K : Nat} {c : AV} {es : List AV} {l : List Cl} (hs : Sl 6 c es) (hes : AllR IsCl es l) (hm : es.length ≤ 900000) :
  ∀ (d i : Nat) (H : List AO) (vars : List AV), i + d = es.length → (∀ x ∈ l.take i, Gd x) → clr K8a vars = V8a c es.length i .junk .junk .junk →
   ((∀ x ∈ l, Gd x) ∧ ∃ H', loopN (exec (callW F) K c8_10) K8a (d + 1) vars H = some (.exit 0, V8a c es.length es.length .junk (.v (.bool false)) .junk, H')) ∨
   ∃ vs' H', loopN (exec (callW F) K c8_10) K8a (d + 1) vars H = some (.ret, vs', H') ∧ getO vs' [] (.var 1) = .v (.bool true) := by
 have hll := hes.length
 intro d
 induction d with
 | zero =>
  intro i H vars hil hcs hv
  have hil : i = es.length := by omega
  subst hil
  have hlt := lt_f (n := es.length)
  rw [hll, List.take_length] at hcs
  refine .inl ⟨hcs, H, ?_⟩
  refine loop_exit ?_
  rw [hv]
  simp only [V8a, c8_10, c8_5, hlt, Q0, Q1, Q2, Q3, Q4, Q5, Q6, Q7, Q8, Q9, Q10, Q11, Q12, Q13, Q14, Q15, Q16, Q17, Q18, Q19, Q20, Q21, Q22, Q23, Q24, Q25, Q26, Q27, Q28, Q29, Q30, Q31, Q32, Q33, Q35, Q36, Q37, Q38, Q39, Q40, Q41, Q42, Q43, Q44, Q45, Q46, Q47, Q48, Q49, Q50, Q51, Q52, Q53, Q54, Q55, Q56, Q57, Q58, Q59, Q60, Q61, Q62, Q63, Q64, Q65, Q66, Q67, Q68, Q69, Q70, Q71, Q72, Q73, Q99, Q100, Q101, Q102, Q103, Q74, Q75, Q77, Q78, Q79, Q80, Q81, Q82, Q83, Q84, clr, List.length_nil, List.length_cons, List.getElem?_cons_zero, List.getElem?_cons_succ, Nat.reduceAdd, Nat.zero_add, Nat.add_zero, Nat.reduceLeDiff, Nat.reduceSub, ↓reduceIte, List.drop_succ_cons, List.drop_zero, List.take_succ_cons, List.take_zero, Bool.false_eq_true, List.nil_append, List.cons_append, Bool.not_true, Bool.not_false, cond_true, cond_false, bne, Q85, Q86, Q87, Q88, Q89, Q90, Q91, Q92, Q93, Q94, Q95, Q96, Q97, Q98, Q110, Q111, Q116, Q117, Q118, Q119, Q120, Q121, Q122, Q123, Option.map_some, Option.map_none, Q34]
 | succ d ih =>
  intro i H vars hil hcs hv
  have hi : i < es.length := by omega
  have he : es[i]? = some es[i] := List.getElem?_eq_getElem hi
  obtain ⟨x, hx, hT⟩ := hes.get he
  generalize es[i] = e at hT he
  obtain ⟨f1, f2, f3⟩ := cl_facts hT
  have csn := cl_snap hT
  have q1 := fun h : List AO => hs.ia he h
  have hlt := lt_t hi
  have hw := wrap_succ hi (small_maxM hm)
  have z6 := six_zero
  have f2' := f2 H
  have f3' := f3 H
  have bx6 : bx H 46 (some zero6) = some (.ptr H.length 0, H ++ [.box 46 zero6]) := rfl
  obtain ⟨g, g1, g2⟩ := good_ok hT
  cases g with
  | true =>
   have st : exec (callW F) K c8_10 (V8a c es.length i .junk .junk .junk) H = some (.normal, V8a c es.length ((i + 1 : Nat) : Int) (.ptr H.length 0) (.v (.bool true)) (.v (.bool false)), H ++ [.box 46 e.cells]) := by
    simp only [V8a, c8_10, c8_5, c8_6, c8_7, c8_9, hlt, hw, q1, f1, z6, bx6, f2', f3', csn, g1, Bool.not_true, Q0, Q1, Q2, Q3, Q4, Q5, Q6, Q7, Q8, Q9, Q10, Q11, Q12, Q13, Q14, Q15, Q16, Q17, Q18, Q19, Q20, Q21, Q22, Q23, Q24, Q25, Q26, Q27, Q28, Q29, Q30, Q31, Q32, Q33, Q35, Q36, Q37, Q38, Q39, Q40, Q41, Q42, Q43, Q44, Q45, Q46, Q47, Q48, Q49, Q50, Q51, Q52, Q53, Q54, Q55, Q56, Q57, Q58, Q59, Q60, Q61, Q62, Q63, Q64, Q65, Q66, Q67, Q68, Q69, Q70, Q71, Q72, Q73, Q99, Q100, Q101, Q102, Q103, Q74, Q75, Q77, Q78, Q79, Q80, Q81, Q82, Q83, Q84, clr, List.length_nil, List.length_cons, List.getElem?_cons_zero, List.getElem?_cons_succ, Nat.reduceAdd, Nat.zero_add, Nat.add_zero, Nat.reduceLeDiff, Nat.reduceSub, ↓reduceIte, List.drop_succ_cons, List.drop_zero, List.take_succ_cons, List.take_zero, Bool.false_eq_true, List.nil_append, List.cons_append, Bool.not_true, Bool.not_false, cond_true, cond_false, bne, Q85, Q86, Q87, Q88, Q89, Q90, Q91, Q92, Q93, Q94, Q95, Q96, Q97, Q98, Q110, Q111, Q116, Q117, Q118, Q119, Q120, Q121, Q122, Q123, Option.map_some, Option.map_none]
   rw [loop_normal (by rw [hv]; exact st)]
   refine ih (i + 1) _ _ (by omega) ?_ rfl
   rw [List.take_add_one, hx]
   intro y hy
   rcases List.mem_append.1 hy with h | h
   ·exact hcs y h
   ·simp at h; rw [h]; exact g2 rfl
  | false =>
   refine .inr ⟨[c, .v (.bool true), .v (.bool true), .ptr H.length 0, .junk, .junk, .junk, .junk, c, .v (.int .i64 es.length), .v (.int .i64 i), .v (.bool true), .v (.bool true), .junk, .junk, .junk, .junk, .junk], H ++ [.box 46 e.cells], ?_, rfl⟩
   have st : exec (callW F) K c8_10 (V8a c es.length i .junk .junk .junk) H = some (.ret, [c, .v (.bool true), .v (.bool true), .ptr H.length 0, .junk, .junk, .junk, .junk, c, .v (.int .i64 es.length), .v (.int .i64 i), .v (.bool true), .v (.bool true), .junk, .junk, .junk, .junk, .junk], H ++ [.box 46 e.cells]) := by
    simp only [V8a, c8_10, c8_5, c8_6, c8_7, c8_8, hlt, q1, f1, z6, bx6, f2', f3', csn, g1, Bool.not_false, Q0, Q1, Q2, Q3, Q4, Q5, Q6, Q7, Q8, Q9, Q10, Q11, Q12, Q13, Q14, Q15, Q16, Q17, Q18, Q19, Q20, Q21, Q22, Q23, Q24, Q25, Q26, Q27, Q28, Q29, Q30, Q31, Q32, Q33, Q35, Q36, Q37, Q38, Q39, Q40, Q41, Q42, Q43, Q44, Q45, Q46, Q47, Q48, Q49, Q50, Q51, Q52, Q53, Q54, Q55, Q56, Q57, Q58, Q59, Q60, Q61, Q62, Q63, Q64, Q65, Q66, Q67, Q68, Q69, Q70, Q71, Q72, Q73, Q99, Q100, Q101, Q102, Q103, Q74, Q75, Q77, Q78, Q79, Q80, Q81, Q82, Q83, Q84, clr, List.length_nil, List.length_cons, List.getElem?_cons_zero, List.getElem?_cons_succ, Nat.reduceAdd, Nat.zero_add, Nat.add_zero, Nat.reduceLeDiff, Nat.reduceSub, ↓reduceIte, List.drop_succ_cons, List.drop_zero, List.take_succ_cons, List.take_zero, Bool.false_eq_true, List.nil_append, List.cons_append, Bool.not_true, Bool.not_false, cond_true, cond_false, bne, Q85, Q86, Q87, Q88, Q89, Q90, Q91, Q92, Q93, Q94, Q95, Q96, Q97, Q98, Q110, Q111, Q116, Q117, Q118, Q119, Q120, Q121, Q122, Q123, Option.map_some, Option.map_none]
   simp only [loopN, hv, st]
def K8b : List Bool := [false, false, true, false, true, true, false, false, false, false, false, false, false, false, true, true, false, false]
def V8b (a b : AV) (n i : Int) (x6 x16 x17 : AV) : List AV := [.junk, .junk, .v (.bool true), .junk, a, b, x6, .junk, .junk, .junk, .junk, .junk, .junk, .junk, .v (.int .i64 n), .v (.int .i64 i), x16, x17]
theorem same8_loop {K : Nat} {a b : AV} {cs ds : List AV} {l : List Cl} (ha : Sl 4 a cs) (hb : Sl 4 b ds) (hcs : AllR (fun a x => IsCd a (cdT x)) cs l) (hds : AllR (fun a x => IsCd a (cdT x)) ds l) (hm : cs.length ≤ 900000) (H : List AO) :
  ∀ (d i : Nat) (vars : List AV), i + d = cs.length → clr K8b vars = V8b a b cs.length i .junk .junk .junk →
   loopN (exec (callW F) K c8_21) K8b (d + 1) vars H = some (.exit 2, V8b a b cs.length cs.length .junk (.v (.bool false)) .junk, H) := by
 have hll := hcs.length
 have hll2 := hds.length
 intro d
 induction d with
 | zero =>
  intro i vars hil hv
  have hil : i = cs.length := by omega
  subst hil
  have hlt := lt_f (n := cs.length)
  refine loop_exit ?_
  rw [hv]
  simp only [V8b, c8_21, c8_16, hlt, Q0, Q1, Q2, Q3, Q4, Q5, Q6, Q7, Q8, Q9, Q10, Q11, Q12, Q13, Q14, Q15, Q16, Q17, Q18, Q19, Q20, Q21, Q22, Q23, Q24, Q25, Q26, Q27, Q28, Q29, Q30, Q31, Q32, Q33, Q35, Q36, Q37, Q38, Q39, Q40, Q41, Q42, Q43, Q44, Q45, Q46, Q47, Q48, Q49, Q50, Q51, Q52, Q53, Q54, Q55, Q56, Q57, Q58, Q59, Q60, Q61, Q62, Q63, Q64, Q65, Q66, Q67, Q68, Q69, Q70, Q71, Q72, Q73, Q99, Q100, Q101, Q102, Q103, Q74, Q75, Q77, Q78, Q79, Q80, Q81, Q82, Q83, Q84, clr, List.length_nil, List.length_cons, List.getElem?_cons_zero, List.getElem?_cons_succ, Nat.reduceAdd, Nat.zero_add, Nat.add_zero, Nat.reduceLeDiff, Nat.reduceSub, ↓reduceIte, List.drop_succ_cons, List.drop_zero, List.take_succ_cons, List.take_zero, Bool.false_eq_true, List.nil_append, List.cons_append, Bool.not_true, Bool.not_false, cond_true, cond_false, bne, Q85, Q86, Q87, Q88, Q89, Q90, Q91, Q92, Q93, Q94, Q95, Q96, Q97, Q98, Q110, Q111, Q116, Q117, Q118, Q119, Q120, Q121, Q122, Q123, Option.map_some, Option.map_none, Q34]
 | succ d ih =>
  intro i vars hil hv
  have hi : i < cs.length := by omega
  have hi2 : i < ds.length := by omega
  have he : cs[i]? = some cs[i] := List.getElem?_eq_getElem hi
  have he2 : ds[i]? = some ds[i] := List.getElem?_eq_getElem hi2
  obtain ⟨x, hx, hT⟩ := hcs.get he
  obtain ⟨y, hy, hT2⟩ := hds.get he2
  have hxy : x = y := Option.some.inj (hx.symm.trans hy)
  subst hxy
  generalize cs[i] = e at hT he
  generalize ds[i] = e2 at hT2 he2
  have q1 := fun h : List AO => ha.ia he h
  have q2 := fun h : List AO => hb.ia he2 h
  have f1 : ∀ H : List AO, Q76 H true 4 (.ip e.cells) = some e := fun H => by cases hT; rfl
  have f2 : ∀ H : List AO, Q76 H true 4 (.ip e2.cells) = some e2 := fun H => by cases hT2; rfl
  have s1 := cd_snap hT
  have s2 := cd_snap hT2
  have hsm := csame_ok hT hT2
  rw [eqCd_iff.2 rfl] at hsm
  have hlt := lt_t hi
  have hw := wrap_succ hi (small_maxM hm)
  have st : exec (callW F) K c8_21 (V8b a b cs.length i .junk .junk .junk) H = some (.normal, V8b a b cs.length ((i + 1 : Nat) : Int) (.v (.int .i64 i)) (.v (.bool true)) (.v (.bool false)), H) := by
   simp only [V8b, c8_21, c8_16, c8_17, c8_18, c8_20, hlt, hw, q1, q2, f1, f2, s1, s2, hsm, Bool.not_true, Q0, Q1, Q2, Q3, Q4, Q5, Q6, Q7, Q8, Q9, Q10, Q11, Q12, Q13, Q14, Q15, Q16, Q17, Q18, Q19, Q20, Q21, Q22, Q23, Q24, Q25, Q26, Q27, Q28, Q29, Q30, Q31, Q32, Q33, Q35, Q36, Q37, Q38, Q39, Q40, Q41, Q42, Q43, Q44, Q45, Q46, Q47, Q48, Q49, Q50, Q51, Q52, Q53, Q54, Q55, Q56, Q57, Q58, Q59, Q60, Q61, Q62, Q63, Q64, Q65, Q66, Q67, Q68, Q69, Q70, Q71, Q72, Q73, Q99, Q100, Q101, Q102, Q103, Q74, Q75, Q77, Q78, Q79, Q80, Q81, Q82, Q83, Q84, clr, List.length_nil, List.length_cons, List.getElem?_cons_zero, List.getElem?_cons_succ, Nat.reduceAdd, Nat.zero_add, Nat.add_zero, Nat.reduceLeDiff, Nat.reduceSub, ↓reduceIte, List.drop_succ_cons, List.drop_zero, List.take_succ_cons, List.take_zero, Bool.false_eq_true, List.nil_append, List.cons_append, Bool.not_true, Bool.not_false, cond_true, cond_false, bne, Q85, Q86, Q87, Q88, Q89, Q90, Q91, Q92, Q93, Q94, Q95, Q96, Q97, Q98, Q110, Q111, Q116, Q117, Q118, Q119, Q120, Q121, Q122, Q123, Option.map_some, Option.map_none]
  rw [loop_normal (by rw [hv]; exact st)]
  exact ih (i + 1) _ (by omega) rfl
theorem programsLaw_ok {c : AV} {l : List Cl} (hc : IsS 6 IsCl c l) : callW F 8 [c] [] = some (.v (.bool true), []) := by
 have hlive := live_ok
 have hc0 := hc
 obtain ⟨es, hs, hes, hm⟩ := hc
 have hll := hes.length
 have q1 := fun H : List AO => hs.len H
 have sc : ∀ H : List AO, c.snap1 H = some c := fun H => by cases hs <;> rfl
 cases hb : decide ((es.length : Int) > 100) with
 | true =>
  refine callW_pure (c := c8) rfl rfl 0 ?_
  simp only [c8, start, List.replicate, c8_0, c8_1, c8_2, c8_3, hlive, q1, hb, Q0, Q1, Q2, Q3, Q4, Q5, Q6, Q7, Q8, Q9, Q10, Q11, Q12, Q13, Q14, Q15, Q16, Q17, Q18, Q19, Q20, Q21, Q22, Q23, Q24, Q25, Q26, Q27, Q28, Q29, Q30, Q31, Q32, Q33, Q35, Q36, Q37, Q38, Q39, Q40, Q41, Q42, Q43, Q44, Q45, Q46, Q47, Q48, Q49, Q50, Q51, Q52, Q53, Q54, Q55, Q56, Q57, Q58, Q59, Q60, Q61, Q62, Q63, Q64, Q65, Q66, Q67, Q68, Q69, Q70, Q71, Q72, Q73, Q99, Q100, Q101, Q102, Q103, Q74, Q75, Q77, Q78, Q79, Q80, Q81, Q82, Q83, Q84, clr, List.length_nil, List.length_cons, List.getElem?_cons_zero, List.getElem?_cons_succ, Nat.reduceAdd, Nat.zero_add, Nat.add_zero, Nat.reduceLeDiff, Nat.reduceSub, ↓reduceIte, List.drop_succ_cons, List.drop_zero, List.take_succ_cons, List.take_zero, Bool.false_eq_true, List.nil_append, List.cons_append, Bool.not_true, Bool.not_false, cond_true, cond_false, bne, Q85, Q86, Q87, Q88, Q89, Q90, Q91, Q92, Q93, Q94, Q95, Q96, Q97, Q98, Q110, Q111, Q116, Q117, Q118, Q119, Q120, Q121, Q122, Q123, Option.map_some, Option.map_none]
 | false =>
 have hl : es.length ≤ 100 := by have := of_decide_eq_false hb; omega
 have hbody : c8.body = (.seq (.region [] [] c8_0) (.seq (.region [] [] c8_1) (.seq (.seq (.region [] [] c8_2) (.cond (.var 7) (.seq (.region [] [] c8_3) .ret) .skip)) (.seq (.seq (.region [] [] c8_4) (.block 0 (.loop K8a [] c8_10))) (.seq (.region [] [] c8_11) (.seq (.region [] [] c8_12) (.seq (.seq (.region [] [] c8_13) (.cond (.var 13) (.seq (.region [] [] c8_14) .ret) .skip)) (.seq (.seq (.region [] [] c8_15) (.block 2 (.loop K8b [] c8_21))) (.seq (.region [] [] c8_22) .ret))))))))) := rfl
 rcases goods_loop (K := es.length + 1) hs hes (by omega) es.length 0 [] [c, .v (.bool false), .v (.bool true), .v undef, .v undef, .v undef, .v undef, .v (.bool false), c, .v (.int .i64 es.length), .v (.int .i64 0), .v undef, .v undef, .v undef, .v undef, .v undef, .v undef, .v undef] (by omega) (by simp) rfl with ⟨hg, H, k1⟩ | ⟨vs, H, k1, k2⟩
 ·obtain ⟨a, cs, a1, a2, a3⟩ := prog_ok hc0 hg (by omega)
  obtain ⟨b, ds, b1, b2, b3⟩ := prog2_ok hc0 hg (by omega)
  have l1 := a3.length
  have l2 := b3.length
  have k2 := same8_loop (K := es.length + 1) a2 b2 a3 b3 (by omega) H cs.length 0 [c, .junk, .v (.bool true), .junk, a, b, .junk, .junk, c, .v (.int .i64 es.length), .v (.int .i64 es.length), .v (.bool false), .junk, .v (.bool false), .v (.int .i64 cs.length), .v (.int .i64 0), .junk, .junk] (by omega) rfl
  have hcl : cs.length = es.length := by omega
  have hdl : ds.length = es.length := by omega
  have q2 := fun H : List AO => a2.len H
  have q3 := fun H : List AO => b2.len H
  rw [hcl] at q2 k2
  rw [hdl] at q3
  have e0 : ((es.length : Int) == (es.length : Int)) = true := by simp
  refine callW_pure (c := c8) rfl rfl (es.length + 1) ?_
  rw [hbody]
  simp only [V8a, V8b] at k1 k2
  generalize c8_10 = bbA at k1 ⊢
  generalize c8_21 = bbB at k2 ⊢
  simp only [c8, start, List.replicate, c8_0, c8_1, c8_2, c8_4, c8_11, c8_12, c8_13, c8_15, c8_22, hlive, q1, q2, q3, sc, hb, k1, a1, b1, e0, k2, Bool.not_true, Q0, Q1, Q2, Q3, Q4, Q5, Q6, Q7, Q8, Q9, Q10, Q11, Q12, Q13, Q14, Q15, Q16, Q17, Q18, Q19, Q20, Q21, Q22, Q23, Q24, Q25, Q26, Q27, Q28, Q29, Q30, Q31, Q32, Q33, Q35, Q36, Q37, Q38, Q39, Q40, Q41, Q42, Q43, Q44, Q45, Q46, Q47, Q48, Q49, Q50, Q51, Q52, Q53, Q54, Q55, Q56, Q57, Q58, Q59, Q60, Q61, Q62, Q63, Q64, Q65, Q66, Q67, Q68, Q69, Q70, Q71, Q72, Q73, Q99, Q100, Q101, Q102, Q103, Q74, Q75, Q77, Q78, Q79, Q80, Q81, Q82, Q83, Q84, clr, List.length_nil, List.length_cons, List.getElem?_cons_zero, List.getElem?_cons_succ, Nat.reduceAdd, Nat.zero_add, Nat.add_zero, Nat.reduceLeDiff, Nat.reduceSub, ↓reduceIte, List.drop_succ_cons, List.drop_zero, List.take_succ_cons, List.take_zero, Bool.false_eq_true, List.nil_append, List.cons_append, Bool.not_true, Bool.not_false, cond_true, cond_false, bne, Q85, Q86, Q87, Q88, Q89, Q90, Q91, Q92, Q93, Q94, Q95, Q96, Q97, Q98, Q110, Q111, Q116, Q117, Q118, Q119, Q120, Q121, Q122, Q123, Option.map_some, Option.map_none]
 ·refine callW_pure (c := c8) rfl rfl (es.length + 1) ?_
  rw [hbody]
  generalize c8_10 = bbA at k1 ⊢
  generalize (CC.seq (.region [] [] c8_11) (.seq (.region [] [] c8_12) (.seq (.seq (.region [] [] c8_13) (.cond (.var 13) (.seq (.region [] [] c8_14) .ret) .skip)) (.seq (.seq (.region [] [] c8_15) (.block 2 (.loop K8b [] c8_21))) (.seq (.region [] [] c8_22) .ret))))) = rest
  simp only [c8, start, List.replicate, c8_0, c8_1, c8_2, c8_4, hlive, q1, hb, k1, Q0, Q1, Q2, Q3, Q4, Q5, Q6, Q7, Q8, Q9, Q10, Q11, Q12, Q13, Q14, Q15, Q16, Q17, Q18, Q19, Q20, Q21, Q22, Q23, Q24, Q25, Q26, Q27, Q28, Q29, Q30, Q31, Q32, Q33, Q35, Q36, Q37, Q38, Q39, Q40, Q41, Q42, Q43, Q44, Q45, Q46, Q47, Q48, Q49, Q50, Q51, Q52, Q53, Q54, Q55, Q56, Q57, Q58, Q59, Q60, Q61, Q62, Q63, Q64, Q65, Q66, Q67, Q68, Q69, Q70, Q71, Q72, Q73, Q99, Q100, Q101, Q102, Q103, Q74, Q75, Q77, Q78, Q79, Q80, Q81, Q82, Q83, Q84, clr, List.length_nil, List.length_cons, List.getElem?_cons_zero, List.getElem?_cons_succ, Nat.reduceAdd, Nat.zero_add, Nat.add_zero, Nat.reduceLeDiff, Nat.reduceSub, ↓reduceIte, List.drop_succ_cons, List.drop_zero, List.take_succ_cons, List.take_zero, Bool.false_eq_true, List.nil_append, List.cons_append, Bool.not_true, Bool.not_false, cond_true, cond_false, bne, Q85, Q86, Q87, Q88, Q89, Q90, Q91, Q92, Q93, Q94, Q95, Q96, Q97, Q98, Q110, Q111, Q116, Q117, Q118, Q119, Q120, Q121, Q122, Q123, Option.map_some, Option.map_none]
  simp only [Q85, Q87, k2, Q92]
end Go.AE.YtinhjhkmpknbbaaDoor
end

section
namespace Go.AE.YtinhjhkmpknbbaaDoor
open Go Go.AE Go.Proofs.YtinhjhkmpknbbaaDoor
theorem tmTy : TmTy T 3 9 2 24 22 := ⟨⟨_, rfl, rfl⟩, ⟨_, rfl, rfl⟩, ⟨_, rfl, rfl⟩, ⟨_, _, _, _, _, rfl, rfl, rfl, rfl, rfl, rfl, rfl, rfl⟩, ⟨_, rfl, rfl⟩⟩
theorem cls_in {a : AV} (w : WT T 60 a.cells) (e : Q77 ti60.agg a.cells = some a) : ∃ l, IsS 6 IsCl a l := by
 obtain ⟨c, l, h, hl⟩ := wt_cls (i := ti46) (j := ti60) tmTy rfl rfl rfl rfl rfl rfl rfl rfl rfl w
 exact ⟨l, one_cell e h ▸ hl⟩
end Go.AE.YtinhjhkmpknbbaaDoor
end

section
namespace Go.Proofs.YtinhjhkmpknbbaaDoor
open Go Go.AE Go.Proofs Go.ChangeShapes Go.WideShapes Go.ChangeAt Go.RowKit
open Go.ChangeMaps (open_string shut_string)

theorem own : ownKnob Tryd.prog.godebug = none := by kernel_rfl
theorem laidOut : laidOutB Tryd.prog = true := by kernel_rfl
theorem mixed : Tryd.prog.follows .mixedOrders = true := by kernel_rfl
def G : List TypeId := [2, 3, 9, 22, 24, 46, 50, 58, 60]
theorem hG : goodB T G = true := by kernel_rfl

theorem push_ok : ∀ f, T.push f = true → (∃ g, F f = some (.oracle g) ∧ ∀ args h r h', g args h = some (r, h') → ∃ X, h' = h ++ X) ∨ ∃ c, F f = some (.pkeep c) := by
 intro f h
 have h : pushes.contains f = true := h
 simp only [pushes, List.contains_cons, List.contains_nil, Bool.or_false, beq_iff_eq] at h
 subst h
 exact .inr ⟨_, rfl⟩
theorem law_calls {f : FuncId} {args : List AV} {vals : Array Value} {W : World} (hK : K W.heap.size W) (ha : ArgsRep (AllCells W) W [] args vals) {n : Nat} (he : callN F n f args [] = some (.v (.bool true), [])) :
  Calls Tryd.prog f vals W fun e W' => e = .returned (.bool true) ∧ Below W.heap.size W W' := by
 have hI : AE.Inv W.heap.size W (AllCells W) [] W [] := ⟨Below.refl _ _, Nat.le_refl _, rfl, fun id o L h => by simp at h, fun id L h => by simp at h, fun i j Li Lj h => by simp at h, fun b x h => h⟩
 refine ((callN_ok mixed hT hKs hF push_ok n W.heap.size W hK).calls f args [] _ _ he (AllCells W) [] W vals hI ha).mono fun e W' h => ?_
 obtain ⟨v, I', σ', rfl, hI', _, hr⟩ := h
 cases hr
 exact ⟨rfl, hI'.below⟩
end Go.Proofs.YtinhjhkmpknbbaaDoor
end

section
namespace Go.Proofs.YtinhjhkmpknbbaaDoor
open Go Go.AE Go.Proofs Go.RowKit Go.Lib Go.Shelf

def d32 : List Value := [0, 1, 28, 2, 29, 14, 24, 3, 30, 22, 20, 15, 25, 17, 4, 8, 31, 27, 13, 23, 21, 19, 16, 7, 26, 12, 18, 6, 11, 5, 10, 9].map fun z : Int => Value.int .u8 z
def d64 : List Value := [0, 1, 56, 2, 57, 49, 28, 3, 61, 58, 42, 50, 38, 29, 17, 4, 62, 47, 59, 36, 45, 43, 51, 22, 53, 39, 33, 30, 24, 18, 12, 5, 63, 55, 48, 27, 60, 41, 37, 16, 46, 35, 44, 21, 52, 32, 23, 11, 54, 26, 40, 15, 34, 20, 31, 10, 25, 14, 19, 9, 13, 8, 7, 6].map fun z : Int => Value.int .u8 z
def p10 : List Value := [1, 10, 100, 1000, 10000, 100000, 1000000, 10000000, 100000000, 1000000000, 10000000000, 100000000000, 1000000000000, 10000000000000, 100000000000000, 1000000000000000, 10000000000000000, 100000000000000000, 1000000000000000000, 10000000000000000000].map fun z : Int => Value.int .u64 z
noncomputable def laidWorld (os : Os) : World :=
 let w0 := World.holding Tryd.prog os ⟨#[], #[], []⟩
 let put (h : Array Obj) (g : Nat) (cs : Array Value) : Array Obj := h.modify g fun
  | .cells _ t frozen => .cells cs t frozen
  | o => o
 let h1 := put w0.heap (Tryd.lays196_ren.g 3) (Lib.firstTab.map fun z => Value.int .u8 z).toArray
 let h2 := put h1 (Tryd.lays196_ren.g 4) ((List.range 16).flatMap fun i => [Value.int .u8 (Lib.accLo i), Value.int .u8 (Lib.accHi i)]).toArray
 let h3 := put h2 3 d32.toArray
 let h4 := put h3 4 d64.toArray
 let h5 := put h4 2 p10.toArray
 { w0 with heap := h5 }
set_option maxRecDepth 1000000 in
theorem laid_met (os : Os) (args : Array Value) : laidMetH Tryd.prog Rows.codeTextsRow.laid ((laidWorld os).forCall (fun _ _ => 0) ⟨#[], args, []⟩).memory :=
 (LaidIn.of_run (l := [("math/bits.deBruijn32tab", Rows.laid_math_bits_deBruijn32tab), ("math/bits.deBruijn64tab", Rows.laid_math_bits_deBruijn64tab), ("internal/strconv.uint64pow10", Rows.laid_internal_strconv_uint64pow10), ("unicode/utf8.acceptRanges", Rows.laid_unicode_utf8_acceptRanges), ("unicode/utf8.first", Rows.laid_unicode_utf8_first)]) [0, 1, 2, 3, 4] 8 (by kernel_rfl) (by kernel_rfl) (by kernel_rfl) (by kernel_rfl)).met
def z64 : List Int := [0, 1, 56, 2, 57, 49, 28, 3, 61, 58, 42, 50, 38, 29, 17, 4, 62, 47, 59, 36, 45, 43, 51, 22, 53, 39, 33, 30, 24, 18, 12, 5, 63, 55, 48, 27, 60, 41, 37, 16, 46, 35, 44, 21, 52, 32, 23, 11, 54, 26, 40, 15, 34, 20, 31, 10, 25, 14, 19, 9, 13, 8, 7, 6]
theorem tz_of {W : World} (hL : laidMetH Tryd.prog Rows.codeTextsRow.laid W) : W.cell? ⟨4, 15, none⟩ = some (.int .u8 4) ∧ 4 < W.heap.size := by
 obtain ⟨g, t, cs, fuel, p, hg, hty, hvar, hd⟩ := (Lib.laidMet.reads (l := Rows.codeTextsRow.laid) hL (.tail _ (.head _)) : Lib.VarReads Tryd.prog W "math/bits.deBruijn64tab" Rows.laid_math_bits_deBruijn64tab)
 obtain rfl : g = 4 := Option.some.inj (hg.symm.trans (by kernel_rfl))
 obtain rfl : t = 206 := Option.some.inj (hty.symm.trans (by kernel_rfl))
 have hcs := Lib.cells_of_tab (zs := z64) Tryd.underlying206 Tryd.underlying5 (by kernel_rfl) (by kernel_rfl) hd
 have h1 := World.var?_cell hg hvar 15
 rw [← Array.getElem?_toList, hcs] at h1
 have h1 : W.cell? ⟨4, 15, none⟩ = some (.int .u8 4) := h1
 refine ⟨h1, ?_⟩
 unfold World.cell? at h1
 split at h1
 all_goals first
  | exact (Array.getElem?_eq_some_iff.1 ‹_›).1
  | cases h1
set_option maxRecDepth 1000000 in
theorem tabs_of {W : World} (hL : laidMetH Tryd.prog Rows.codeTextsRow.laid W) : Lib.Utf8Tabs (Tryd.lays196_ren.g 3) (Tryd.lays196_ren.g 4) W ∧ (W.cell? ⟨4, 15, none⟩ = some (.int .u8 4) ∧ 4 < W.heap.size) :=
 ⟨utf8Tabs_of_readsT (U8Types.of196 Tryd.lays196) ⟨by kernel_rfl, by kernel_rfl, by kernel_rfl, by kernel_rfl, by kernel_rfl, by kernel_rfl, by kernel_rfl⟩ (Lib.laidMet.reads (l := Rows.codeTextsRow.laid) hL (.tail _ (.tail _ (.tail _ (.tail _ (.head _)))))) (Lib.laidMet.reads (l := Rows.codeTextsRow.laid) hL (.tail _ (.tail _ (.tail _ (.head _))))), tz_of hL⟩
end Go.Proofs.YtinhjhkmpknbbaaDoor
end

section
namespace Go.Proofs.YtinhjhkmpknbbaaDoor
open Go Go.AE Go.Proofs Go.ChangeShapes Go.WideShapes Go.ChangeAt Go.RowKit
open Go.ChangeMaps (open_string shut_string)
namespace codePrograms
theorem args {I : Cells} {W : World} {a0 : AV} {v0 : Value} (r0 : Rep I W [] a0 v0) : ArgsRep I W [] [a0] #[v0] := by
 refine ⟨rfl, fun i a h => ?_⟩
 match i, h with
 | 0, h => cases h; exact r0
def Plain : Prop := ∀ a0 : AV, WT T 60 a0.cells → Q77 ti60.agg a0.cells = some a0 →
 ∃ n, callN F n 8 [a0] [] = some (.v (.bool true), [])

set_option maxRecDepth 100000 in
theorem lifted (plain : Plain) (os : Os) (started : os.Started) (H : Type) (enc : TypeId × Value → H) :
  ReturnsInHanded {} Tryd.checked os 8 .any (fun w args => (Rows.codeProgramsSpec.pre enc Tryd.prog Tryd.f8 [] false w args ∧ laidMetH Tryd.prog Rows.codeProgramsRow.laid w) ∧ sizedMet enc Tryd.prog Tryd.f8 (OpenSpec.ofChange Rows.codeProgramsSpec) false w args)
   (Rows.codeProgramsSpec.post enc Tryd.prog Tryd.f8 false true false false) := by
 refine returnsInHanded_of_change_and (C := Tryd.checked) (X := fun w _ => laidMetH Tryd.prog Rows.codeProgramsRow.laid w) (fun _ _ _ hh h => h.of_heap hh) own started (by kernel_rfl) Tryd.func8
  (ChangeSpec.witness_at (enc := enc) (C := Tryd.checked) (os := os) (X := fun w _ => laidMetH Tryd.prog Rows.codeProgramsRow.laid w) false (laidWorld os) #[ti60.zero] 8 rfl (by kernel_rfl) (by kernel_rfl) (by kernel_rfl) (by kernel_rfl) (by kernel_rfl) (laid_met os _)) ?_
 intro W base args' ds gs before hval0 hW _ _ hL _
 have hval : ∀ (j : Nat) t v, Tryd.f8.params[j]? = some t → args'[j]? = some v → Value.okWide Tryd.prog W .any base t v := hval0
 have hW' := hW
 obtain ⟨p, q, hA0, hV, rfl, hfz, hnd⟩ := hW
 have hA : DataW.TrodAll enc Tryd.prog W 0 (fun _ => true) true Tryd.f8.params.toList args'.toList ds p := hA0
 rw [Tryd.params8] at hA hval
 obtain ⟨v0, vs0, d0, ds0, p0, q0, hargs, rfl, rfl, h0, r0⟩ := trodAll_cons hA
 obtain ⟨rfl, rfl, rfl⟩ := trodAll_nil r0
 obtain rfl : args' = #[v0] := by cases args'; simp_all
 obtain ⟨rfl, rfl⟩ := trodVars_none hV
 obtain ⟨a0, w0, e0, x0⟩ := trod_arg hT hG (t := 60) (i := ti60) (by decide) rfl (hval 0 60 v0 rfl rfl) h0
 have l0 : ∀ x ∈ p0, x.block < W.heap.size := by obtain ⟨m, hm⟩ := h0; exact DataW.trod_lt m _ _ _ hm
 obtain ⟨n, hn⟩ := plain a0 w0 e0
 refine (law_calls ⟨rfl, tabs_of hL⟩ (args x0) hn).mono fun e W' ⟨he, bel⟩ => ?_
 subst he
 exact ⟨_, rfl, _, _, _, [], _, [], hW', trodAll_mk1 (shut_bool Tryd.underlying4 _),
  (trodAll_cons_mk (Below.trod laidOut (by kernel_rfl) (of_decide_eq_true (by kernel_rfl)) h0 bel l0) trodAll_mk0), rfl, bel.frame _, fun h => by cases h⟩
theorem over (plain : Plain) : Rows.codeProgramsRow.holds Tryd.pinned (OpenSpec.ofChange Rows.codeProgramsSpec) :=
 OpenClaim.holds_of_wide 8 Tryd.f8 rfl rfl rfl rfl rfl rfl rfl ⟨rfl, rfl, rfl, rfl, rfl⟩ rfl rfl rfl rfl rfl (by kernel_rfl) Tryd.func8 (by kernel_rfl)
  (of_decide_eq_true (by kernel_rfl)) (by unfold Func.isWrapper; first | (rw [if_pos (by decide +kernel)]; kernel_rfl) | (rw [if_neg (by decide +kernel)]; exact ⟨rfl, rfl⟩))
  (fun os started H enc _ => lifted plain os started H enc)
theorem proved (plain : Plain) : Rows.CodeProgramsCardSaid :=
 Claim7.holds_tied_plain_at .later [] Rows.codeProgramsCard.laidKinds true Rows.codeProgramsCard.stood.harness Rows.codeProgramsCard.stood.looks
  (over plain) (fun _ h => by cases h) (by kernel_rfl) (fun _ h => by cases h) codePrograms_row_tie rfl ⟨rfl, rfl⟩ (by kernel_rfl) rfl
  (fun f fn hf hfn => by
   obtain rfl : f = 8 := Option.some.inj ((show Tryd.prog.funcNamed Rows.codeProgramsRow.func = some 8 by kernel_rfl).symm.trans hf) |>.symm
   obtain rfl : fn = Tryd.f8 := (Option.some.inj (Tryd.func8.symm.trans hfn)).symm
   refine ⟨by kernel_rfl, fun j t ht => ?_⟩
   rw [Tryd.params8] at ht
   match j, ht with
   | 0, ht => cases ht; exact (show Tryd.prog.wantsStandIn 60 = false by kernel_rfl)
   | _ + 1, ht => simp at ht)
  (by kernel_rfl)
end codePrograms
end Go.Proofs.YtinhjhkmpknbbaaDoor
end
