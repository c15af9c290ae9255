/- Texts of this claim, put together. -/
import Derived.Test.YtghgbbiklkpbnaaDoorPart2
import Derived.Test.YtghgbbiklkpbnaaDoorPart1
import Derived.Test.YtghgbbiklkpbnaaDoorEval3
set_option linter.unusedSimpArgs false
set_option linter.unusedVariables false
section
namespace Go.AE.YtghgbbiklkpbnaaDoor
open Go Go.AE Go.Proofs.YtghgbbiklkpbnaaDoor

def K90b : List Bool := [true, false, false, false, true, false, false, false, false, false, false, false, false, false, true, true, true, false, false, false, false, false]
def V90b (b n : Nat) (x : AV) (c : AV) (i : Int) (x7 x8 x17 x18 x19 x20 x21 : AV) : List AV := [.ptr b 0, .junk, .junk, .junk, x, .junk, .junk, x7, x8, .junk, .junk, .junk, .junk, .junk, c, .v (.int .i64 n), .v (.int .i64 i), x17, x18, x19, x20, x21]
theorem comp2_loop {K b rl m B : Nat} (hbB : b < B) (hrB : rl < B) (hmB : m < B) {x : AV} {ks : List Nat} {c : AV} {es : List AV} {l : List Tm} (hs : Sl 4 c es) (hes : All2 es l) (hwf : wfL l) (hm : es.length ≤ 900000) (hks : ks.length = es.length) :
  ∀ (l' : List Tm) (i : Nat) (H : List AO) (code : List Op5) (g : Sg) (vars : List AV), i + l'.length = es.length → l' = l.drop i → Dp H b rl m code g → Ar H B x ks → B ≤ H.length →
   code.length + l'.length ≤ 900000 → g.met.length + l'.length ≤ 900000 → clr K90b vars = V90b b es.length x c i .junk .junk .junk .junk .junk .junk .junk →
   ∃ H' , loopN (exec (callW F) K c47_25) K90b (l'.length + 1) vars H = some (.exit 2, V90b b es.length x c es.length .junk .junk (.v (.bool false)) .junk .junk .junk .junk, H') ∧
    Dp H' b rl m (code ++ (setA g l' (ks.drop i)).1) (setA g l' (ks.drop i)).2 ∧ Gb B [b, rl, m] H H' := by
 have hll := hes.length
 intro l'
 induction l' with
 | nil =>
  intro i H code g vars hil _ cp hA hB _ _ hv
  have hil : i = es.length := by simpa using hil
  subst hil
  have hlt := lt_f (n := es.length)
  have e : ∀ ks : List Nat, setA g [] ks = ([], g) := fun ks => by cases ks <;> rfl
  refine ⟨H, ?_, by rw [e]; simpa using cp, .refl H⟩
  rw [List.length_nil, Nat.zero_add]
  refine loop_exit ?_
  rw [hv]
  simp only [V90b, c47_25, c47_14, hlt, Q0, Q1, Q2, Q3, Q4, Q5, Q6, Q7, Q8, Q9, Q10, Q11, Q12, Q13, Q14, Q15, Q16, Q17, Q18, Q19, Q20, Q21, Q22, Q23, Q24, Q25, Q26, Q27, Q28, Q29, Q30, Q31, Q32, Q33, Q35, Q36, Q37, Q38, Q39, Q40, Q41, Q42, Q43, Q44, Q45, Q46, Q47, Q48, Q49, Q50, Q51, Q52, Q53, Q54, Q55, Q56, Q57, Q58, Q59, Q60, Q61, Q62, Q63, Q64, Q65, Q66, Q67, Q68, Q69, Q70, Q71, Q72, Q73, Q99, Q100, Q101, Q102, Q103, Q74, Q75, Q77, Q78, Q79, Q80, Q81, Q82, Q83, Q84, clr, List.length_nil, List.length_cons, List.getElem?_cons_zero, List.getElem?_cons_succ, Nat.reduceAdd, Nat.zero_add, Nat.add_zero, Nat.reduceLeDiff, Nat.reduceSub, ↓reduceIte, List.drop_succ_cons, List.drop_zero, List.take_succ_cons, List.take_zero, Bool.false_eq_true, List.nil_append, List.cons_append, Bool.not_true, Bool.not_false, cond_true, cond_false, bne, Q85, Q86, Q87, Q88, Q89, Q90, Q91, Q92, Q93, Q94, Q95, Q96, Q97, Q98, Q110, Q111, Q116, Q117, Q118, Q119, Q120, Q121, Q122, Q123, Option.map_some, Option.map_none, Q34]
 | cons t l' ih =>
  intro i H code g vars hil hd cp hA hB hcl hml hv
  have hil' : i < es.length := by simp at hil; omega
  have hll' : i < l.length := by omega
  have hti : l[i] = t := by
   have h1 := List.drop_eq_getElem_cons hll'
   rw [← hd] at h1
   exact (List.cons.inj h1).1.symm
  have hd' : l' = l.drop (i + 1) := by
   have h1 := List.drop_eq_getElem_cons hll'
   rw [← hd] at h1
   exact (List.cons.inj h1).2
  have hT := hes.at hil' hll'
  rw [hti] at hT
  have htm : t ∈ l := by rw [← hti]; exact List.getElem_mem hll'
  have he : es[i]? = some es[i] := List.getElem?_eq_getElem hil'
  generalize es[i] = e at hT he
  have hf := hT.facts
  have q1 := fun h : List AO => hs.ia he h
  have hlt := lt_t hil'
  have hw := wrap_succ hil' (small_maxM hm)
  have hik : i < ks.length := by omega
  have hkd : ks.drop i = ks[i] :: ks.drop (i + 1) := List.drop_eq_getElem_cons hik
  have q9 : ∀ h : List AO, bx h 32 (ofVal (.agg #[(.int .i64 0), (.string ⟨#[]⟩), (.int .i64 0), (.slice none 0 0)])).cl = some (.ptr h.length 0, h ++ [.box 32 [.v (.int .i64 0), .v (.string ⟨#[]⟩), .v (.int .i64 0), .v (.slice none 0 0)]]) := fun h => by rw [q9z]; rfl
  rw [show (t :: l').length + 1 = (l'.length + 1) + 1 from rfl]
  simp only [List.length_cons] at hcl hil hml
  have hbe : AO.below 0 (.box 32 e.cells) = true := hT.bel
  have cpa := cp.app (l := [.box 32 e.cells]) (by simp [below_mono (Nat.zero_le _) _ hbe])
  have hwt := wfL_mem hwf t htm
  have gba : Gb B [b, rl, m] H (H ++ [.box 32 e.cells]) := Gb.app hB _
  obtain ⟨cd, g', hcd⟩ : ∃ cd g', (if isC t then ((⟨20, 0, ks[i], nos, 0⟩ : Op5), g) else (pIns 16 0 g t, pSg g t)) = (cd, g') := ⟨_, _, rfl⟩
  have hset : setA g (t :: l') (ks.drop i) = (cd :: (setA g' l' (ks.drop (i + 1))).1, (setA g' l' (ks.drop (i + 1))).2) := by
   rw [hkd, setA]
   cases hc : isC t with
   | true => rw [hc] at hcd; simp only [if_true, Prod.mk.injEq] at hcd ⊢; obtain ⟨rfl, rfl⟩ := hcd; exact ⟨rfl, rfl⟩
   | false => rw [hc] at hcd; simp only [Bool.false_eq_true, if_false, Prod.mk.injEq] at hcd ⊢; obtain ⟨rfl, rfl⟩ := hcd; exact ⟨rfl, rfl⟩
  have hg' : g'.met.length ≤ g.met.length + 1 := by
   cases hc : isC t with
   | true => rw [hc] at hcd; simp only [if_true, Prod.mk.injEq] at hcd; obtain ⟨_, rfl⟩ := hcd; omega
   | false => rw [hc] at hcd; simp only [Bool.false_eq_true, if_false, Prod.mk.injEq] at hcd; obtain ⟨_, rfl⟩ := hcd; exact pSg_len g t
  suffices step : ∃ H2 vs2, exec (callW F) K c47_25 (V90b b es.length x c i .junk .junk .junk .junk .junk .junk .junk) H = some (.normal, vs2, H2) ∧
    clr K90b vs2 = V90b b es.length x c ((i + 1 : Nat) : Int) .junk .junk .junk .junk .junk .junk .junk ∧ Dp H2 b rl m (code ++ [cd]) g' ∧ Rs [b, rl, m] (H ++ [.box 32 e.cells]) H2 by
   obtain ⟨H2, vs2, st, hv2, cp2, rs2⟩ := step
   rw [loop_normal (by rw [hv]; exact st)]
   have hl2 : H2.length = H.length + 1 := by rw [rs2.1]; simp
   obtain ⟨H', k1, k2, k3⟩ := ih (i + 1) H2 _ _ vs2 (by omega) hd' cp2 ((hA.app _).rsB hbB hrB hmB rs2) (by omega) (by rw [List.length_append, List.length_singleton]; omega) (by omega) hv2
   rw [hset]
   rw [List.append_assoc, List.singleton_append] at k2
   exact ⟨H', k1, k2, (gba.trans rs2.gb).trans k3⟩
  cases hc : isC t with
  | false =>
   rw [hc] at hcd
   simp only [Bool.false_eq_true, if_false, Prod.mk.injEq] at hcd
   obtain ⟨rfl, rfl⟩ := hcd
   have hk := wf_k hwt hc
   have ldt : Q76 (H ++ [.box 32 e.cells]) true 4 (.ptr H.length 0) = some e := hf.2.2.2.1 H 32
   cases hT with
   | mk k s n cc l2 hcc =>
   have hob : (H ++ [AO.box 32 [.v (.int .i64 k), .v (.string s), .v (.int .i64 n), cc]])[H.length]? = some (.box 32 [.v (.int .i64 k), .v (.string s), .v (.int .i64 n), cc]) := bxl
   have o0 := tm_ld0 hob
   have o1 := tm_ld1 hob
   have o2 : Q76 (H ++ [AO.box 32 [.v (.int .i64 k), .v (.string s), .v (.int .i64 n), cc]]) false 1 (.ptr H.length 2) = some (.v (.int .i64 n)) := by rw [bx_ld hob]; rfl
   simp only [Tm.k] at hk
   simp only [AV.cells] at hf cpa ldt
   rcases hk with rfl | rfl | rfl
   ·obtain ⟨H2, g1, cp2, rs2⟩ := var_ok cpa (by omega) (by omega) (.mk 1 s n cc l2 hcc) rfl (op := 16) (op2 := 17) (a := 0) rfl
    refine ⟨H2, V90b b es.length x c ((i + 1 : Nat) : Int) (.v (.int .i64 i)) (.ptr H.length 0) (.v (.bool true)) (.v (.int .i64 1)) (.v (.bool true)) .junk .junk, ?_, rfl, cp2, rs2⟩
    have e1 : ((1 : Int) == 1) = true := rfl
    simp only [V90b, c47_25, c47_14, c47_15, c47_16, c47_17, c47_18, c47_24, hlt, hw, q1, hf, q9, o0, ldt, e1, g1, e_callh, List.map_cons, List.map_nil, Q0, Q1, Q2, Q3, Q4, Q5, Q6, Q7, Q8, Q9, Q10, Q11, Q12, Q13, Q14, Q15, Q16, Q17, Q18, Q19, Q20, Q21, Q22, Q23, Q24, Q25, Q26, Q27, Q28, Q29, Q30, Q31, Q32, Q33, Q35, Q36, Q37, Q38, Q39, Q40, Q41, Q42, Q43, Q44, Q45, Q46, Q47, Q48, Q49, Q50, Q51, Q52, Q53, Q54, Q55, Q56, Q57, Q58, Q59, Q60, Q61, Q62, Q63, Q64, Q65, Q66, Q67, Q68, Q69, Q70, Q71, Q72, Q73, Q99, Q100, Q101, Q102, Q103, Q74, Q75, Q77, Q78, Q79, Q80, Q81, Q82, Q83, Q84, clr, List.length_nil, List.length_cons, List.getElem?_cons_zero, List.getElem?_cons_succ, Nat.reduceAdd, Nat.zero_add, Nat.add_zero, Nat.reduceLeDiff, Nat.reduceSub, ↓reduceIte, List.drop_succ_cons, List.drop_zero, List.take_succ_cons, List.take_zero, Bool.false_eq_true, List.nil_append, List.cons_append, Bool.not_true, Bool.not_false, cond_true, cond_false, bne, Q85, Q86, Q87, Q88, Q89, Q90, Q91, Q92, Q93, Q94, Q95, Q96, Q97, Q98, Q110, Q111, Q116, Q117, Q118, Q119, Q120, Q121, Q122, Q123, Option.map_some, Option.map_none]
   ·obtain ⟨H2, g1, cp2, rs2⟩ := cpa.lay (by omega) ⟨18, 0, 0, s, 0⟩
    have bld : ∀ (vars env : List AV), evBuild vars (.v (.string s) :: env) [.v (.int .i64 0), .v (.int .i64 0), .v (.int .i64 0), .v (.string ⟨#[]⟩), .v (.int .i64 0)] [(0, 1, (.k (.int .i64 18))), (3, 1, (.loc 0))] = some [.v (.int .i64 18), .v (.int .i64 0), .v (.int .i64 0), .v (.string s), .v (.int .i64 0)] := fun _ _ => rfl
    refine ⟨H2, V90b b es.length x c ((i + 1 : Nat) : Int) (.v (.int .i64 i)) (.ptr H.length 0) (.v (.bool true)) (.v (.int .i64 2)) (.v (.bool false)) (.v (.bool true)) .junk, ?_, rfl, cp2, rs2⟩
    have e1 : ((2 : Int) == 1) = false := rfl
    have e2 : ((2 : Int) == 2) = true := rfl
    simp only [o5] at g1
    simp only [V90b, c47_25, c47_14, c47_15, c47_16, c47_17, c47_19, c47_20, c47_24, hlt, hw, q1, hf, q9, o0, o1, bld, Q106, Q107, toL, e1, e2, g1, e_callh, List.map_cons, List.map_nil, Q0, Q1, Q2, Q3, Q4, Q5, Q6, Q7, Q8, Q9, Q10, Q11, Q12, Q13, Q14, Q15, Q16, Q17, Q18, Q19, Q20, Q21, Q22, Q23, Q24, Q25, Q26, Q27, Q28, Q29, Q30, Q31, Q32, Q33, Q35, Q36, Q37, Q38, Q39, Q40, Q41, Q42, Q43, Q44, Q45, Q46, Q47, Q48, Q49, Q50, Q51, Q52, Q53, Q54, Q55, Q56, Q57, Q58, Q59, Q60, Q61, Q62, Q63, Q64, Q65, Q66, Q67, Q68, Q69, Q70, Q71, Q72, Q73, Q99, Q100, Q101, Q102, Q103, Q74, Q75, Q77, Q78, Q79, Q80, Q81, Q82, Q83, Q84, clr, List.length_nil, List.length_cons, List.getElem?_cons_zero, List.getElem?_cons_succ, Nat.reduceAdd, Nat.zero_add, Nat.add_zero, Nat.reduceLeDiff, Nat.reduceSub, ↓reduceIte, List.drop_succ_cons, List.drop_zero, List.take_succ_cons, List.take_zero, Bool.false_eq_true, List.nil_append, List.cons_append, Bool.not_true, Bool.not_false, cond_true, cond_false, bne, Q85, Q86, Q87, Q88, Q89, Q90, Q91, Q92, Q93, Q94, Q95, Q96, Q97, Q98, Q110, Q111, Q116, Q117, Q118, Q119, Q120, Q121, Q122, Q123, Option.map_some, Option.map_none]
   ·obtain ⟨H2, g1, cp2, rs2⟩ := cpa.lay (by omega) ⟨19, 0, 0, nos, n⟩
    have bld : ∀ (vars env : List AV), evBuild vars (.v (.int .i64 n) :: env) [.v (.int .i64 0), .v (.int .i64 0), .v (.int .i64 0), .v (.string ⟨#[]⟩), .v (.int .i64 0)] [(0, 1, (.k (.int .i64 19))), (4, 1, (.loc 0))] = some [.v (.int .i64 19), .v (.int .i64 0), .v (.int .i64 0), .v (.string ⟨#[]⟩), .v (.int .i64 n)] := fun _ _ => rfl
    refine ⟨H2, V90b b es.length x c ((i + 1 : Nat) : Int) (.v (.int .i64 i)) (.ptr H.length 0) (.v (.bool true)) (.v (.int .i64 3)) (.v (.bool false)) (.v (.bool false)) (.v (.bool true)), ?_, rfl, cp2, rs2⟩
    have e1 : ((3 : Int) == 1) = false := rfl
    have e2 : ((3 : Int) == 2) = false := rfl
    have e3 : ((3 : Int) == 3) = true := rfl
    simp only [o5, nos] at g1
    simp only [V90b, c47_25, c47_14, c47_15, c47_16, c47_17, c47_19, c47_21, c47_22, c47_24, hlt, hw, q1, hf, q9, o0, o2, bld, Q106, Q107, toL, e1, e2, e3, g1, e_callh, List.map_cons, List.map_nil, Q0, Q1, Q2, Q3, Q4, Q5, Q6, Q7, Q8, Q9, Q10, Q11, Q12, Q13, Q14, Q15, Q16, Q17, Q18, Q19, Q20, Q21, Q22, Q23, Q24, Q25, Q26, Q27, Q28, Q29, Q30, Q31, Q32, Q33, Q35, Q36, Q37, Q38, Q39, Q40, Q41, Q42, Q43, Q44, Q45, Q46, Q47, Q48, Q49, Q50, Q51, Q52, Q53, Q54, Q55, Q56, Q57, Q58, Q59, Q60, Q61, Q62, Q63, Q64, Q65, Q66, Q67, Q68, Q69, Q70, Q71, Q72, Q73, Q99, Q100, Q101, Q102, Q103, Q74, Q75, Q77, Q78, Q79, Q80, Q81, Q82, Q83, Q84, clr, List.length_nil, List.length_cons, List.getElem?_cons_zero, List.getElem?_cons_succ, Nat.reduceAdd, Nat.zero_add, Nat.add_zero, Nat.reduceLeDiff, Nat.reduceSub, ↓reduceIte, List.drop_succ_cons, List.drop_zero, List.take_succ_cons, List.take_zero, Bool.false_eq_true, List.nil_append, List.cons_append, Bool.not_true, Bool.not_false, cond_true, cond_false, bne, Q85, Q86, Q87, Q88, Q89, Q90, Q91, Q92, Q93, Q94, Q95, Q96, Q97, Q98, Q110, Q111, Q116, Q117, Q118, Q119, Q120, Q121, Q122, Q123, Option.map_some, Option.map_none]
  | true =>
   rw [hc] at hcd
   simp only [if_true, Prod.mk.injEq] at hcd
   obtain ⟨rfl, rfl⟩ := hcd
   have hk4 : t.k = 4 := of_decide_eq_true hc
   obtain ⟨H2, g1, cp2, rs2⟩ := cpa.lay (by omega) ⟨20, 0, ks[i], nos, 0⟩
   obtain ⟨y, y1, y2⟩ := (hA.app [.box 32 e.cells]).el (i := i) (k := ks[i]) (List.getElem?_eq_getElem hik)
   have o0 : Q76 (H ++ [AO.box 32 e.cells]) false 1 (.ptr H.length 0) = some (.v (.int .i64 4)) := by rw [box_k hT, hk4]
   refine ⟨H2, V90b b es.length x c ((i + 1 : Nat) : Int) (.v (.int .i64 i)) (.ptr H.length 0) (.v (.bool true)) (.v (.int .i64 4)) (.v (.bool false)) (.v (.bool false)) (.v (.bool false)), ?_, rfl, cp2, rs2⟩
   have e1 : ((4 : Int) == 1) = false := rfl
   have e2 : ((4 : Int) == 2) = false := rfl
   have e3 : ((4 : Int) == 3) = false := rfl
   have bld : ∀ (vars env : List AV), evBuild vars (.v (.int .i64 (ks[i] : Nat)) :: env) [.v (.int .i64 0), .v (.int .i64 0), .v (.int .i64 0), .v (.string ⟨#[]⟩), .v (.int .i64 0)] [(0, 1, (.k (.int .i64 20))), (2, 1, (.loc 0))] = some [.v (.int .i64 20), .v (.int .i64 0), .v (.int .i64 (ks[i] : Nat)), .v (.string ⟨#[]⟩), .v (.int .i64 0)] := fun _ _ => rfl
   simp only [o5, nos] at g1
   simp only [iv] at y2
   generalize ks[i] = kk at *
   generalize hG : H ++ [AO.box 32 e.cells] = G at *
   simp only [V90b, c47_25, c47_14, c47_15, c47_16, c47_17, c47_19, c47_21, c47_23, c47_24, hlt, hw, q1, hf, q9, hG, o0, y1, y2, bld, Q106, Q107, toL, e1, e2, e3, g1, e_callh, List.map_cons, List.map_nil, Q0, Q1, Q2, Q3, Q4, Q5, Q6, Q7, Q8, Q9, Q10, Q11, Q12, Q13, Q14, Q15, Q16, Q17, Q18, Q19, Q20, Q21, Q22, Q23, Q24, Q25, Q26, Q27, Q28, Q29, Q30, Q31, Q32, Q33, Q35, Q36, Q37, Q38, Q39, Q40, Q41, Q42, Q43, Q44, Q45, Q46, Q47, Q48, Q49, Q50, Q51, Q52, Q53, Q54, Q55, Q56, Q57, Q58, Q59, Q60, Q61, Q62, Q63, Q64, Q65, Q66, Q67, Q68, Q69, Q70, Q71, Q72, Q73, Q99, Q100, Q101, Q102, Q103, Q74, Q75, Q77, Q78, Q79, Q80, Q81, Q82, Q83, Q84, clr, List.length_nil, List.length_cons, List.getElem?_cons_zero, List.getElem?_cons_succ, Nat.reduceAdd, Nat.zero_add, Nat.add_zero, Nat.reduceLeDiff, Nat.reduceSub, ↓reduceIte, List.drop_succ_cons, List.drop_zero, List.take_succ_cons, List.take_zero, Bool.false_eq_true, List.nil_append, List.cons_append, Bool.not_true, Bool.not_false, cond_true, cond_false, bne, Q85, Q86, Q87, Q88, Q89, Q90, Q91, Q92, Q93, Q94, Q95, Q96, Q97, Q98, Q110, Q111, Q116, Q117, Q118, Q119, Q120, Q121, Q122, Q123, Option.map_some, Option.map_none]
theorem comp_ok {b rl m : Nat} : ∀ (N : Nat) (t : Tm), SizeOf.sizeOf t < N → wfT t → isC t = true → ∀ (a : AV) (h : List AO) (code : List Op5) (g : Sg) (r : Nat), IsT a t → Dp h b rl m code g → code.length + 2 * zT t ≤ 900000 → g.next + zT t ≤ 3000001 → g.met.length + zT t ≤ 900000 →
   ∃ h', callW F 47 [.ptr b 0, .v (.int .i64 r), a] h = some (.tup [], h') ∧ Dp h' b rl m (code ++ (putC r g t).1) (putC r g t).2 ∧ Rs [b, rl, m] h h' := by
 intro N
 induction N with
 | zero => intro t h; omega
 | succ N ih =>
  intro t hN hwf hct a h code g r ha cp hcl hnx hml
  obtain ⟨hlb, hlr, hlt, _⟩ := cp.mb
  have hbe : AO.below 0 (.box 32 a.cells) = true := ha.bel
  have hf := ha.facts
  cases ha with
  | mk k s n c l hc =>
  have wl := hwf.l
  simp only [Tm.l] at wl
  obtain ⟨es, hs, hes, hm⟩ := hc.sl
  have hll := hes.length
  have hzl := zL_len l
  rw [zT] at hcl hnx hml
  have hmm : es.length ≤ 900000 := by omega
  have bxt : bx h 32 (some [.v (.int .i64 k), .v (.string s), .v (.int .i64 n), c]) = some (.ptr h.length 0, h ++ [.box 32 [.v (.int .i64 k), .v (.string s), .v (.int .i64 n), c]]) := rfl
  simp only [AV.cells] at hf hbe
  have cl := hf.2.2.2.2
  have cpa := cp.app (l := [.box 32 [.v (.int .i64 k), .v (.string s), .v (.int .i64 n), c]]) (by simp [below_mono (Nat.zero_le _) _ hbe])
  have gba : Gb h.length [b, rl, m] h (h ++ [.box 32 [.v (.int .i64 k), .v (.string s), .v (.int .i64 n), c]]) := Gb.app (Nat.le_refl _) _
  have o3 := tm_ld3 (H := h ++ [.box 32 [.v (.int .i64 k), .v (.string s), .v (.int .i64 n), c]]) bxl
  have hsz : ∀ t ∈ l, SizeOf.sizeOf t < N := by
   intro t ht
   have h1 := List.sizeOf_lt_of_mem ht
   have h2 := Tm.mk.sizeOf_spec k s n l
   omega
  have hl0 : (h ++ [AO.box 32 [.v (.int .i64 k), .v (.string s), .v (.int .i64 n), c]]).length = h.length + 1 := by simp
  obtain ⟨H1, x1, k1, cp1, hA1, gb1⟩ := comp1_loop (K := l.length + 1) (b := b) (rl := rl) (m := m) (B := h.length + 1) (B' := h.length) (r := (r : Int)) (by omega) (by omega) (by omega) hs hes wl hmm
   (fun t ht hc a H code g k hT hcp b1 b2 b3 => ih t (hsz t ht) (wfL_mem wl t ht) hc a H code g k hT hcp b1 b2 b3)
   l 0 _ code g (.v (.slice none 0 0)) [] [.ptr b 0, .v (.int .i64 r), .agg [.v (.int .i64 k), .v (.string s), .v (.int .i64 n), c], .ptr h.length 0, .v (.slice none 0 0), .v undef, .v undef, .v undef, .v undef, c, .v (.int .i64 es.length), .v (.int .i64 0), .v undef, .v undef, .v undef, .v undef, .v undef, .v undef, .v undef, .v undef, .v undef, .v undef] (by omega) (by simp) rfl cpa .nil (by omega) (by omega) (by omega) (by omega) rfl
  have hob1 : H1[h.length]? = some (.box 32 [.v (.int .i64 k), .v (.string s), .v (.int .i64 n), c]) := by
   rw [gb1.2 _ (by omega) (cp.nin (Nat.le_refl _))]; exact bxl
  have p1 := tm_ld1 hob1
  have p3 := tm_ld3 hob1
  have hal := putA_sum g wl
  have ham := putA_met l g
  have hkl : ((comps l).map kT).sum + l.length = zL l + innL l := by have := kL wl; omega
  have hil := innL_le l
  obtain ⟨H2, g2, cp2, rs2⟩ := cp1.lay (by rw [List.length_append]; omega) ⟨15, r, 0, s, l.length⟩
  have hob2 : H2[h.length]? = some (.box 32 [.v (.int .i64 k), .v (.string s), .v (.int .i64 n), c]) := by
   rw [rs2.2 _ (cp.nin (Nat.le_refl _))]; exact hob1
  have r3 := tm_ld3 hob2
  have hl1 := gb1.1
  have hA2 := hA1.rsB (by omega) (by omega) (by omega) rs2
  simp only [List.nil_append] at hA2
  obtain ⟨H3, k3, cp3, gb3⟩ := comp2_loop (K := l.length + 1) (b := b) (rl := rl) (m := m) (B := h.length + 1) (x := x1) (by omega) (by omega) (by omega) hs hes wl hmm (by rw [putA_len, hll]) l 0 H2 _ _
   [.ptr b 0, .v (.int .i64 r), .junk, .ptr h.length 0, x1, .junk, .junk, .junk, .junk, c, .v (.int .i64 es.length), .v (.int .i64 es.length), .v (.bool false), .junk, c, .v (.int .i64 es.length), .v (.int .i64 0), .junk, .junk, .junk, .junk, .junk] (by omega) (by simp) cp2 hA2 (by rw [rs2.1]; omega) (by rw [List.length_append, List.length_append, List.length_singleton]; omega) (by omega) rfl
  rw [List.drop_zero] at cp3
  have gb : Gb h.length [b, rl, m] h H3 := by
   have e : Gb h.length [b, rl, m] (h ++ [AO.box 32 [.v (.int .i64 k), .v (.string s), .v (.int .i64 n), c]]) H3 := by
    have := (gb1.trans rs2.gb).trans gb3
    exact ⟨this.1, fun j h1 h2 => this.2 j (by omega) h2⟩
   exact gba.trans e
  have cp3' : Dp H3 b rl m (code ++ (putC r g (.mk k s n l)).1) (putC r g (.mk k s n l)).2 := by
   rw [putC]
   simp only
   have e : ∀ (A Z : List Op5) (P : Op5), code ++ (A ++ P :: Z) = code ++ A ++ [P] ++ Z := fun A Z P => by simp
   rw [e]
   exact cp3
  obtain ⟨h3, L, he, cp4, rs4⟩ := cp.pre cp3' gb
  refine ⟨h3, callW_own (c := c47) rfl rfl (l.length + 1) ?_, cp4, rs4⟩
  have lvv : leave h.length c47 (some (.normal, V90b b es.length x1 c es.length .junk .junk (.v (.bool false)) .junk .junk .junk .junk, h3 ++ L)) = some (.tup [], h3) := leaveN _ (.inr rfl) rfl rs4.1 (by rw [← rs4.1]; exact cp4.bel)
  rw [← lvv]
  congr 1
  rw [← he]
  have q1 := fun H : List AO => hs.len H
  have bld : ∀ (vars env : List AV) (x1 x2 x4 : AV), evBuild vars (.v (.int .i64 es.length) :: x1 :: x2 :: .v (.string s) :: x4 :: .v (.int .i64 r) :: env) [.v (.int .i64 0), .v (.int .i64 0), .v (.int .i64 0), .v (.string ⟨#[]⟩), .v (.int .i64 0)] [(0, 1, (.k (.int .i64 15))), (1, 1, (.loc 5)), (3, 1, (.loc 3)), (4, 1, (.loc 0))] = some [.v (.int .i64 15), .v (.int .i64 r), .v (.int .i64 0), .v (.string s), .v (.int .i64 es.length)] := fun _ _ _ _ _ => rfl
  simp only [o5, ← hll] at g2
  rw [show c47.body = (.seq (.region [] [] c47_0) (.seq (.region [] [] c47_1) (.seq (.seq (.region [] [] c47_2) (.block 0 (.loop K90 [] c47_11))) (.seq (.region [] [] c47_12) (.seq (.region [] [] c47_13) (.block 2 (.loop K90b [] c47_25))))))) from rfl]
  generalize c47_11 = bb1 at k1 ⊢
  generalize c47_25 = bb2 at k3 ⊢
  simp only [V90, V90b] at k1 k3 ⊢
  simp only [c47, start, List.replicate, List.append_nil, c47_0, c47_1, c47_2, c47_12, c47_13, bxt, cl, o3, p1, p3, r3, q1, k1, bld, g2, Q106, Q107, toL, e_callh, List.map_cons, List.map_nil, k3, Q0, Q1, Q2, Q3, Q4, Q5, Q6, Q7, Q8, Q9, Q10, Q11, Q12, Q13, Q14, Q15, Q16, Q17, Q18, Q19, Q20, Q21, Q22, Q23, Q24, Q25, Q26, Q27, Q28, Q29, Q30, Q31, Q32, Q33, Q35, Q36, Q37, Q38, Q39, Q40, Q41, Q42, Q43, Q44, Q45, Q46, Q47, Q48, Q49, Q50, Q51, Q52, Q53, Q54, Q55, Q56, Q57, Q58, Q59, Q60, Q61, Q62, Q63, Q64, Q65, Q66, Q67, Q68, Q69, Q70, Q71, Q72, Q73, Q99, Q100, Q101, Q102, Q103, Q74, Q75, Q77, Q78, Q79, Q80, Q81, Q82, Q83, Q84, clr, List.length_nil, List.length_cons, List.getElem?_cons_zero, List.getElem?_cons_succ, Nat.reduceAdd, Nat.zero_add, Nat.add_zero, Nat.reduceLeDiff, Nat.reduceSub, ↓reduceIte, List.drop_succ_cons, List.drop_zero, List.take_succ_cons, List.take_zero, Bool.false_eq_true, List.nil_append, List.cons_append, Bool.not_true, Bool.not_false, cond_true, cond_false, bne, Q85, Q86, Q87, Q88, Q89, Q90, Q91, Q92, Q93, Q94, Q95, Q96, Q97, Q98, Q110, Q111, Q116, Q117, Q118, Q119, Q120, Q121, Q122, Q123, Option.map_some, Option.map_none]
end Go.AE.YtghgbbiklkpbnaaDoor
end

section
namespace Go.AE.YtghgbbiklkpbnaaDoor
open Go Go.AE Go.Proofs.YtghgbbiklkpbnaaDoor

theorem putT2_ok {h : List AO} {b rl m : Nat} {code : List Op5} {g : Sg} (c : Dp h b rl m code g) {a : AV} {t : Tm} (ha : IsT a t) (hw : wfT t) {r : Nat} (hcl : code.length + 2 * zT t ≤ 900000) (hnx : g.next + zT t ≤ 3000001) (hml : g.met.length + zT t ≤ 900000) :
  ∃ h', callW F 31 [.ptr b 0, .v (.int .i64 r), a] h = some (.tup [], h') ∧ Dp h' b rl m (code ++ (putT r g t).1) (putT r g t).2 ∧ Rs [b, rl, m] h h' := by
 have hbe : AO.below 0 (.box 32 a.cells) = true := ha.bel
 have hf := ha.facts
 have hz : 1 ≤ zT t := by cases t; rw [zT]; omega
 have cpa := c.app (l := [.box 32 a.cells]) (by simp [below_mono (Nat.zero_le _) _ hbe])
 have gba : Gb h.length [b, rl, m] h (h ++ [.box 32 a.cells]) := Gb.app (Nat.le_refl _) _
 have bxt : bx h 32 (some a.cells) = some (.ptr h.length 0, h ++ [.box 32 a.cells]) := rfl
 have ldt : Q76 (h ++ [.box 32 a.cells]) true 4 (.ptr h.length 0) = some a := hf.2.2.2.1 h 32
 have cl := hf.2.2.2.2
 suffices step : ∃ vs H', exec (callW F) 0 c31.body (start c31 [.ptr b 0, .v (.int .i64 r), a]) (h ++ []) = some (.normal, vs, H') ∧ Dp H' b rl m (code ++ (putT r g t).1) (putT r g t).2 ∧ Gb h.length [b, rl, m] h H' by
  obtain ⟨vs, H', st, cp2, gb⟩ := step
  obtain ⟨h3, L, he, cp3, rs3⟩ := c.pre cp2 gb
  refine ⟨h3, callW_own (c := c31) rfl rfl 0 ?_, cp3, rs3⟩
  rw [st, he]
  exact leaveN _ (.inr rfl) rfl rs3.1 (by rw [← rs3.1]; exact cp3.bel)
 rw [List.append_nil]
 cases hc : isC t with
 | false =>
  have hk := wf_k hw hc
  have hgt : putT r g t = ([pIns 11 r g t], pSg g t) := by rw [putT, if_neg (by simp [hc])]
  rw [hgt]
  cases ha with
  | mk k s n cc l2 hcc =>
  have hob : (h ++ [AO.box 32 [.v (.int .i64 k), .v (.string s), .v (.int .i64 n), cc]])[h.length]? = some (.box 32 [.v (.int .i64 k), .v (.string s), .v (.int .i64 n), cc]) := bxl
  have o0 := tm_ld0 hob
  have o1 := tm_ld1 hob
  have o2 : Q76 (h ++ [AO.box 32 [.v (.int .i64 k), .v (.string s), .v (.int .i64 n), cc]]) false 1 (.ptr h.length 2) = some (.v (.int .i64 n)) := by rw [bx_ld hob]; rfl
  simp only [Tm.k] at hk
  simp only [AV.cells] at cpa ldt bxt cl gba
  rcases hk with rfl | rfl | rfl
  ·obtain ⟨H2, g1, cp2, rs2⟩ := var_ok cpa (by omega) (by omega) (.mk 1 s n cc l2 hcc) rfl (op := 11) (op2 := 12) (a := r) rfl
   refine ⟨[.ptr b 0, .v (.int .i64 r), .agg [.v (.int .i64 1), .v (.string s), .v (.int .i64 n), cc], .ptr h.length 0, .v (.int .i64 1), .v (.bool true), .v undef, .v undef], H2, ?_, cp2, gba.trans rs2.gb⟩
   have e1 : ((1 : Int) == 1) = true := rfl
   simp only [c31, start, List.replicate, c31_0, c31_1, c31_2, c31_3, bxt, cl, o0, ldt, e1, g1, e_callh, List.map_cons, List.map_nil, Q0, Q1, Q2, Q3, Q4, Q5, Q6, Q7, Q8, Q9, Q10, Q11, Q12, Q13, Q14, Q15, Q16, Q17, Q18, Q19, Q20, Q21, Q22, Q23, Q24, Q25, Q26, Q27, Q28, Q29, Q30, Q31, Q32, Q33, Q35, Q36, Q37, Q38, Q39, Q40, Q41, Q42, Q43, Q44, Q45, Q46, Q47, Q48, Q49, Q50, Q51, Q52, Q53, Q54, Q55, Q56, Q57, Q58, Q59, Q60, Q61, Q62, Q63, Q64, Q65, Q66, Q67, Q68, Q69, Q70, Q71, Q72, Q73, Q99, Q100, Q101, Q102, Q103, Q74, Q75, Q77, Q78, Q79, Q80, Q81, Q82, Q83, Q84, clr, List.length_nil, List.length_cons, List.getElem?_cons_zero, List.getElem?_cons_succ, Nat.reduceAdd, Nat.zero_add, Nat.add_zero, Nat.reduceLeDiff, Nat.reduceSub, ↓reduceIte, List.drop_succ_cons, List.drop_zero, List.take_succ_cons, List.take_zero, Bool.false_eq_true, List.nil_append, List.cons_append, Bool.not_true, Bool.not_false, cond_true, cond_false, bne, Q85, Q86, Q87, Q88, Q89, Q90, Q91, Q92, Q93, Q94, Q95, Q96, Q97, Q98, Q110, Q111, Q116, Q117, Q118, Q119, Q120, Q121, Q122, Q123, Option.map_some, Option.map_none]
  ·obtain ⟨H2, g1, cp2, rs2⟩ := cpa.lay (by omega) ⟨13, r, 0, s, 0⟩
   have bld : ∀ (vars env : List AV) (x : AV), evBuild vars (.v (.string s) :: x :: .v (.int .i64 r) :: env) [.v (.int .i64 0), .v (.int .i64 0), .v (.int .i64 0), .v (.string ⟨#[]⟩), .v (.int .i64 0)] [(0, 1, (.k (.int .i64 13))), (1, 1, (.loc 2)), (3, 1, (.loc 0))] = some [.v (.int .i64 13), .v (.int .i64 r), .v (.int .i64 0), .v (.string s), .v (.int .i64 0)] := fun _ _ _ => rfl
   refine ⟨[.ptr b 0, .v (.int .i64 r), .agg [.v (.int .i64 2), .v (.string s), .v (.int .i64 n), cc], .ptr h.length 0, .v (.int .i64 2), .v (.bool false), .v (.bool true), .v undef], H2, ?_, cp2, gba.trans rs2.gb⟩
   have e1 : ((2 : Int) == 1) = false := rfl
   have e2 : ((2 : Int) == 2) = true := rfl
   simp only [o5] at g1
   simp only [c31, start, List.replicate, c31_0, c31_1, c31_2, c31_4, c31_5, bxt, cl, o0, o1, e1, e2, bld, Q106, Q107, toL, g1, e_callh, List.map_cons, List.map_nil, Q0, Q1, Q2, Q3, Q4, Q5, Q6, Q7, Q8, Q9, Q10, Q11, Q12, Q13, Q14, Q15, Q16, Q17, Q18, Q19, Q20, Q21, Q22, Q23, Q24, Q25, Q26, Q27, Q28, Q29, Q30, Q31, Q32, Q33, Q35, Q36, Q37, Q38, Q39, Q40, Q41, Q42, Q43, Q44, Q45, Q46, Q47, Q48, Q49, Q50, Q51, Q52, Q53, Q54, Q55, Q56, Q57, Q58, Q59, Q60, Q61, Q62, Q63, Q64, Q65, Q66, Q67, Q68, Q69, Q70, Q71, Q72, Q73, Q99, Q100, Q101, Q102, Q103, Q74, Q75, Q77, Q78, Q79, Q80, Q81, Q82, Q83, Q84, clr, List.length_nil, List.length_cons, List.getElem?_cons_zero, List.getElem?_cons_succ, Nat.reduceAdd, Nat.zero_add, Nat.add_zero, Nat.reduceLeDiff, Nat.reduceSub, ↓reduceIte, List.drop_succ_cons, List.drop_zero, List.take_succ_cons, List.take_zero, Bool.false_eq_true, List.nil_append, List.cons_append, Bool.not_true, Bool.not_false, cond_true, cond_false, bne, Q85, Q86, Q87, Q88, Q89, Q90, Q91, Q92, Q93, Q94, Q95, Q96, Q97, Q98, Q110, Q111, Q116, Q117, Q118, Q119, Q120, Q121, Q122, Q123, Option.map_some, Option.map_none]
  ·obtain ⟨H2, g1, cp2, rs2⟩ := cpa.lay (by omega) ⟨14, r, 0, nos, n⟩
   have bld : ∀ (vars env : List AV) (x : AV), evBuild vars (.v (.int .i64 n) :: x :: .v (.int .i64 r) :: env) [.v (.int .i64 0), .v (.int .i64 0), .v (.int .i64 0), .v (.string ⟨#[]⟩), .v (.int .i64 0)] [(0, 1, (.k (.int .i64 14))), (1, 1, (.loc 2)), (4, 1, (.loc 0))] = some [.v (.int .i64 14), .v (.int .i64 r), .v (.int .i64 0), .v (.string ⟨#[]⟩), .v (.int .i64 n)] := fun _ _ _ => rfl
   refine ⟨[.ptr b 0, .v (.int .i64 r), .agg [.v (.int .i64 3), .v (.string s), .v (.int .i64 n), cc], .ptr h.length 0, .v (.int .i64 3), .v (.bool false), .v (.bool false), .v (.bool true)], H2, ?_, cp2, gba.trans rs2.gb⟩
   have e1 : ((3 : Int) == 1) = false := rfl
   have e2 : ((3 : Int) == 2) = false := rfl
   have e3 : ((3 : Int) == 3) = true := rfl
   simp only [o5, nos] at g1
   simp only [c31, start, List.replicate, c31_0, c31_1, c31_2, c31_4, c31_6, c31_7, bxt, cl, o0, o2, e1, e2, e3, bld, Q106, Q107, toL, g1, e_callh, List.map_cons, List.map_nil, Q0, Q1, Q2, Q3, Q4, Q5, Q6, Q7, Q8, Q9, Q10, Q11, Q12, Q13, Q14, Q15, Q16, Q17, Q18, Q19, Q20, Q21, Q22, Q23, Q24, Q25, Q26, Q27, Q28, Q29, Q30, Q31, Q32, Q33, Q35, Q36, Q37, Q38, Q39, Q40, Q41, Q42, Q43, Q44, Q45, Q46, Q47, Q48, Q49, Q50, Q51, Q52, Q53, Q54, Q55, Q56, Q57, Q58, Q59, Q60, Q61, Q62, Q63, Q64, Q65, Q66, Q67, Q68, Q69, Q70, Q71, Q72, Q73, Q99, Q100, Q101, Q102, Q103, Q74, Q75, Q77, Q78, Q79, Q80, Q81, Q82, Q83, Q84, clr, List.length_nil, List.length_cons, List.getElem?_cons_zero, List.getElem?_cons_succ, Nat.reduceAdd, Nat.zero_add, Nat.add_zero, Nat.reduceLeDiff, Nat.reduceSub, ↓reduceIte, List.drop_succ_cons, List.drop_zero, List.take_succ_cons, List.take_zero, Bool.false_eq_true, List.nil_append, List.cons_append, Bool.not_true, Bool.not_false, cond_true, cond_false, bne, Q85, Q86, Q87, Q88, Q89, Q90, Q91, Q92, Q93, Q94, Q95, Q96, Q97, Q98, Q110, Q111, Q116, Q117, Q118, Q119, Q120, Q121, Q122, Q123, Option.map_some, Option.map_none]
 | true =>
  have hk4 : t.k = 4 := of_decide_eq_true hc
  have o0 : Q76 (h ++ [AO.box 32 a.cells]) false 1 (.ptr h.length 0) = some (.v (.int .i64 4)) := by rw [box_k ha, hk4]
  obtain ⟨H2, g1, cp2, rs2⟩ := comp_ok (SizeOf.sizeOf t + 1) t (by omega) hw hc a (h ++ [.box 32 a.cells]) code g r ha cpa hcl hnx hml
  refine ⟨[.ptr b 0, .v (.int .i64 r), a, .ptr h.length 0, .v (.int .i64 4), .v (.bool false), .v (.bool false), .v (.bool false)], H2, ?_, by rw [putT, if_pos hc]; exact cp2, gba.trans rs2.gb⟩
  have e1 : ((4 : Int) == 1) = false := rfl
  have e2 : ((4 : Int) == 2) = false := rfl
  have e3 : ((4 : Int) == 3) = false := rfl
  simp only [c31, start, List.replicate, c31_0, c31_1, c31_2, c31_4, c31_6, c31_8, bxt, cl, o0, ldt, e1, e2, e3, g1, e_callh, List.map_cons, List.map_nil, Q0, Q1, Q2, Q3, Q4, Q5, Q6, Q7, Q8, Q9, Q10, Q11, Q12, Q13, Q14, Q15, Q16, Q17, Q18, Q19, Q20, Q21, Q22, Q23, Q24, Q25, Q26, Q27, Q28, Q29, Q30, Q31, Q32, Q33, Q35, Q36, Q37, Q38, Q39, Q40, Q41, Q42, Q43, Q44, Q45, Q46, Q47, Q48, Q49, Q50, Q51, Q52, Q53, Q54, Q55, Q56, Q57, Q58, Q59, Q60, Q61, Q62, Q63, Q64, Q65, Q66, Q67, Q68, Q69, Q70, Q71, Q72, Q73, Q99, Q100, Q101, Q102, Q103, Q74, Q75, Q77, Q78, Q79, Q80, Q81, Q82, Q83, Q84, clr, List.length_nil, List.length_cons, List.getElem?_cons_zero, List.getElem?_cons_succ, Nat.reduceAdd, Nat.zero_add, Nat.add_zero, Nat.reduceLeDiff, Nat.reduceSub, ↓reduceIte, List.drop_succ_cons, List.drop_zero, List.take_succ_cons, List.take_zero, Bool.false_eq_true, List.nil_append, List.cons_append, Bool.not_true, Bool.not_false, cond_true, cond_false, bne, Q85, Q86, Q87, Q88, Q89, Q90, Q91, Q92, Q93, Q94, Q95, Q96, Q97, Q98, Q110, Q111, Q116, Q117, Q118, Q119, Q120, Q121, Q122, Q123, Option.map_some, Option.map_none]
theorem putT_met (r : Nat) (g : Sg) (t : Tm) : (putT r g t).2.met.length ≤ g.met.length + zT t := by
 cases hc : isC t with
 | true =>
  have := putC_met t r g
  have : zL t.l ≤ zT t := by cases t; simp only [Tm.l, zT]; omega
  rw [putT, if_pos hc]; omega
 | false =>
  have := pSg_len g t
  have hz : 1 ≤ zT t := by cases t; rw [zT]; omega
  rw [putT, if_neg (by simp [hc])]; simp only; omega
theorem args_putT_met : ∀ (l : List Tm) (i : Nat) (g : Sg), (args putT i g l).2.met.length ≤ g.met.length + zL l
 | [], i, g => by simp [args]
 | t :: l, i, g => by
  have h1 := putT_met i g t
  have h2 := args_putT_met l (i + 1) (putT i g t).2
  simp only [args, zL]; omega
theorem args_getT_met : ∀ {l : List Tm}, wfL l → ∀ (i : Nat) (g : Sg), (args getT i g l).2.met.length ≤ g.met.length + 2 * zL l
 | [], _, i, g => by simp [args]
 | t :: l, h, i, g => by
  rw [wfL] at h
  have h1 := getT_met h.1 i g
  have h2 := args_getT_met h.2 (i + 1) (getT i g t).2
  have h3 := kT_le t
  simp only [args, zL]; omega
theorem goalT_met (g : Sg) (t : Tm) : (goalT g t).2.met.length ≤ g.met.length + zT t := by
 rw [goalT]
 split
 ·simp
 ·have := args_putT_met t.l 0 g
  cases t; simp only [zT, Tm.l] at this ⊢; omega

theorem arg1b_loop {K b rl m B B' : Nat} {c : AV} {es : List AV} {l : List Tm} (hs : Sl 4 c es) (hes : All2 es l) (hwf : wfL l) (hm : es.length ≤ 900000) :
  ∀ (l' : List Tm) (i : Nat) (H : List AO) (code : List Op5) (g : Sg) (vars : List AV), i + l'.length = es.length → l' = l.drop i → Dp H b rl m code g → B ≤ H.length →
   code.length + 2 * zL l' ≤ 900000 → g.next + zL l' ≤ 1900000 → g.met.length + 2 * zL l' ≤ 890000 → clr K26a vars = V26a B' b es.length c i .junk .junk .junk →
   ∃ H', loopN (exec (callW F) K c11_7) K26a (l'.length + 1) vars H = some (.exit 0, V26a B' b es.length c es.length .junk .junk (.v (.bool false)), H') ∧
    Dp H' b rl m (code ++ (args getT i g l').1) (args getT i g l').2 ∧ Gb B [b, rl, m] H H' := by
 have hll := hes.length
 intro l'
 induction l' with
 | nil =>
  intro i H code g vars hil _ cp hB _ _ _ hv
  have hil : i = es.length := by simpa using hil
  subst hil
  have hlt := lt_f (n := es.length)
  refine ⟨H, ?_, by simpa [args] using cp, .refl H⟩
  rw [List.length_nil, Nat.zero_add]
  refine loop_exit ?_
  rw [hv]
  simp only [V26a, c11_7, c11_3, hlt, Q0, Q1, Q2, Q3, Q4, Q5, Q6, Q7, Q8, Q9, Q10, Q11, Q12, Q13, Q14, Q15, Q16, Q17, Q18, Q19, Q20, Q21, Q22, Q23, Q24, Q25, Q26, Q27, Q28, Q29, Q30, Q31, Q32, Q33, Q35, Q36, Q37, Q38, Q39, Q40, Q41, Q42, Q43, Q44, Q45, Q46, Q47, Q48, Q49, Q50, Q51, Q52, Q53, Q54, Q55, Q56, Q57, Q58, Q59, Q60, Q61, Q62, Q63, Q64, Q65, Q66, Q67, Q68, Q69, Q70, Q71, Q72, Q73, Q99, Q100, Q101, Q102, Q103, Q74, Q75, Q77, Q78, Q79, Q80, Q81, Q82, Q83, Q84, clr, List.length_nil, List.length_cons, List.getElem?_cons_zero, List.getElem?_cons_succ, Nat.reduceAdd, Nat.zero_add, Nat.add_zero, Nat.reduceLeDiff, Nat.reduceSub, ↓reduceIte, List.drop_succ_cons, List.drop_zero, List.take_succ_cons, List.take_zero, Bool.false_eq_true, List.nil_append, List.cons_append, Bool.not_true, Bool.not_false, cond_true, cond_false, bne, Q85, Q86, Q87, Q88, Q89, Q90, Q91, Q92, Q93, Q94, Q95, Q96, Q97, Q98, Q110, Q111, Q116, Q117, Q118, Q119, Q120, Q121, Q122, Q123, Option.map_some, Option.map_none, Q34]
 | cons t l' ih =>
  intro i H code g vars hil hd cp hB hcl hnx hml hv
  have hil' : i < es.length := by simp at hil; omega
  have hll' : i < l.length := by omega
  have hti : l[i] = t := by
   have h1 := List.drop_eq_getElem_cons hll'
   rw [← hd] at h1
   exact (List.cons.inj h1).1.symm
  have hd' : l' = l.drop (i + 1) := by
   have h1 := List.drop_eq_getElem_cons hll'
   rw [← hd] at h1
   exact (List.cons.inj h1).2
  have hT := hes.at hil' hll'
  rw [hti] at hT
  have htm : t ∈ l := by rw [← hti]; exact List.getElem_mem hll'
  have he : es[i]? = some es[i] := List.getElem?_eq_getElem hil'
  generalize es[i] = e at hT he
  have hf := hT.facts
  have q1 := fun h : List AO => hs.ia he h
  have hlt := lt_t hil'
  have hw := wrap_succ hil' (small_maxM hm)
  have q9 : ∀ h : List AO, bx h 32 (ofVal (.agg #[(.int .i64 0), (.string ⟨#[]⟩), (.int .i64 0), (.slice none 0 0)])).cl = some (.ptr h.length 0, h ++ [.box 32 [.v (.int .i64 0), .v (.string ⟨#[]⟩), .v (.int .i64 0), .v (.slice none 0 0)]]) := fun h => by rw [q9z]; rfl
  rw [show (t :: l').length + 1 = (l'.length + 1) + 1 from rfl]
  simp only [zL] at hcl hnx hml
  simp only [List.length_cons] at hil
  have hbe : AO.below 0 (.box 32 e.cells) = true := hT.bel
  have cpa := cp.app (l := [.box 32 e.cells]) (by simp [below_mono (Nat.zero_le _) _ hbe])
  have kl := kT_le t
  have cl := cT_le t
  obtain ⟨H2, g1, cp2, rs2⟩ := getT2_ok cpa hT (wfL_mem hwf t htm) (r := i) (by omega) (by omega) (by omega)
  have st : exec (callW F) K c11_7 (V26a B' b es.length c i .junk .junk .junk) H = some (.normal, V26a B' b es.length c ((i + 1 : Nat) : Int) (.v (.int .i64 i)) (.ptr H.length 0) (.v (.bool true)), H2) := by
   simp only [V26a, c11_7, c11_3, c11_4, c11_5, c11_6, hlt, hw, q1, hf, q9, g1, e_callh, List.map_cons, List.map_nil, Q0, Q1, Q2, Q3, Q4, Q5, Q6, Q7, Q8, Q9, Q10, Q11, Q12, Q13, Q14, Q15, Q16, Q17, Q18, Q19, Q20, Q21, Q22, Q23, Q24, Q25, Q26, Q27, Q28, Q29, Q30, Q31, Q32, Q33, Q35, Q36, Q37, Q38, Q39, Q40, Q41, Q42, Q43, Q44, Q45, Q46, Q47, Q48, Q49, Q50, Q51, Q52, Q53, Q54, Q55, Q56, Q57, Q58, Q59, Q60, Q61, Q62, Q63, Q64, Q65, Q66, Q67, Q68, Q69, Q70, Q71, Q72, Q73, Q99, Q100, Q101, Q102, Q103, Q74, Q75, Q77, Q78, Q79, Q80, Q81, Q82, Q83, Q84, clr, List.length_nil, List.length_cons, List.getElem?_cons_zero, List.getElem?_cons_succ, Nat.reduceAdd, Nat.zero_add, Nat.add_zero, Nat.reduceLeDiff, Nat.reduceSub, ↓reduceIte, List.drop_succ_cons, List.drop_zero, List.take_succ_cons, List.take_zero, Bool.false_eq_true, List.nil_append, List.cons_append, Bool.not_true, Bool.not_false, cond_true, cond_false, bne, Q85, Q86, Q87, Q88, Q89, Q90, Q91, Q92, Q93, Q94, Q95, Q96, Q97, Q98, Q110, Q111, Q116, Q117, Q118, Q119, Q120, Q121, Q122, Q123, Option.map_some, Option.map_none]
  rw [loop_normal (by rw [hv]; exact st)]
  have hgl := getT_len (wfL_mem hwf t htm) i g
  have hgn := getT_next i g t
  have hgm := getT_met (wfL_mem hwf t htm) i g
  have hgb : Gb B [b, rl, m] H H2 := (Gb.app hB _).trans rs2.gb
  obtain ⟨H', k1, k2, k3⟩ := ih (i + 1) H2 _ _ (V26a B' b es.length c ((i + 1 : Nat) : Int) (.v (.int .i64 i)) (.ptr H.length 0) (.v (.bool true))) (by omega) hd' cp2 (by have := hgb.1; omega) (by rw [List.length_append, hgl]; omega) (by omega) (by omega) rfl
  refine ⟨H', k1, ?_, hgb.trans k3⟩
  rw [args]
  simp only
  rw [← List.append_assoc]
  exact k2

theorem arg2b_loop {K b rl m B B' G bn : Nat} {bc : AV} {j : Int} {c : AV} {es : List AV} {l : List Tm} (hs : Sl 4 c es) (hes : All2 es l) (hwf : wfL l) (hm : es.length ≤ 900000) :
  ∀ (l' : List Tm) (i : Nat) (H : List AO) (code : List Op5) (g : Sg) (vars : List AV), i + l'.length = es.length → l' = l.drop i → Dp H b rl m code g → B ≤ H.length →
   code.length + 2 * zL l' ≤ 900000 → g.next + zL l' ≤ 3000000 → g.met.length + zL l' ≤ 890000 → clr K26c vars = V26c B' b G bn bc j es.length c i .junk .junk .junk →
   ∃ H', loopN (exec (callW F) K c11_18) K26c (l'.length + 1) vars H = some (.exit 4, V26c B' b G bn bc j es.length c es.length .junk .junk (.v (.bool false)), H') ∧
    Dp H' b rl m (code ++ (args putT i g l').1) (args putT i g l').2 ∧ Gb B [b, rl, m] H H' := by
 have hll := hes.length
 intro l'
 induction l' with
 | nil =>
  intro i H code g vars hil _ cp hB _ _ _ hv
  have hil : i = es.length := by simpa using hil
  subst hil
  have hlt := lt_f (n := es.length)
  refine ⟨H, ?_, by simpa [args] using cp, .refl H⟩
  rw [List.length_nil, Nat.zero_add]
  refine loop_exit ?_
  rw [hv]
  simp only [V26c, c11_18, c11_14, hlt, Q0, Q1, Q2, Q3, Q4, Q5, Q6, Q7, Q8, Q9, Q10, Q11, Q12, Q13, Q14, Q15, Q16, Q17, Q18, Q19, Q20, Q21, Q22, Q23, Q24, Q25, Q26, Q27, Q28, Q29, Q30, Q31, Q32, Q33, Q35, Q36, Q37, Q38, Q39, Q40, Q41, Q42, Q43, Q44, Q45, Q46, Q47, Q48, Q49, Q50, Q51, Q52, Q53, Q54, Q55, Q56, Q57, Q58, Q59, Q60, Q61, Q62, Q63, Q64, Q65, Q66, Q67, Q68, Q69, Q70, Q71, Q72, Q73, Q99, Q100, Q101, Q102, Q103, Q74, Q75, Q77, Q78, Q79, Q80, Q81, Q82, Q83, Q84, clr, List.length_nil, List.length_cons, List.getElem?_cons_zero, List.getElem?_cons_succ, Nat.reduceAdd, Nat.zero_add, Nat.add_zero, Nat.reduceLeDiff, Nat.reduceSub, ↓reduceIte, List.drop_succ_cons, List.drop_zero, List.take_succ_cons, List.take_zero, Bool.false_eq_true, List.nil_append, List.cons_append, Bool.not_true, Bool.not_false, cond_true, cond_false, bne, Q85, Q86, Q87, Q88, Q89, Q90, Q91, Q92, Q93, Q94, Q95, Q96, Q97, Q98, Q110, Q111, Q116, Q117, Q118, Q119, Q120, Q121, Q122, Q123, Option.map_some, Option.map_none, Q34]
 | cons t l' ih =>
  intro i H code g vars hil hd cp hB hcl hnx hml hv
  have hil' : i < es.length := by simp at hil; omega
  have hll' : i < l.length := by omega
  have hti : l[i] = t := by
   have h1 := List.drop_eq_getElem_cons hll'
   rw [← hd] at h1
   exact (List.cons.inj h1).1.symm
  have hd' : l' = l.drop (i + 1) := by
   have h1 := List.drop_eq_getElem_cons hll'
   rw [← hd] at h1
   exact (List.cons.inj h1).2
  have hT := hes.at hil' hll'
  rw [hti] at hT
  have htm : t ∈ l := by rw [← hti]; exact List.getElem_mem hll'
  have he : es[i]? = some es[i] := List.getElem?_eq_getElem hil'
  generalize es[i] = e at hT he
  have hf := hT.facts
  have q1 := fun h : List AO => hs.ia he h
  have hlt := lt_t hil'
  have hw := wrap_succ hil' (small_maxM hm)
  have q9 : ∀ h : List AO, bx h 32 (ofVal (.agg #[(.int .i64 0), (.string ⟨#[]⟩), (.int .i64 0), (.slice none 0 0)])).cl = some (.ptr h.length 0, h ++ [.box 32 [.v (.int .i64 0), .v (.string ⟨#[]⟩), .v (.int .i64 0), .v (.slice none 0 0)]]) := fun h => by rw [q9z]; rfl
  rw [show (t :: l').length + 1 = (l'.length + 1) + 1 from rfl]
  simp only [zL] at hcl hnx hml
  simp only [List.length_cons] at hil
  have hbe : AO.below 0 (.box 32 e.cells) = true := hT.bel
  have cpa := cp.app (l := [.box 32 e.cells]) (by simp [below_mono (Nat.zero_le _) _ hbe])
  obtain ⟨H2, g1, cp2, rs2⟩ := putT2_ok cpa hT (wfL_mem hwf t htm) (r := i) (by omega) (by omega) (by omega)
  have st : exec (callW F) K c11_18 (V26c B' b G bn bc j es.length c i .junk .junk .junk) H = some (.normal, V26c B' b G bn bc j es.length c ((i + 1 : Nat) : Int) (.v (.int .i64 i)) (.ptr H.length 0) (.v (.bool true)), H2) := by
   simp only [V26c, c11_18, c11_14, c11_15, c11_16, c11_17, hlt, hw, q1, hf, q9, g1, e_callh, List.map_cons, List.map_nil, Q0, Q1, Q2, Q3, Q4, Q5, Q6, Q7, Q8, Q9, Q10, Q11, Q12, Q13, Q14, Q15, Q16, Q17, Q18, Q19, Q20, Q21, Q22, Q23, Q24, Q25, Q26, Q27, Q28, Q29, Q30, Q31, Q32, Q33, Q35, Q36, Q37, Q38, Q39, Q40, Q41, Q42, Q43, Q44, Q45, Q46, Q47, Q48, Q49, Q50, Q51, Q52, Q53, Q54, Q55, Q56, Q57, Q58, Q59, Q60, Q61, Q62, Q63, Q64, Q65, Q66, Q67, Q68, Q69, Q70, Q71, Q72, Q73, Q99, Q100, Q101, Q102, Q103, Q74, Q75, Q77, Q78, Q79, Q80, Q81, Q82, Q83, Q84, clr, List.length_nil, List.length_cons, List.getElem?_cons_zero, List.getElem?_cons_succ, Nat.reduceAdd, Nat.zero_add, Nat.add_zero, Nat.reduceLeDiff, Nat.reduceSub, ↓reduceIte, List.drop_succ_cons, List.drop_zero, List.take_succ_cons, List.take_zero, Bool.false_eq_true, List.nil_append, List.cons_append, Bool.not_true, Bool.not_false, cond_true, cond_false, bne, Q85, Q86, Q87, Q88, Q89, Q90, Q91, Q92, Q93, Q94, Q95, Q96, Q97, Q98, Q110, Q111, Q116, Q117, Q118, Q119, Q120, Q121, Q122, Q123, Option.map_some, Option.map_none]
  rw [loop_normal (by rw [hv]; exact st)]
  have hgl := putT_len (wfL_mem hwf t htm) i g
  have hgn := putT_next i g t
  have hgm := putT_met i g t
  have hgb : Gb B [b, rl, m] H H2 := (Gb.app hB _).trans rs2.gb
  obtain ⟨H', k1, k2, k3⟩ := ih (i + 1) H2 _ _ (V26c B' b G bn bc j es.length c ((i + 1 : Nat) : Int) (.v (.int .i64 i)) (.ptr H.length 0) (.v (.bool true))) (by omega) hd' cp2 (by have := hgb.1; omega) (by rw [List.length_append]; omega) (by omega) (by omega) rfl
  refine ⟨H', k1, ?_, hgb.trans k3⟩
  rw [args]
  simp only
  rw [← List.append_assoc]
  exact k2
theorem goalb_loop {K b rl m B B' : Nat} {c : AV} {es : List AV} {l : List Tm} (hK : 900001 ≤ K) (hs : Sl 4 c es) (hes : All2 es l) (hwf : wfL l) (hm : es.length ≤ 900000) :
  ∀ (l' : List Tm) (i : Nat) (H : List AO) (code : List Op5) (g : Sg) (vars : List AV), i + l'.length = es.length → l' = l.drop i → Dp H b rl m code g → B ≤ H.length →
   code.length + 2 * zL l' ≤ 900000 → g.next + zL l' ≤ 3000000 → g.met.length + zL l' ≤ 890000 → clr K26b vars = V26b B' b es.length c i .junk .junk .junk .junk .junk .junk .junk →
   ∃ H', loopN (exec (callW F) K c11_21) K26b (l'.length + 1) vars H = some (.exit 2, V26b B' b es.length c es.length .junk (.v (.bool false)) .junk .junk .junk .junk .junk, H') ∧
    Dp H' b rl m (code ++ (goalsT g l').1) (goalsT g l').2 ∧ Gb B [b, rl, m] H H' := by
 have hll := hes.length
 intro l'
 induction l' with
 | nil =>
  intro i H code g vars hil _ cp hB _ _ _ hv
  have hil : i = es.length := by simpa using hil
  subst hil
  have hlt := lt_f (n := es.length)
  refine ⟨H, ?_, by simpa [goalsT] using cp, .refl H⟩
  rw [List.length_nil, Nat.zero_add]
  refine loop_exit ?_
  rw [hv]
  simp only [V26b, c11_21, c11_9, hlt, Q0, Q1, Q2, Q3, Q4, Q5, Q6, Q7, Q8, Q9, Q10, Q11, Q12, Q13, Q14, Q15, Q16, Q17, Q18, Q19, Q20, Q21, Q22, Q23, Q24, Q25, Q26, Q27, Q28, Q29, Q30, Q31, Q32, Q33, Q35, Q36, Q37, Q38, Q39, Q40, Q41, Q42, Q43, Q44, Q45, Q46, Q47, Q48, Q49, Q50, Q51, Q52, Q53, Q54, Q55, Q56, Q57, Q58, Q59, Q60, Q61, Q62, Q63, Q64, Q65, Q66, Q67, Q68, Q69, Q70, Q71, Q72, Q73, Q99, Q100, Q101, Q102, Q103, Q74, Q75, Q77, Q78, Q79, Q80, Q81, Q82, Q83, Q84, clr, List.length_nil, List.length_cons, List.getElem?_cons_zero, List.getElem?_cons_succ, Nat.reduceAdd, Nat.zero_add, Nat.add_zero, Nat.reduceLeDiff, Nat.reduceSub, ↓reduceIte, List.drop_succ_cons, List.drop_zero, List.take_succ_cons, List.take_zero, Bool.false_eq_true, List.nil_append, List.cons_append, Bool.not_true, Bool.not_false, cond_true, cond_false, bne, Q85, Q86, Q87, Q88, Q89, Q90, Q91, Q92, Q93, Q94, Q95, Q96, Q97, Q98, Q110, Q111, Q116, Q117, Q118, Q119, Q120, Q121, Q122, Q123, Option.map_some, Option.map_none, Q34]
 | cons t l' ih =>
  intro i H code g vars hil hd cp hB hcl hnx hml hv
  have hil' : i < es.length := by simp at hil; omega
  have hll' : i < l.length := by omega
  have hti : l[i] = t := by
   have h1 := List.drop_eq_getElem_cons hll'
   rw [← hd] at h1
   exact (List.cons.inj h1).1.symm
  have hd' : l' = l.drop (i + 1) := by
   have h1 := List.drop_eq_getElem_cons hll'
   rw [← hd] at h1
   exact (List.cons.inj h1).2
  have hT := hes.at hil' hll'
  rw [hti] at hT
  have htm : t ∈ l := by rw [← hti]; exact List.getElem_mem hll'
  have he : es[i]? = some es[i] := List.getElem?_eq_getElem hil'
  generalize es[i] = e at hT he
  have hf := hT.facts
  have hwt := wfL_mem hwf t htm
  have q1 := fun h : List AO => hs.ia he h
  have hlt := lt_t hil'
  have hw := wrap_succ hil' (small_maxM hm)
  have q9 : ∀ h : List AO, bx h 32 (ofVal (.agg #[(.int .i64 0), (.string ⟨#[]⟩), (.int .i64 0), (.slice none 0 0)])).cl = some (.ptr h.length 0, h ++ [.box 32 [.v (.int .i64 0), .v (.string ⟨#[]⟩), .v (.int .i64 0), .v (.slice none 0 0)]]) := fun h => by rw [q9z]; rfl
  rw [show (t :: l').length + 1 = (l'.length + 1) + 1 from rfl]
  simp only [zL] at hcl hnx hml
  simp only [List.length_cons] at hil
  have hz1 : 1 ≤ zT t := by cases t; rw [zT]; omega
  have hbe : AO.below 0 (.box 32 e.cells) = true := hT.bel
  have cpa := cp.app (l := [.box 32 e.cells]) (by simp [below_mono (Nat.zero_le _) _ hbe])
  have hgl := goalT_len hwt g
  have hgn := goalT_next g t
  have hgm := goalT_met g t
  -- what is to be shown of one goal
  suffices step : ∃ H2 vs2, exec (callW F) K c11_21 (V26b B' b es.length c i .junk .junk .junk .junk .junk .junk .junk) H = some (.normal, vs2, H2) ∧
    clr K26b vs2 = V26b B' b es.length c ((i + 1 : Nat) : Int) .junk .junk .junk .junk .junk .junk .junk ∧ Dp H2 b rl m (code ++ (goalT g t).1) (goalT g t).2 ∧ Gb B [b, rl, m] H H2 by
   obtain ⟨H2, vs2, st, hv2, cp2, hgb⟩ := step
   rw [loop_normal (by rw [hv]; exact st)]
   obtain ⟨H', k1, k2, k3⟩ := ih (i + 1) H2 _ _ vs2 (by omega) hd' cp2 (by have := hgb.1; omega) (by rw [List.length_append]; omega) (by omega) (by omega) hv2
   refine ⟨H', k1, ?_, hgb.trans k3⟩
   rw [goalsT]
   simp only
   rw [← List.append_assoc]
   exact k2
  cases hT with
  | mk k s n c2 l2 hc2 =>
  have hob : (H ++ [AO.box 32 [.v (.int .i64 k), .v (.string s), .v (.int .i64 n), c2]])[H.length]? = some (.box 32 [.v (.int .i64 k), .v (.string s), .v (.int .i64 n), c2]) := by simp
  have o0 := tm_ld0 hob
  have o1 := tm_ld1 hob
  have o3 := tm_ld3 hob
  have b22 : ∀ (vars env : List AV), evBuild vars env [.v (.int .i64 0), .v (.int .i64 0), .v (.int .i64 0), .v (.string ⟨#[]⟩), .v (.int .i64 0)] [(0, 1, (.k (.int .i64 22)))] = some [.v (.int .i64 22), .v (.int .i64 0), .v (.int .i64 0), .v (.string ⟨#[]⟩), .v (.int .i64 0)] := fun _ _ => rfl
  cases hcut : isCut (.mk k s n l2) with
  | true =>
   have hcut' := hcut
   simp only [isCut, Tm.k, Tm.s, Bool.and_eq_true] at hcut'
   have hk2 : (k == 2) = true := hcut'.1
   have hs2 : (s.toList == (⟨#[33]⟩ : ByteArray).toList) = true := hcut'.2
   obtain ⟨H2, g1, cp2, rs2⟩ := cpa.lay (by omega) ⟨22, 0, 0, nos, 0⟩
   refine ⟨H2, V26b B' b es.length c ((i + 1 : Nat) : Int) (.ptr H.length 0) (.v (.bool true)) (.v (.bool true)) .junk .junk .junk .junk, ?_, rfl, by rw [goalT, if_pos hcut]; exact cp2, (Gb.app hB _).trans rs2.gb⟩
   simp only [o5, nos, AV.cells] at g1
   simp only [AV.cells] at hf
   simp only [V26b, c11_21, c11_9, c11_10, c11_11, c11_12, c11_20, hlt, hw, q1, hf, q9, o0, o1, hk2, hs2, g1, b22, Q122, Q106, Q107, toL, e_callh, List.map_cons, List.map_nil, Q0, Q1, Q2, Q3, Q4, Q5, Q6, Q7, Q8, Q9, Q10, Q11, Q12, Q13, Q14, Q15, Q16, Q17, Q18, Q19, Q20, Q21, Q22, Q23, Q24, Q25, Q26, Q27, Q28, Q29, Q30, Q31, Q32, Q33, Q35, Q36, Q37, Q38, Q39, Q40, Q41, Q42, Q43, Q44, Q45, Q46, Q47, Q48, Q49, Q50, Q51, Q52, Q53, Q54, Q55, Q56, Q57, Q58, Q59, Q60, Q61, Q62, Q63, Q64, Q65, Q66, Q67, Q68, Q69, Q70, Q71, Q72, Q73, Q99, Q100, Q101, Q102, Q103, Q74, Q75, Q77, Q78, Q79, Q80, Q81, Q82, Q83, Q84, clr, List.length_nil, List.length_cons, List.getElem?_cons_zero, List.getElem?_cons_succ, Nat.reduceAdd, Nat.zero_add, Nat.add_zero, Nat.reduceLeDiff, Nat.reduceSub, ↓reduceIte, List.drop_succ_cons, List.drop_zero, List.take_succ_cons, List.take_zero, Bool.false_eq_true, List.nil_append, List.cons_append, Bool.not_true, Bool.not_false, cond_true, cond_false, bne, Q85, Q86, Q87, Q88, Q89, Q90, Q91, Q92, Q93, Q94, Q95, Q96, Q97, Q98, Q110, Q111, Q116, Q117, Q118, Q119, Q120, Q121, Q122, Q123, Option.map_some, Option.map_none]
  | false =>
   obtain ⟨es2, hs2, hes2, hm2⟩ := hc2.sl
   have hll2 := hes2.length
   have hzl := zL_len l2
   rw [zT] at hcl hnx hml
   have wl := hwt.l
   simp only [Tm.l] at wl
   have hargl := args_putT_len wl 0 g
   obtain ⟨H3, k1, cp3, gb3⟩ := arg2b_loop (K := K) (b := b) (rl := rl) (m := m) (B := H.length + 1) (B' := B') (G := H.length) (bn := es.length) (bc := c) (j := (i : Int)) hs2 hes2 wl (by omega) l2 0 (H ++ [.box 32 [.v (.int .i64 k), .v (.string s), .v (.int .i64 n), c2]]) code g
    [.junk, .ptr B' 0, .ptr (B' + 1) 0, .ptr b 0, .junk, .junk, .ptr H.length 0, .junk, .junk, .junk, .junk, .junk, .junk, c, .v (.int .i64 es.length), .v (.int .i64 i), .v (.bool true), .v (.bool false), c2, .v (.int .i64 es2.length), .v (.int .i64 0), .junk] (by omega) (by simp) cpa (by simp) (by omega) (by omega) (by omega) rfl
   have hno : H.length ∉ [b, rl, m] := by
    have := cp.mb
    simp; omega
   have hob3 : H3[H.length]? = some (.box 32 [.v (.int .i64 k), .v (.string s), .v (.int .i64 n), c2]) := by rw [gb3.2 _ (by omega) hno]; exact hob
   have p1 := tm_ld1 hob3
   have p3 := tm_ld3 hob3
   obtain ⟨H4, g4, cp4, rs4⟩ := cp3.lay (by rw [List.length_append]; omega) ⟨21, 0, 0, s, l2.length⟩
   have q2 := fun H : List AO => hs2.len H
   refine ⟨H4, V26b B' b es.length c ((i + 1 : Nat) : Int) (.ptr H.length 0) .junk .junk c2 (.v (.int .i64 es2.length)) (.v (.int .i64 es2.length)) (.v (.bool false)), ?_, rfl, ?_, ?_⟩
   ·have k1' : loopN (exec (callW F) K c11_18) K26c K [.junk, .ptr B' 0, .ptr (B' + 1) 0, .ptr b 0, .junk, .junk, .ptr H.length 0, .junk, .junk, .junk, .junk, .junk, .junk, c, .v (.int .i64 es.length), .v (.int .i64 i), .v (.bool true), .v (.bool false), c2, .v (.int .i64 es2.length), .v (.int .i64 0), .junk] (H ++ [.box 32 [.v (.int .i64 k), .v (.string s), .v (.int .i64 n), c2]]) = _ := loop_more k1 (by omega)
    have b21 : ∀ (vars env : List AV) (x1 x2 : AV), evBuild vars (.v (.int .i64 l2.length) :: x1 :: x2 :: .v (.string s) :: env) [.v (.int .i64 0), .v (.int .i64 0), .v (.int .i64 0), .v (.string ⟨#[]⟩), .v (.int .i64 0)] [(0, 1, (.k (.int .i64 21))), (3, 1, (.loc 3)), (4, 1, (.loc 0))] = some [.v (.int .i64 21), .v (.int .i64 0), .v (.int .i64 0), .v (.string s), .v (.int .i64 l2.length)] := fun _ _ _ _ => rfl
    simp only [o5] at g4
    simp only [AV.cells] at hf
    rw [← hll2] at b21 g4
    rw [show c11_21 = (.seq (.region [] [] c11_9) (.seq (.cond (.var 16) .skip (.exit 2)) (.seq (.block 3 (.seq (.region [] [] c11_10) (.seq (.seq (.region [] [] c11_11) (.cond (.var 17) (.seq (.region [] [] c11_12) (.exit 3)) .skip)) (.seq (.seq (.region [] [] c11_13) (.block 4 (.loop K26c [] c11_18))) (.region [] [] c11_19))))) (.region [] [] c11_20)))) from rfl]
    generalize c11_18 = bb1 at k1' ⊢
    have hx : (k == 2) = false ∨ ((k == 2) = true ∧ (s.toList == (⟨#[33]⟩ : ByteArray).toList) = false) := by
     have hc' : ((k == 2) && (s.toList == (⟨#[33]⟩ : ByteArray).toList)) = false := hcut
     cases h1 : (k == 2) with
     | false => exact .inl rfl
     | true =>
      rw [h1, Bool.true_and] at hc'
      exact .inr ⟨rfl, hc'⟩
    rcases hx with hk2 | ⟨hk2, hss⟩
    ·simp only [V26b, c11_9, c11_10, c11_11, c11_13, c11_19, c11_20, hlt, hw, q1, q2, hf, q9, o0, o1, o3, hk2, Q122, k1', V26c, p1, p3, b21, g4, Q106, Q107, toL, e_callh, List.map_cons, List.map_nil, Q0, Q1, Q2, Q3, Q4, Q5, Q6, Q7, Q8, Q9, Q10, Q11, Q12, Q13, Q14, Q15, Q16, Q17, Q18, Q19, Q20, Q21, Q22, Q23, Q24, Q25, Q26, Q27, Q28, Q29, Q30, Q31, Q32, Q33, Q35, Q36, Q37, Q38, Q39, Q40, Q41, Q42, Q43, Q44, Q45, Q46, Q47, Q48, Q49, Q50, Q51, Q52, Q53, Q54, Q55, Q56, Q57, Q58, Q59, Q60, Q61, Q62, Q63, Q64, Q65, Q66, Q67, Q68, Q69, Q70, Q71, Q72, Q73, Q99, Q100, Q101, Q102, Q103, Q74, Q75, Q77, Q78, Q79, Q80, Q81, Q82, Q83, Q84, clr, List.length_nil, List.length_cons, List.getElem?_cons_zero, List.getElem?_cons_succ, Nat.reduceAdd, Nat.zero_add, Nat.add_zero, Nat.reduceLeDiff, Nat.reduceSub, ↓reduceIte, List.drop_succ_cons, List.drop_zero, List.take_succ_cons, List.take_zero, Bool.false_eq_true, List.nil_append, List.cons_append, Bool.not_true, Bool.not_false, cond_true, cond_false, bne, Q85, Q86, Q87, Q88, Q89, Q90, Q91, Q92, Q93, Q94, Q95, Q96, Q97, Q98, Q110, Q111, Q116, Q117, Q118, Q119, Q120, Q121, Q122, Q123, Option.map_some, Option.map_none]
    ·simp only [V26b, c11_9, c11_10, c11_11, c11_13, c11_19, c11_20, hlt, hw, q1, q2, hf, q9, o0, o1, o3, hk2, hss, Q122, k1', V26c, p1, p3, b21, g4, Q106, Q107, toL, e_callh, List.map_cons, List.map_nil, Q0, Q1, Q2, Q3, Q4, Q5, Q6, Q7, Q8, Q9, Q10, Q11, Q12, Q13, Q14, Q15, Q16, Q17, Q18, Q19, Q20, Q21, Q22, Q23, Q24, Q25, Q26, Q27, Q28, Q29, Q30, Q31, Q32, Q33, Q35, Q36, Q37, Q38, Q39, Q40, Q41, Q42, Q43, Q44, Q45, Q46, Q47, Q48, Q49, Q50, Q51, Q52, Q53, Q54, Q55, Q56, Q57, Q58, Q59, Q60, Q61, Q62, Q63, Q64, Q65, Q66, Q67, Q68, Q69, Q70, Q71, Q72, Q73, Q99, Q100, Q101, Q102, Q103, Q74, Q75, Q77, Q78, Q79, Q80, Q81, Q82, Q83, Q84, clr, List.length_nil, List.length_cons, List.getElem?_cons_zero, List.getElem?_cons_succ, Nat.reduceAdd, Nat.zero_add, Nat.add_zero, Nat.reduceLeDiff, Nat.reduceSub, ↓reduceIte, List.drop_succ_cons, List.drop_zero, List.take_succ_cons, List.take_zero, Bool.false_eq_true, List.nil_append, List.cons_append, Bool.not_true, Bool.not_false, cond_true, cond_false, bne, Q85, Q86, Q87, Q88, Q89, Q90, Q91, Q92, Q93, Q94, Q95, Q96, Q97, Q98, Q110, Q111, Q116, Q117, Q118, Q119, Q120, Q121, Q122, Q123, Option.map_some, Option.map_none]
   ·rw [goalT, if_neg (by simp [hcut])]
    simp only [Tm.l, Tm.s]
    rw [← List.append_assoc]
    exact cp4
   ·refine (Gb.app hB _).trans (Gb.trans ⟨gb3.1, fun j h1 h2 => gb3.2 j (by omega) h2⟩ rs4.gb)

def hH2 (cc : List AV) : List AO := [.box 35 cc, .box 24 [.v (.string ⟨#[]⟩), .v (.int .i64 0), .v (.int .i64 0), .v (.slice none 0 0)], .box 68 [.own 5 3 0 0 0, .own 1 4 0 0 0, .v (.int .i64 16)], .row 41 5 0 [] 0, .row 2 1 0 [] 0]
theorem clause2_ok {ca : AV} {x : Cl} (hc : IsCl ca x) (w1 : wfL x.hd.l) (w2 : wfL x.body) (hz : zL x.hd.l + zL x.body ≤ 420000) : ∃ cd, callW F 11 [ca] [] = some (cd, []) ∧ IsCd cd (cdT x) := by
 cases hc with
 | mk k s n c l hcl b bl hbl vs =>
 simp only at w1 w2 hz
 simp only [Tm.l] at w1 hz
 obtain ⟨es, hs, hes, hm⟩ := hcl.sl
 obtain ⟨es2, hs2, hes2, hm2⟩ := hbl.sl
 have hll := hes.length
 have hll2 := hes2.length
 have z1 := zL_len l
 have z2 := zL_len bl
 obtain ⟨cc, hcc⟩ : ∃ cc, [AV.v (.int .i64 k), .v (.string s), .v (.int .i64 n), c, b, .v (.int .i64 vs)] = cc := ⟨_, rfl⟩
 have hbc : (AO.box 35 cc).below 5 = true := by rw [← hcc]; cases hcl <;> cases hbl <;> rfl
 have cp0 : Dp (hH2 cc) 2 3 4 [] ⟨[], 16⟩ := by
  refine ⟨⟨0, 0, ⟨0, rfl, rfl⟩, rfl, Nat.le_refl _⟩, ?_⟩
  have : (hH2 cc).length = 5 := rfl
  rw [this]
  simp only [hH2, List.all_cons, hbc, Bool.true_and]
  rfl
 obtain ⟨H1, k1, cp1, gb1⟩ := arg1b_loop (K := 900001) (B := 5) (B' := 0) hs hes w1 (by omega) l 0 (hH2 cc) [] ⟨[], 16⟩
  [.agg cc, .ptr 0 0, .ptr 1 0, .ptr 2 0, .v undef, .v undef, .v undef, .v undef, .v undef, c, .v (.int .i64 es.length), .v (.int .i64 0), .v undef, .v undef, .v undef, .v undef, .v undef, .v undef, .v undef, .v undef, .v undef, .v undef] (by omega) (by simp) cp0 (Nat.le_refl _) (by simp only [List.length_nil]; omega) (by simp only; omega) (by simp only [List.length_nil]; omega) rfl
 have l1 := args_getT_len w1 0 ⟨[], 16⟩
 have n1 := args_getT_next l 0 ⟨[], 16⟩
 have m1 := args_getT_met w1 0 ⟨[], 16⟩
 simp only [List.length_nil] at m1
 simp only [List.nil_append] at cp1
 obtain ⟨H2, k2, cp2, gb2⟩ := goalb_loop (K := 900001) (B := 5) (B' := 0) (Nat.le_refl _) hs2 hes2 w2 (by omega) bl 0 H1 _ _
  [.junk, .ptr 0 0, .ptr 1 0, .ptr 2 0, .junk, .junk, .junk, .junk, .junk, c, .v (.int .i64 es.length), .v (.int .i64 es.length), .v (.bool false), b, .v (.int .i64 es2.length), .v (.int .i64 0), .junk, .junk, .junk, .junk, .junk, .junk] (by omega) (by simp) cp1 gb1.1 (by omega) (by simp only at n1; omega) (by omega) rfl
 have l2 := goalsT_len w2 (args getT 0 ⟨[], 16⟩ l).2
 obtain ⟨H3, g3, cp3, rs3⟩ := cp2.lay (by rw [List.length_append]; omega) ⟨23, 0, 0, nos, 0⟩
 have gb3 := (gb1.trans gb2).trans rs3.gb
 have l5 : (hH2 cc).length = 5 := rfl
 have c0 : H1[0]? = some (.box 35 cc) := gb1.2 0 (by omega) (by simp)
 have e0 : H3[0]? = some (.box 35 cc) := gb3.2 0 (by omega) (by simp)
 have e1 : H3[1]? = some (.box 24 [.v (.string ⟨#[]⟩), .v (.int .i64 0), .v (.int .i64 0), .v (.slice none 0 0)]) := gb3.2 1 (by omega) (by simp)
 obtain ⟨v2, kk, ob3, _, _⟩ := cp3.ex
 obtain ⟨ver, o1, o2⟩ := ob3.ex
 have hcode : (args getT 0 ⟨[], 16⟩ l).1 ++ (goalsT (args getT 0 ⟨[], 16⟩ l).2 bl).1 ++ [⟨23, 0, 0, nos, 0⟩] = codeT ⟨.mk k s n l, bl, vs⟩ := rfl
 rw [hcode] at o1 o2
 have hlen : (codeT ⟨.mk k s n l, bl, vs⟩).length ≤ maxLen := by
  rw [← hcode, List.length_append, List.length_append, List.length_singleton]
  have : maxLen = 9223372036854775807 := rfl
  omega
 generalize hcde : codeT ⟨.mk k s n l, bl, vs⟩ = cde at *
 refine ⟨.agg [.v (.string s), .v (.int .i64 l.length), .v (.int .i64 vs), .slc 5 false false (cde.map o5)], ?_, ?_⟩
 ·refine callW_own (c := c11) rfl rfl 900001 ?_
  have ldh : ∀ {H : List AO}, H[0]? = some (.box 35 cc) → Q76 H false 1 (.ptr 0 3) = some c ∧ Q76 H false 1 (.ptr 0 4) = some b ∧ Q76 H false 1 (.ptr 0 1) = some (.v (.string s)) ∧ Q76 H false 1 (.ptr 0 5) = some (.v (.int .i64 vs)) := by
   intro H h
   rw [bx_ld h, bx_ld h, bx_ld h, bx_ld h, ← hcc]
   exact ⟨by simp [Q77], by simp [Q77], rfl, rfl⟩
  have f0 := ldh (H := hH2 cc) rfl
  have f1 := ldh c0
  have f3 := ldh e0
  have own1 : Q76 H3 false 1 (.ptr 2 0) = some (.own 5 3 ver 0 cde.length) := by rw [bx_ld o1]; simp [Q77]
  have sto : Q113 H3 4 (.ptr 1 0) (.agg [.v (.string s), .v (.int .i64 es.length), .v (.int .i64 vs), .own 5 3 ver 0 cde.length]) = some (H3.set 1 (.box 24 [.v (.string s), .v (.int .i64 es.length), .v (.int .i64 vs), .own 5 3 ver 0 cde.length])) := by
   rw [bx_st e1 (n := 4) (xs := [.v (.string s), .v (.int .i64 es.length), .v (.int .i64 vs), .own 5 3 ver 0 cde.length]) rfl rfl (by simp)]; rfl
  have hlt1 := (List.getElem?_eq_some_iff.1 e1).1
  have lvv : leave 0 c11 (some (.ret, [.junk, .ptr 0 0, .ptr 1 0, .ptr 2 0, .junk, .junk, .junk, .junk, .junk, .junk, .junk, .junk, .junk, b, .v (.int .i64 es2.length), .v (.int .i64 es2.length), .v (.bool false), .junk, .junk, .junk, .junk, .junk], H3.set 1 (.box 24 [.v (.string s), .v (.int .i64 es.length), .v (.int .i64 vs), .own 5 3 ver 0 cde.length]))) = some (.agg [.v (.string s), .v (.int .i64 l.length), .v (.int .i64 vs), .slc 5 false false (cde.map o5)], []) := by
   refine leave_cell2 (cs := [.v (.string s), .v (.int .i64 es.length), .v (.int .i64 vs), .own 5 3 ver 0 cde.length]) rfl rfl (by simp [hlt1]) rfl ?_
   have hr : (H3.set 1 (.box 24 [.v (.string s), .v (.int .i64 es.length), .v (.int .i64 vs), .own 5 3 ver 0 cde.length]))[3]? = some (.row 41 5 ver (cde.map o5) 0) := by
    rw [List.getElem?_set_ne (by omega)]; exact o2
   have : AV.frz0 0 (H3.set 1 (.box 24 [.v (.string s), .v (.int .i64 es.length), .v (.int .i64 vs), .own 5 3 ver 0 cde.length])) (.own 5 3 ver 0 cde.length) = some (.slc 5 false false (cde.map o5)) := by
    simp only [AV.frz0, Nat.not_lt_zero, if_false]
    rw [row_at hr (by simp)]
    simp only [List.drop_zero]
    rw [List.take_of_length_le (by simp)]
   rw [hll] at this ⊢
   simp only [List.mapM_cons, List.mapM_nil, this, Option.pure_def, Option.bind_eq_bind, Option.bind_some]
   rfl
  rw [show ([] : List AO).length = 0 from rfl, ← lvv]
  congr 1
  have q1 := fun H : List AO => hs.len H
  have q2 := fun H : List AO => hs2.len H
  have k1' : loopN (exec (callW F) 900001 c11_7) K26a 900001 _ _ = _ := loop_more k1 (by omega)
  have k2' : loopN (exec (callW F) 900001 c11_21) K26b 900001 _ _ = _ := loop_more k2 (by omega)
  have bld : ∀ (vars env : List AV) (x1 x2 x3 x5 x7 x8 x9 : AV), evBuild vars (.own 5 3 ver 0 cde.length :: x1 :: x2 :: x3 :: .v (.int .i64 vs) :: x5 :: .v (.int .i64 es.length) :: x7 :: x8 :: x9 :: .v (.string s) :: env) [.v (.string ⟨#[]⟩), .v (.int .i64 0), .v (.int .i64 0), .v (.slice none 0 0)] [(0, 1, (.loc 10)), (1, 1, (.loc 6)), (2, 1, (.loc 4)), (3, 1, (.loc 0))] = some [.v (.string s), .v (.int .i64 es.length), .v (.int .i64 vs), .own 5 3 ver 0 cde.length] := fun _ _ _ _ _ _ _ _ _ => rfl
  have b23 : ∀ (vars env : List AV), evBuild vars env [.v (.int .i64 0), .v (.int .i64 0), .v (.int .i64 0), .v (.string ⟨#[]⟩), .v (.int .i64 0)] [(0, 1, (.k (.int .i64 23)))] = some [.v (.int .i64 23), .v (.int .i64 0), .v (.int .i64 0), .v (.string ⟨#[]⟩), .v (.int .i64 0)] := fun _ _ => rfl
  have b97 : ∀ (vars env : List AV), evBuild vars env [.v (.slice none 0 0), .v (.slice none 0 0), .v (.int .i64 0)] [(2, 1, (.k (.int .i64 16)))] = some [.v (.slice none 0 0), .v (.slice none 0 0), .v (.int .i64 16)] := fun _ _ => rfl
  have mk : ∀ v : List AV, doMark (.agg cc :: .ptr 0 0 :: .ptr 1 0 :: .ptr 2 0 :: v, [.box 35 cc, .box 24 [.v (.string ⟨#[]⟩), .v (.int .i64 0), .v (.int .i64 0), .v (.slice none 0 0)], .box 68 [.v (.slice none 0 0), .v (.slice none 0 0), .v (.int .i64 16)]]) (.ap 3 0 41 5) = (.agg cc :: .ptr 0 0 :: .ptr 1 0 :: .ptr 2 0 :: v, [.box 35 cc, .box 24 [.v (.string ⟨#[]⟩), .v (.int .i64 0), .v (.int .i64 0), .v (.slice none 0 0)], .box 68 [.own 5 3 0 0 0, .v (.slice none 0 0), .v (.int .i64 16)], .row 41 5 0 [] 0]) := fun v => rfl
  have mk2 : ∀ v : List AV, doMark (.agg cc :: .ptr 0 0 :: .ptr 1 0 :: .ptr 2 0 :: v, [.box 35 cc, .box 24 [.v (.string ⟨#[]⟩), .v (.int .i64 0), .v (.int .i64 0), .v (.slice none 0 0)], .box 68 [.own 5 3 0 0 0, .v (.slice none 0 0), .v (.int .i64 16)], .row 41 5 0 [] 0]) (.ap 3 1 2 1) = (.agg cc :: .ptr 0 0 :: .ptr 1 0 :: .ptr 2 0 :: v, hH2 cc) := fun v => rfl
  rw [show c11.body = (.seq (.region [] [] c11_0) (.seq (.region [] [] c11_1) (.seq (.seq (.region [.ap 3 0 41 5, .ap 3 1 2 1] [] c11_2) (.block 0 (.loop K26a [] c11_7))) (.seq (.seq (.region [] [] c11_8) (.block 2 (.loop K26b [] c11_21))) (.seq (.region [] [] c11_22) (.seq (.region [] [] c11_23) .ret)))))) from rfl, hcc]
  simp only [o5, nos] at g3
  simp only [V26a, V26b] at k1' k2'
  generalize c11_7 = bb1 at k1' ⊢
  generalize c11_21 = bb2 at k2' ⊢
  simp only [c11, start, List.replicate, List.append_nil, List.nil_append, c11_0, c11_1, c11_2, c11_8, c11_22, c11_23, z4, Q34, Q110, b97, x_region_m, List.foldl_cons, List.foldl_nil, mk, mk2, marked_eq, f0, f1, f3, q1, q2, k1', k2', g3, b23, bld, own1, sto, Q106, Q107, toL, e_callh, List.map_cons, List.map_nil, Q0, Q1, Q2, Q3, Q4, Q5, Q6, Q7, Q8, Q9, Q10, Q11, Q12, Q13, Q14, Q15, Q16, Q17, Q18, Q19, Q20, Q21, Q22, Q23, Q24, Q25, Q26, Q27, Q28, Q29, Q30, Q31, Q32, Q33, Q35, Q36, Q37, Q38, Q39, Q40, Q41, Q42, Q43, Q44, Q45, Q46, Q47, Q48, Q49, Q50, Q51, Q52, Q53, Q54, Q55, Q56, Q57, Q58, Q59, Q60, Q61, Q62, Q63, Q64, Q65, Q66, Q67, Q68, Q69, Q70, Q71, Q72, Q73, Q99, Q100, Q101, Q102, Q103, Q74, Q75, Q77, Q78, Q79, Q80, Q81, Q82, Q83, Q84, clr, List.length_nil, List.length_cons, List.getElem?_cons_zero, List.getElem?_cons_succ, Nat.reduceAdd, Nat.zero_add, Nat.add_zero, Nat.reduceLeDiff, Nat.reduceSub, ↓reduceIte, List.drop_succ_cons, List.drop_zero, List.take_succ_cons, List.take_zero, Bool.false_eq_true, List.nil_append, List.cons_append, Bool.not_true, Bool.not_false, cond_true, cond_false, bne, Q85, Q86, Q87, Q88, Q89, Q90, Q91, Q92, Q93, Q94, Q95, Q96, Q97, Q98, Q110, Q111, Q116, Q117, Q118, Q119, Q120, Q121, Q122, Q123, Option.map_some, Option.map_none]
 ·simp only [cdT, hcde]
  exact .mk _ _ _ _ _ ⟨cde.map o5, .slc false false _, allR_o5 cde, by simpa using hlen⟩
end Go.AE.YtghgbbiklkpbnaaDoor
end

section
namespace Go.AE.YtghgbbiklkpbnaaDoor
open Go Go.AE Go.Proofs.YtghgbbiklkpbnaaDoor
set_option maxRecDepth 1000000 in
theorem live_n : callN F 40 5 [] [] = some (.v (.bool true), []) := by kernel_rfl
theorem live_ok : callW F 5 [] [] = some (.v (.bool true), []) := callW_iff.2 ⟨_, live_n⟩
end Go.AE.YtghgbbiklkpbnaaDoor
end

section
namespace Go.AE.YtghgbbiklkpbnaaDoor
open Go Go.AE Go.Proofs.YtghgbbiklkpbnaaDoor

theorem wrap_predM {m : Int} (h0 : 0 ≤ m) (h1 : m ≤ 1000000) : IntKind.i64.wrap (m - 1) = m - 1 := by
 rw [IntWalk.i64_in]; omega
mutual
theorem left_z : ∀ (t : Tm) (m : Int), 0 ≤ m → m ≤ 1000000 → -1 ≤ fewT t m ∧ fewT t m ≤ m ∧ (0 ≤ fewT t m → fewT t m + zT t = m)
 | .mk k s n l, m, h0, h1 => by
  rw [fewT, zT, wrap_predM h0 h1]
  have := leftL_z l (m - 1) (by omega) (by omega)
  refine ⟨this.1, by omega, fun h => ?_⟩
  have := this.2.2 h
  omega
theorem leftL_z : ∀ (l : List Tm) (m : Int), -1 ≤ m → m ≤ 1000000 → -1 ≤ fewL l m ∧ fewL l m ≤ m ∧ (0 ≤ fewL l m → fewL l m + zL l = m)
 | [], m, h0, h1 => by simp only [fewL, zL]; omega
 | t :: l, m, h0, h1 => by
  simp only [fewL, zL]
  by_cases hm : m < 0
  ·rw [if_pos hm]; omega
  ·rw [if_neg hm]
   have a := left_z t m (by omega) h1
   have b := leftL_z l (fewT t m) (by omega) (by omega)
   refine ⟨b.1, by omega, fun h => ?_⟩
   have := b.2.2 h
   have := a.2.2 (by omega)
   omega
end
theorem few_z {t : Tm} {m : Int} (h0 : 0 ≤ m) (hm : m ≤ 1000000) (h : decide (fewT t m ≥ 0) = true) : (zT t : Int) ≤ m := by
 have h1 : fewT t m ≥ 0 := of_decide_eq_true h
 have := (left_z t m h0 hm).2.2 h1
 omega
theorem noS_nos {s : ByteArray} (h : noS s = true) : s = nos := toL_inj (by simpa [noS, nos] using h)
mutual
theorem may_wf : ∀ t : Tm, mayT t = true → wfT t
 | .mk k s n l, h => by
  rw [mayT] at h
  rw [wfT]
  by_cases k1 : (k == 1) = true
  ·rw [if_pos k1] at h
   simp only [Bool.and_eq_true, beq_iff_eq] at h k1
   exact .inl ⟨k1, noS_nos h.2.1, List.length_eq_zero_iff.1 (by omega)⟩
  rw [if_neg k1] at h
  by_cases k2 : (k == 2) = true
  ·rw [if_pos k2] at h
   simp only [Bool.and_eq_true, beq_iff_eq] at h k2
   exact .inr (.inl ⟨k2, h.2.1, List.length_eq_zero_iff.1 (by omega)⟩)
  rw [if_neg k2] at h
  by_cases k3 : (k == 3) = true
  ·rw [if_pos k3] at h
   simp only [Bool.and_eq_true, beq_iff_eq] at h k3
   exact .inr (.inr (.inl ⟨k3, noS_nos h.2, List.length_eq_zero_iff.1 (by omega)⟩))
  rw [if_neg k3] at h
  by_cases k4 : (k == 4) = true
  ·rw [if_pos k4] at h
   simp only [Bool.and_eq_true, beq_iff_eq, Bool.not_eq_true', beq_eq_false_iff_ne, ne_eq] at h k4
   exact .inr (.inr (.inr ⟨k4, h.2.1, fun e => h.1 (by simp [e]), mayL_wf l h.2.2.2.2⟩))
  ·rw [if_neg k4] at h; cases h
theorem mayL_wf : ∀ l : List Tm, mayL l = true → wfL l
 | [], _ => trivial
 | t :: l, h => by
  rw [mayL, Bool.and_eq_true] at h
  rw [wfL]
  exact ⟨may_wf t h.1, mayL_wf l h.2⟩
end
theorem check_may {t : Tm} (h : checkT t = 0) : mayT t = true := by
 rw [checkT] at h
 by_cases hm : mayT t = true
 ·exact hm
 ·rw [if_neg hm] at h; simp at h
mutual
theorem bod_z : ∀ t : Tm, zL (bodT t) ≤ zT t
 | .mk k s n l => by
  have := bodL_z l
  rw [bodT]
  split
  ·rw [zT]; omega
  ·simp [zL]
theorem bodL_z : ∀ l : List Tm, zL (bodL l) ≤ zL l
 | [] => by simp [bodL]
 | t :: l => by
  have := bod_z t
  have := bodL_z l
  have e : ∀ a b : List Tm, zL (a ++ b) = zL a + zL b := by
   intro a b
   induction a with
   | nil => simp [zL]
   | cons x a ih => rw [List.cons_append, zL, zL, ih]; omega
  rw [bodL, e, zL]; omega
end
def mdT (t : Tm) : Cl := cutC (numT (varT t) t) (varT t).length
theorem made {t : Tm} {M : Nat} (hz : zT t ≤ M) (h : makeE t = 0) : wfC (mdT t) ∧ ((metC (mdT t)).length : Int) = (mdT t).vars ∧ zT (mdT t).hd + zL (mdT t).body ≤ M := by
 rw [makeE] at h
 by_cases hc : checkT t = 0
 ·rw [if_pos hc] at h
  have wf := may_wf t (check_may hc)
  have hzn := num_size (varT t) t
  have key : goalB (mdT t).hd = true ∧ (∀ g ∈ (mdT t).body, goalB g = true) ∧ (mdT t).vars = (varT t).length ∧ zT (mdT t).hd + zL (mdT t).body ≤ M := by
   rw [mdT]
   have hd0 : ∀ u : Tm, headE u = 0 → goalB u = true := by
    intro u hu
    rw [headE] at hu
    cases hg : goalB u with
    | true => rfl
    | false => rw [hg] at hu; simp at hu
   by_cases h2 : is2 (numT (varT t) t) neck = true
   ·rw [if_pos h2] at h
    have h2' := is2_iff.1 h2
    rw [cutC, if_pos h2]
    by_cases hg : goalsE ((numT (varT t) t).l.getD 1 zeroT) = 0
    ·rw [if_pos hg] at h
     refine ⟨hd0 _ h, ?_, rfl, ?_⟩
     ·rw [goalsE] at hg
      by_cases hcg : checkT ((numT (varT t) t).l.getD 1 zeroT) = 0
      ·rw [if_pos hcg] at hg
       by_cases ha : (bodT ((numT (varT t) t).l.getD 1 zeroT)).all goalB = true
       ·exact fun g hm => List.all_eq_true.1 ha g hm
       ·rw [if_neg ha] at hg; simp at hg
      ·rw [if_neg hcg] at hg; exact absurd hg hcg
     ·have hb := bod_z ((numT (varT t) t).l.getD 1 zeroT)
      have hl := h2'.2.2
      simp only
      generalize numT (varT t) t = u at *
      cases u with
      | mk k s n l =>
      simp only [Tm.l] at hl hb ⊢
      match l, hl with
      | [x, y], _ =>
       simp only [List.getD_cons_zero, List.getD_cons_succ] at hb ⊢
       simp only [zT, zL] at hzn
       omega
    ·rw [if_neg hg] at h; exact absurd h hg
   ·rw [if_neg h2] at h
    rw [cutC, if_neg h2]
    exact ⟨hd0 _ h, by simp, rfl, by simp only [zL]; omega⟩
  refine ⟨(made_ok wf key.1 key.2.1).1, ?_, key.2.2.2⟩
  rw [key.2.2.1]
  have := made_count wf key.1 key.2.1
  exact congrArg _ this
 ·rw [if_neg hc] at h; exact absurd h hc
theorem wfC_l {c : Cl} (h : wfC c) : wfL c.hd.l ∧ wfL c.body := by
 refine ⟨h.hd.1.l, ?_⟩
 have hb := h.body
 generalize c.body = l at hb
 induction l with
 | nil => trivial
 | cons t l ih => rw [wfL]; exact ⟨(hb t (by simp)).1, ih fun u hu => hb u (by simp [hu])⟩
theorem cl_snap {a : AV} {x : Cl} (h : IsCl a x) (H : List AO) : a.snap1 H = some a := by
 cases h with
 | mk k s n c l hc b bl hb vs => cases hc <;> cases hb <;> rfl
theorem cd_snap {a : AV} {x : Cd} (h : IsCd a x) (H : List AO) : a.snap1 H = some a := by
 cases h with
 | mk s ar v c l hc =>
  obtain ⟨es, hs, _, _⟩ := hc
  cases hs <;> rfl
theorem six_zero : (ofVal (.agg #[(.int .i64 0), (.string ⟨#[]⟩), (.int .i64 0), (.slice none 0 0), (.slice none 0 0), (.int .i64 0)])).cl = some zero6 := by simp [ofVal, AV.cl, Value.oneCell', zero6]
theorem st6 {h : List AO} {ca : AV} (h6 : Six ca) : Q113 (h ++ [.box 35 zero6]) 6 (.ptr h.length 0) ca = some (h ++ [.box 35 ca.cells]) := st_new h6.1 h6.2 rfl
theorem cl_load {h G : List AO} {ca : AV} {x : Cl} (hc : IsCl ca x) : Q76 (h ++ (.box 35 ca.cells :: G)) true 6 (.ptr h.length 0) = some ca := by
 rw [bx_ld (id := h.length) (bt := 35) (cs := ca.cells) (by simp)]
 cases hc; rfl
end Go.AE.YtghgbbiklkpbnaaDoor
end

section
namespace Go.AE.YtghgbbiklkpbnaaDoor.Chk
open Go Go.AE Go.Proofs.YtghgbbiklkpbnaaDoor

abbrev MR := Nat × List (Value × AV)
def upd (k : Value) (x : AV) (R : MR) : MR := (R.1, Go.AE.upd k x R.2)
def m0 : MR := (0, [])
def clrR (R : MR) : MR := (R.1 + R.2.length, [])
def Seen (k : IntKind) (R : MR) (S : List Int) : Prop := Go.AE.Seen k R.2 S
theorem Seen.nil (k : IntKind) : Seen k m0 [] := Go.AE.Seen.nil k
theorem Seen.clr {k : IntKind} (R : MR) : Seen k (clrR R) [] := Go.AE.Seen.nil k
theorem Seen.add {k : IntKind} {R : MR} {S : List Int} (h : Seen k R S) (a : Int) : Seen k (upd (.int k a) (.v (.bool true)) R) (a :: S) := Go.AE.Seen.add h a
abbrev In := Op5
inductive IsIn : AV → In → Prop
 | mk (op a b : Int) (nm : ByteArray) (n : Int) : IsIn (.agg [.v (.int .i64 op), .v (.int .i64 a), .v (.int .i64 b), .v (.string nm), .v (.int .i64 n)]) ⟨op, a, b, nm, n⟩
def inC (i : In) : List AV := [.v (.int .i64 i.op), .v (.int .i64 i.a), .v (.int .i64 i.b), .v (.string i.nm), .v (.int .i64 i.n)]
def inV (i : In) : AV := .agg (inC i)
theorem IsIn.eq {a : AV} {i : In} (h : IsIn a i) : a = inV i := by cases h; rfl
theorem isIn (i : In) : IsIn (inV i) i := .mk _ _ _ _ _
def vH (c0 : AV) (c1 c2 : Int) (c3 : AV) (R N : MR) (p o u : Int) (hd ov : Bool) (T : List AO) : List AO :=
 .box 24 [c0, .v (.int .i64 c1), .v (.int .i64 c2), c3] :: .map (.int .i64) R.1 R.2 :: .map (.int .i64) N.1 N.2 :: .box 46 [c0, .v (.int .i64 c1), .v (.int .i64 c2), c3, .mp 1, .mp 2, .v (.int .i64 p), .v (.int .i64 o), .v (.int .i64 u), .v (.bool hd), .v (.bool ov)] :: T
section
variable {c0 c3 : AV} {c1 c2 : Int} {R N : MR} {p o u : Int} {hd ov : Bool} {T : List AO}
theorem v_len : (vH c0 c1 c2 c3 R N p o u hd ov T).length = T.length + 4 := rfl
theorem v_ld2 : Q76 (vH c0 c1 c2 c3 R N p o u hd ov T) false 1 (.ptr 3 2) = some (.v (.int .i64 c2)) := rfl
theorem v_ld4 : Q76 (vH c0 c1 c2 c3 R N p o u hd ov T) false 1 (.ptr 3 4) = some (.mp 1) := rfl
theorem v_ld5 : Q76 (vH c0 c1 c2 c3 R N p o u hd ov T) false 1 (.ptr 3 5) = some (.mp 2) := rfl
theorem v_ld6 : Q76 (vH c0 c1 c2 c3 R N p o u hd ov T) false 1 (.ptr 3 6) = some (.v (.int .i64 p)) := rfl
theorem v_ld7 : Q76 (vH c0 c1 c2 c3 R N p o u hd ov T) false 1 (.ptr 3 7) = some (.v (.int .i64 o)) := rfl
theorem v_ld8 : Q76 (vH c0 c1 c2 c3 R N p o u hd ov T) false 1 (.ptr 3 8) = some (.v (.int .i64 u)) := rfl
theorem v_ld9 : Q76 (vH c0 c1 c2 c3 R N p o u hd ov T) false 1 (.ptr 3 9) = some (.v (.bool hd)) := rfl
theorem v_ld10 : Q76 (vH c0 c1 c2 c3 R N p o u hd ov T) false 1 (.ptr 3 10) = some (.v (.bool ov)) := rfl
theorem v_st6 {q : Int} : Q113 (vH c0 c1 c2 c3 R N p o u hd ov T) 1 (.ptr 3 6) (.v (.int .i64 q)) = some (vH c0 c1 c2 c3 R N q o u hd ov T) := rfl
theorem v_st7 {q : Int} : Q113 (vH c0 c1 c2 c3 R N p o u hd ov T) 1 (.ptr 3 7) (.v (.int .i64 q)) = some (vH c0 c1 c2 c3 R N p q u hd ov T) := rfl
theorem v_st8 {q : Int} : Q113 (vH c0 c1 c2 c3 R N p o u hd ov T) 1 (.ptr 3 8) (.v (.int .i64 q)) = some (vH c0 c1 c2 c3 R N p o q hd ov T) := rfl
theorem v_st9 {q : Bool} : Q113 (vH c0 c1 c2 c3 R N p o u hd ov T) 1 (.ptr 3 9) (.v (.bool q)) = some (vH c0 c1 c2 c3 R N p o u q ov T) := rfl
theorem v_st10 {q : Bool} : Q113 (vH c0 c1 c2 c3 R N p o u hd ov T) 1 (.ptr 3 10) (.v (.bool q)) = some (vH c0 c1 c2 c3 R N p o u hd q T) := rfl
theorem v_bx {cs : List AV} : bx (vH c0 c1 c2 c3 R N p o u hd ov T) 41 (some cs) = some (.ptr (T.length + 4) 0, vH c0 c1 c2 c3 R N p o u hd ov (T ++ [.box 41 cs])) := rfl
theorem v_at {x : AO} : (vH c0 c1 c2 c3 R N p o u hd ov (T ++ [x]))[T.length + 4]? = some x := by simp [vH]
theorem v_l0 {i : In} : Q76 (vH c0 c1 c2 c3 R N p o u hd ov (T ++ [.box 41 (inC i)])) false 1 (.ptr (T.length + 4) 0) = some (.v (.int .i64 i.op)) := by simp only [Q76, v_at]; rfl
theorem v_l1 {i : In} : Q76 (vH c0 c1 c2 c3 R N p o u hd ov (T ++ [.box 41 (inC i)])) false 1 (.ptr (T.length + 4) 1) = some (.v (.int .i64 i.a)) := by simp only [Q76, v_at]; rfl
theorem v_l2 {i : In} : Q76 (vH c0 c1 c2 c3 R N p o u hd ov (T ++ [.box 41 (inC i)])) false 1 (.ptr (T.length + 4) 2) = some (.v (.int .i64 i.b)) := by simp only [Q76, v_at]; rfl
theorem v_l3 {i : In} : Q76 (vH c0 c1 c2 c3 R N p o u hd ov (T ++ [.box 41 (inC i)])) false 1 (.ptr (T.length + 4) 3) = some (.v (.string i.nm)) := by simp only [Q76, v_at]; rfl
theorem v_l4 {i : In} : Q76 (vH c0 c1 c2 c3 R N p o u hd ov (T ++ [.box 41 (inC i)])) false 1 (.ptr (T.length + 4) 4) = some (.v (.int .i64 i.n)) := by simp only [Q76, v_at]; rfl
theorem v_la {i : In} : Q76 (vH c0 c1 c2 c3 R N p o u hd ov (T ++ [.box 41 (inC i)])) true 5 (.ptr (T.length + 4) 0) = some (inV i) := by simp only [Q76, v_at]; rfl
theorem v_sti {i : In} {z : List AV} (hz : z.length = 5) : Q113 (vH c0 c1 c2 c3 R N p o u hd ov (T ++ [.box 41 z])) 5 (.ptr (T.length + 4) 0) (inV i) = some (vH c0 c1 c2 c3 R N p o u hd ov (T ++ [.box 41 (inC i)])) :=
 st_new (h := vH c0 c1 c2 c3 R N p o u hd ov T) (show (inV i).cl = some (inC i) from rfl) (show (inC i).length = 5 from rfl) hz
theorem v_lk1 {S : List Int} (h : Seen .i64 R S) (n : Int) : evLook (vH c0 c1 c2 c3 R N p o u hd ov T) (.int .i64) (.bool false) false (.mp 1) (.v (.int .i64 n)) = some (.v (.bool (S.contains n))) := Go.AE.Seen.look h rfl n
theorem v_lk2 {S : List Int} (h : Seen .i64 N S) (n : Int) : evLook (vH c0 c1 c2 c3 R N p o u hd ov T) (.int .i64) (.bool false) false (.mp 2) (.v (.int .i64 n)) = some (.v (.bool (S.contains n))) := Go.AE.Seen.look h rfl n
theorem v_up1 {n : Int} : evUpd (vH c0 c1 c2 c3 R N p o u hd ov T) (.int .i64) (.mp 1) (.v (.int .i64 n)) (.v (.bool true)) = some (vH c0 c1 c2 c3 (upd (.int .i64 n) (.v (.bool true)) R) N p o u hd ov T) := Go.AE.upd_map (y := .v (.bool true)) rfl n rfl
theorem v_up2 {n : Int} : evUpd (vH c0 c1 c2 c3 R N p o u hd ov T) (.int .i64) (.mp 2) (.v (.int .i64 n)) (.v (.bool true)) = some (vH c0 c1 c2 c3 R (upd (.int .i64 n) (.v (.bool true)) N) p o u hd ov T) := Go.AE.upd_map (y := .v (.bool true)) rfl n rfl
theorem v_clr : evClrM (vH c0 c1 c2 c3 R N p o u hd ov T) (.mp 1) = some (vH c0 c1 c2 c3 (clrR R) N p o u hd ov T) := rfl
theorem e_clrmap {call : CallF} {vars env : List AV} {h : List AO} {m : Opd} : evOp call vars env h (.clrmap m) = stH (evClrM h (getO vars env m)) := by
 simp only [evOp]; cases evClrM h (getO vars env m) <;> rfl
theorem v_app : vH c0 c1 c2 c3 R N p o u hd ov T ++ [] = vH c0 c1 c2 c3 R N p o u hd ov T := by simp
theorem v_below (h0 : c0.below1 0 = true) (h3 : c3.below1 0 = true) (hT : T.all (AO.below 0) = true) : (vH c0 c1 c2 c3 R N p o u hd ov T).all (AO.below (T.length + 4)) = true := by
 have m0 : ∀ x : AV, x.below1 0 = true → x.below1 (T.length + 4) = true := fun x h => by
  have := all_below_mono (n := 0) (m := T.length + 4) (by omega) (H := [.box 24 [x]]) (by simpa [AO.below] using h)
  simpa [AO.below] using this
 have := all_below_mono (n := 0) (m := T.length + 4) (by omega) hT
 simp only [vH, List.all_cons, this, AO.below, List.all_nil, m0 c0 h0, m0 c3 h3, Bool.and_true, Bool.true_and]
 simp [AV.below1, AV.below0]
theorem v_leave {c : CFun} {vars : List AV} {l : List AO} {x : Value} (h0 : c0.below1 0 = true) (h3 : c3.below1 0 = true) (hT : T.all (AO.below 0) = true) {i : Nat} (hc : c.res = [.var i]) (hx : getO vars [] (.var i) = .v x) : leave (T.length + 4) c (some (.ret, vars, vH c0 c1 c2 c3 R N p o u hd ov (T ++ l))) = some (.v x, vH c0 c1 c2 c3 R N p o u hd ov T) := by
 have h := (show vH c0 c1 c2 c3 R N p o u hd ov (T ++ l) = (vH c0 c1 c2 c3 R N p o u hd ov T) ++ l from rfl)
 rw [h, leave_own (B := T.length + 4) rfl (v_below h0 h3 hT), hc]
 have h1 : resOf vars (vH c0 c1 c2 c3 R N p o u hd ov T ++ l) (.var i) = some (.v x) := by
  have : resOf vars (vH c0 c1 c2 c3 R N p o u hd ov T ++ l) (.var i) = some (getO vars [] (.var i)) := rfl
  rw [this, hx]
 rw [own_res1 h1]
 exact lvo_one rfl
end
end Go.AE.YtghgbbiklkpbnaaDoor.Chk
end

section
namespace Go.AE.YtghgbbiklkpbnaaDoor.Chk
open Go Go.AE Go.Proofs.YtghgbbiklkpbnaaDoor

def rowT (op : Int) : Int × Int × Bool :=
 if op < 1 ∨ op > 23 then (0, 0, false) else if op ≥ 21 then (4, op - 21, true) else ((op - 1) / 5, (op - 1) % 5, true)
def rowV (r : Int × Int × Bool) : AV := .tup [.v (.int .i64 r.1), .v (.int .i64 r.2.1), .v (.bool r.2.2)]
theorem row_ok (op : Int) : callW F 13 [.v (.int .i64 op)] [] = some (rowV (rowT op), []) := by
 by_cases h1 : op < 1
 ·have d1 : decide (op < 1) = true := by simpa using h1
  have e : rowT op = (0, 0, false) := by simp [rowT, h1]
  rw [e]
  refine callW_pure (c := c13) rfl rfl 0 ?_
  simp only [c13, start, List.replicate, c13_0, c13_1, c13_2, d1, Q0, Q1, Q2, Q3, Q4, Q5, Q6, Q7, Q8, Q9, Q10, Q11, Q12, Q13, Q14, Q15, Q16, Q17, Q18, Q19, Q20, Q21, Q22, Q23, Q24, Q25, Q26, Q27, Q28, Q29, Q30, Q31, Q32, Q33, Q35, Q36, Q37, Q38, Q39, Q40, Q41, Q42, Q43, Q44, Q45, Q46, Q47, Q48, Q49, Q50, Q51, Q52, Q53, Q54, Q55, Q56, Q57, Q58, Q59, Q60, Q61, Q62, Q63, Q64, Q65, Q66, Q67, Q68, Q69, Q70, Q71, Q72, Q73, Q99, Q100, Q101, Q102, Q103, Q74, Q75, Q77, Q78, Q79, Q80, Q81, Q82, Q83, Q84, clr, List.length_nil, List.length_cons, List.getElem?_cons_zero, List.getElem?_cons_succ, Nat.reduceAdd, Nat.zero_add, Nat.add_zero, Nat.reduceLeDiff, Nat.reduceSub, ↓reduceIte, List.drop_succ_cons, List.drop_zero, List.take_succ_cons, List.take_zero, Bool.false_eq_true, List.nil_append, List.cons_append, Bool.not_true, Bool.not_false, cond_true, cond_false, bne, Q85, Q86, Q87, Q88, Q89, Q90, Q91, Q92, Q93, Q94, Q95, Q96, Q97, Q98, Q110, Q111, Q116, Q117, Q118, Q119, Q120, Q121, Q122, Q123, Option.map_some, Option.map_none, Q34]
  rfl
 ·by_cases h2 : op > 23
  ·have d1 : decide (op < 1) = false := by simpa using h1
   have d2 : decide (op > 23) = true := by simpa using h2
   have e : rowT op = (0, 0, false) := by simp [rowT, h2]
   rw [e]
   refine callW_pure (c := c13) rfl rfl 0 ?_
   simp only [c13, start, List.replicate, c13_0, c13_1, c13_2, d1, d2, Q0, Q1, Q2, Q3, Q4, Q5, Q6, Q7, Q8, Q9, Q10, Q11, Q12, Q13, Q14, Q15, Q16, Q17, Q18, Q19, Q20, Q21, Q22, Q23, Q24, Q25, Q26, Q27, Q28, Q29, Q30, Q31, Q32, Q33, Q35, Q36, Q37, Q38, Q39, Q40, Q41, Q42, Q43, Q44, Q45, Q46, Q47, Q48, Q49, Q50, Q51, Q52, Q53, Q54, Q55, Q56, Q57, Q58, Q59, Q60, Q61, Q62, Q63, Q64, Q65, Q66, Q67, Q68, Q69, Q70, Q71, Q72, Q73, Q99, Q100, Q101, Q102, Q103, Q74, Q75, Q77, Q78, Q79, Q80, Q81, Q82, Q83, Q84, clr, List.length_nil, List.length_cons, List.getElem?_cons_zero, List.getElem?_cons_succ, Nat.reduceAdd, Nat.zero_add, Nat.add_zero, Nat.reduceLeDiff, Nat.reduceSub, ↓reduceIte, List.drop_succ_cons, List.drop_zero, List.take_succ_cons, List.take_zero, Bool.false_eq_true, List.nil_append, List.cons_append, Bool.not_true, Bool.not_false, cond_true, cond_false, bne, Q85, Q86, Q87, Q88, Q89, Q90, Q91, Q92, Q93, Q94, Q95, Q96, Q97, Q98, Q110, Q111, Q116, Q117, Q118, Q119, Q120, Q121, Q122, Q123, Option.map_some, Option.map_none, Q34]
   rfl
  ·have h : op = 1 ∨ op = 2 ∨ op = 3 ∨ op = 4 ∨ op = 5 ∨ op = 6 ∨ op = 7 ∨ op = 8 ∨ op = 9 ∨ op = 10 ∨ op = 11 ∨ op = 12 ∨ op = 13 ∨ op = 14 ∨ op = 15 ∨ op = 16 ∨ op = 17 ∨ op = 18 ∨ op = 19 ∨ op = 20 ∨ op = 21 ∨ op = 22 ∨ op = 23 := by omega
   rcases h with rfl | rfl | rfl | rfl | rfl | rfl | rfl | rfl | rfl | rfl | rfl | rfl | rfl | rfl | rfl | rfl | rfl | rfl | rfl | rfl | rfl | rfl | rfl <;> exact callW_iff.2 ⟨3, by kernel_rfl⟩

def standsT (S : List Int) (p o : Int) (hd : Bool) (r k : Int) (i : In) : Bool :=
 if r = 0 then hd && ((p == 0) && S.contains i.a)
 else if r = 1 ∨ r = 3 then decide (p > 0) && (o == r - 1)
 else if r = 2 then (p == 0) && (decide (i.a ≥ 0) && ((decide (i.a < 16) || (k == 4)) && (hd || !(S.contains i.a))))
 else p == 0
section
variable {c0 c3 : AV} {c1 c2 : Int} {R N : MR} {p o u : Int} {hd ov : Bool} {T : List AO} {S : List Int}
theorem stands_ok (h0 : c0.below1 0 = true) (h3 : c3.below1 0 = true) (hT : T.all (AO.below 0) = true) (hR : Seen .i64 R S) {r k : Int} (hr : 0 ≤ r ∧ r ≤ 4) (i : In) :
  callW F 14 [.ptr 3 0, .v (.int .i64 r), .v (.int .i64 k), inV i] (vH c0 c1 c2 c3 R N p o u hd ov T) = some (.v (.bool (standsT S p o hd r k i)), vH c0 c1 c2 c3 R N p o u hd ov T) := by
 refine callW_own (c := c14) rfl rfl 0 ?_
 have cl := (show (inV i).cl = some (inC i) from rfl)
 have key : ∀ vars : List AV, getO vars [] (.var 5) = .v (.bool (standsT S p o hd r k i)) → leave (T.length + 4) c14 (some (.ret, vars, vH c0 c1 c2 c3 R N p o u hd ov (T ++ [.box 41 (inC i)]))) = some (.v (.bool (standsT S p o hd r k i)), vH c0 c1 c2 c3 R N p o u hd ov T) :=
  fun vars hx => v_leave h0 h3 hT rfl hx
 rw [v_app, v_len]
 obtain ⟨x, hx⟩ : ∃ x, x = S.contains i.a := ⟨_, rfl⟩
 have lk := fun T => v_lk1 (c0 := c0) (c1 := c1) (c2 := c2) (c3 := c3) (N := N) (p := p) (o := o) (u := u) (hd := hd) (ov := ov) (T := T) hR i.a
 rw [← hx] at lk
 have hr5 : r = 0 ∨ r = 1 ∨ r = 2 ∨ r = 3 ∨ r = 4 := by omega
 rcases hr5 with rfl | rfl | rfl | rfl | rfl
 ·have e : standsT S p o hd 0 k i = (hd && ((p == 0) && x)) := by rw [hx]; simp [standsT]
  rw [e] at key ⊢
  cases hd <;> cases hp : (p == 0) <;> rw [hp] at key <;>
   simp only [c14, start, List.replicate, c14_0, c14_1, c14_2, c14_3, cl, v_bx, v_ld9, v_ld6, v_ld4, v_l1, hp, lk, e_lookup, Int.reduceBEq, Q0, Q1, Q2, Q3, Q4, Q5, Q6, Q7, Q8, Q9, Q10, Q11, Q12, Q13, Q14, Q15, Q16, Q17, Q18, Q19, Q20, Q21, Q22, Q23, Q24, Q25, Q26, Q27, Q28, Q29, Q30, Q31, Q32, Q33, Q35, Q36, Q37, Q38, Q39, Q40, Q41, Q42, Q43, Q44, Q45, Q46, Q47, Q48, Q49, Q50, Q51, Q52, Q53, Q54, Q55, Q56, Q57, Q58, Q59, Q60, Q61, Q62, Q63, Q64, Q65, Q66, Q67, Q68, Q69, Q70, Q71, Q72, Q73, Q99, Q100, Q101, Q102, Q103, Q74, Q75, Q77, Q78, Q79, Q80, Q81, Q82, Q83, Q84, clr, List.length_nil, List.length_cons, List.getElem?_cons_zero, List.getElem?_cons_succ, Nat.reduceAdd, Nat.zero_add, Nat.add_zero, Nat.reduceLeDiff, Nat.reduceSub, ↓reduceIte, List.drop_succ_cons, List.drop_zero, List.take_succ_cons, List.take_zero, Bool.false_eq_true, List.nil_append, List.cons_append, Bool.not_true, Bool.not_false, cond_true, cond_false, bne, Q85, Q86, Q87, Q88, Q89, Q90, Q91, Q92, Q93, Q94, Q95, Q96, Q97, Q98, Q110, Q111, Q116, Q117, Q118, Q119, Q120, Q121, Q122, Q123, Option.map_some, Option.map_none] <;>
   exact key _ rfl
 ·have e : standsT S p o hd 1 k i = (decide (p > 0) && (o == 0)) := by simp [standsT]
  have hw : IntKind.i64.wrap (1 - 1) = 0 := by decide
  rw [e] at key ⊢
  cases hp : decide (p > 0) <;> rw [hp] at key <;>
   simp only [c14, start, List.replicate, c14_0, c14_1, c14_2, c14_4, c14_6, cl, v_bx, v_ld6, v_ld7, hp, hw, Int.reduceBEq, Q0, Q1, Q2, Q3, Q4, Q5, Q6, Q7, Q8, Q9, Q10, Q11, Q12, Q13, Q14, Q15, Q16, Q17, Q18, Q19, Q20, Q21, Q22, Q23, Q24, Q25, Q26, Q27, Q28, Q29, Q30, Q31, Q32, Q33, Q35, Q36, Q37, Q38, Q39, Q40, Q41, Q42, Q43, Q44, Q45, Q46, Q47, Q48, Q49, Q50, Q51, Q52, Q53, Q54, Q55, Q56, Q57, Q58, Q59, Q60, Q61, Q62, Q63, Q64, Q65, Q66, Q67, Q68, Q69, Q70, Q71, Q72, Q73, Q99, Q100, Q101, Q102, Q103, Q74, Q75, Q77, Q78, Q79, Q80, Q81, Q82, Q83, Q84, clr, List.length_nil, List.length_cons, List.getElem?_cons_zero, List.getElem?_cons_succ, Nat.reduceAdd, Nat.zero_add, Nat.add_zero, Nat.reduceLeDiff, Nat.reduceSub, ↓reduceIte, List.drop_succ_cons, List.drop_zero, List.take_succ_cons, List.take_zero, Bool.false_eq_true, List.nil_append, List.cons_append, Bool.not_true, Bool.not_false, cond_true, cond_false, bne, Q85, Q86, Q87, Q88, Q89, Q90, Q91, Q92, Q93, Q94, Q95, Q96, Q97, Q98, Q110, Q111, Q116, Q117, Q118, Q119, Q120, Q121, Q122, Q123, Option.map_some, Option.map_none] <;>
   exact key _ rfl
 ·have e : standsT S p o hd 2 k i = ((p == 0) && (decide (i.a ≥ 0) && ((decide (i.a < 16) || (k == 4)) && (hd || !x)))) := by rw [hx]; simp [standsT]
  rw [e] at key ⊢
  cases hp : (p == 0) <;> cases ha : decide (i.a ≥ 0) <;> cases hb : decide (i.a < 16) <;> cases hk : (k == 4) <;> cases hd <;> rw [hp, ha, hb, hk] at key <;>
   simp only [c14, start, List.replicate, c14_0, c14_1, c14_2, c14_4, c14_5, c14_7, c14_8, cl, v_bx, v_ld9, v_ld6, v_ld4, v_l1, hp, ha, hb, hk, lk, e_lookup, Q122, Int.reduceBEq, Q0, Q1, Q2, Q3, Q4, Q5, Q6, Q7, Q8, Q9, Q10, Q11, Q12, Q13, Q14, Q15, Q16, Q17, Q18, Q19, Q20, Q21, Q22, Q23, Q24, Q25, Q26, Q27, Q28, Q29, Q30, Q31, Q32, Q33, Q35, Q36, Q37, Q38, Q39, Q40, Q41, Q42, Q43, Q44, Q45, Q46, Q47, Q48, Q49, Q50, Q51, Q52, Q53, Q54, Q55, Q56, Q57, Q58, Q59, Q60, Q61, Q62, Q63, Q64, Q65, Q66, Q67, Q68, Q69, Q70, Q71, Q72, Q73, Q99, Q100, Q101, Q102, Q103, Q74, Q75, Q77, Q78, Q79, Q80, Q81, Q82, Q83, Q84, clr, List.length_nil, List.length_cons, List.getElem?_cons_zero, List.getElem?_cons_succ, Nat.reduceAdd, Nat.zero_add, Nat.add_zero, Nat.reduceLeDiff, Nat.reduceSub, ↓reduceIte, List.drop_succ_cons, List.drop_zero, List.take_succ_cons, List.take_zero, Bool.false_eq_true, List.nil_append, List.cons_append, Bool.not_true, Bool.not_false, cond_true, cond_false, bne, Q85, Q86, Q87, Q88, Q89, Q90, Q91, Q92, Q93, Q94, Q95, Q96, Q97, Q98, Q110, Q111, Q116, Q117, Q118, Q119, Q120, Q121, Q122, Q123, Option.map_some, Option.map_none] <;>
   exact key _ rfl
 ·have e : standsT S p o hd 3 k i = (decide (p > 0) && (o == 2)) := by simp [standsT]
  have hw : IntKind.i64.wrap (3 - 1) = 2 := by decide
  rw [e] at key ⊢
  cases hp : decide (p > 0) <;> rw [hp] at key <;>
   simp only [c14, start, List.replicate, c14_0, c14_1, c14_2, c14_4, c14_5, c14_6, cl, v_bx, v_ld6, v_ld7, hp, hw, Int.reduceBEq, Q0, Q1, Q2, Q3, Q4, Q5, Q6, Q7, Q8, Q9, Q10, Q11, Q12, Q13, Q14, Q15, Q16, Q17, Q18, Q19, Q20, Q21, Q22, Q23, Q24, Q25, Q26, Q27, Q28, Q29, Q30, Q31, Q32, Q33, Q35, Q36, Q37, Q38, Q39, Q40, Q41, Q42, Q43, Q44, Q45, Q46, Q47, Q48, Q49, Q50, Q51, Q52, Q53, Q54, Q55, Q56, Q57, Q58, Q59, Q60, Q61, Q62, Q63, Q64, Q65, Q66, Q67, Q68, Q69, Q70, Q71, Q72, Q73, Q99, Q100, Q101, Q102, Q103, Q74, Q75, Q77, Q78, Q79, Q80, Q81, Q82, Q83, Q84, clr, List.length_nil, List.length_cons, List.getElem?_cons_zero, List.getElem?_cons_succ, Nat.reduceAdd, Nat.zero_add, Nat.add_zero, Nat.reduceLeDiff, Nat.reduceSub, ↓reduceIte, List.drop_succ_cons, List.drop_zero, List.take_succ_cons, List.take_zero, Bool.false_eq_true, List.nil_append, List.cons_append, Bool.not_true, Bool.not_false, cond_true, cond_false, bne, Q85, Q86, Q87, Q88, Q89, Q90, Q91, Q92, Q93, Q94, Q95, Q96, Q97, Q98, Q110, Q111, Q116, Q117, Q118, Q119, Q120, Q121, Q122, Q123, Option.map_some, Option.map_none] <;>
   exact key _ rfl
 ·have e : standsT S p o hd 4 k i = (p == 0) := by simp [standsT]
  rw [e] at key ⊢
  simp only [c14, start, List.replicate, c14_0, c14_1, c14_2, c14_4, c14_5, c14_7, c14_9, cl, v_bx, v_ld6, Int.reduceBEq, Q0, Q1, Q2, Q3, Q4, Q5, Q6, Q7, Q8, Q9, Q10, Q11, Q12, Q13, Q14, Q15, Q16, Q17, Q18, Q19, Q20, Q21, Q22, Q23, Q24, Q25, Q26, Q27, Q28, Q29, Q30, Q31, Q32, Q33, Q35, Q36, Q37, Q38, Q39, Q40, Q41, Q42, Q43, Q44, Q45, Q46, Q47, Q48, Q49, Q50, Q51, Q52, Q53, Q54, Q55, Q56, Q57, Q58, Q59, Q60, Q61, Q62, Q63, Q64, Q65, Q66, Q67, Q68, Q69, Q70, Q71, Q72, Q73, Q99, Q100, Q101, Q102, Q103, Q74, Q75, Q77, Q78, Q79, Q80, Q81, Q82, Q83, Q84, clr, List.length_nil, List.length_cons, List.getElem?_cons_zero, List.getElem?_cons_succ, Nat.reduceAdd, Nat.zero_add, Nat.add_zero, Nat.reduceLeDiff, Nat.reduceSub, ↓reduceIte, List.drop_succ_cons, List.drop_zero, List.take_succ_cons, List.take_zero, Bool.false_eq_true, List.nil_append, List.cons_append, Bool.not_true, Bool.not_false, cond_true, cond_false, bne, Q85, Q86, Q87, Q88, Q89, Q90, Q91, Q92, Q93, Q94, Q95, Q96, Q97, Q98, Q110, Q111, Q116, Q117, Q118, Q119, Q120, Q121, Q122, Q123, Option.map_some, Option.map_none]
  exact key _ rfl
end
end Go.AE.YtghgbbiklkpbnaaDoor.Chk
end

section
namespace Go.AE.YtghgbbiklkpbnaaDoor.Chk
open Go Go.AE Go.Proofs.YtghgbbiklkpbnaaDoor

def hasAll (S : List Int) (n : Nat) : Bool := (List.range n).all fun j => S.contains (j : Int)
def callsT (S : List Int) (hd : Bool) (n : Int) : Bool := !(decide (n < 0) || (decide (n > 16) || (hd && decide (n > 0)))) && hasAll S n.toNat
def wholeT (S Q : List Int) (vs : Int) (hd : Bool) (r k : Int) (i : In) : Bool :=
 if r = 4 ∧ i.op = 21 then callsT S hd i.n
 else if r = 4 ∨ k = 2 ∨ k = 3 then true
 else if k = 0 then decide (i.b ≥ 0) && (decide (i.b < vs) && !(Q.contains i.b))
 else if k = 1 then Q.contains i.b
 else if r = 0 ∨ r = 2 then decide (i.n ≥ 1) && decide (i.n ≤ 16)
 else decide (i.b ≥ 16) && (S.contains i.b == (r == 3))
def K17 : List Bool := [true, false, false, false, false, false, false, false, false, true, true, false, false, false, false, false, false]
def V17 (n j : Int) (x6 x11 x12 : AV) : List AV := [.ptr 3 0, .junk, .junk, .junk, .junk, .junk, x6, .junk, .junk, .v (.int .i64 n), .v (.int .i64 j), x11, x12, .junk, .junk, .junk, .junk]
section
variable {c0 c3 : AV} {c1 c2 : Int} {R N : MR} {p o u : Int} {hd ov : Bool} {T : List AO} {S Q : List Int}
theorem calls_loop {K : Nat} (hR : Seen .i64 R S) {n : Nat} (hn : n ≤ 16) (hK : n < K) (v : List AV) (hv : clr K17 v = V17 n 0 .junk .junk .junk) :
  (hasAll S n = true ∧ ∃ x6 x12, loopN (exec (callW F) K c15_10) K17 K v (vH c0 c1 c2 c3 R N p o u hd ov T) = some (.exit 1, V17 n n x6 (.v (.bool false)) x12, vH c0 c1 c2 c3 R N p o u hd ov T)) ∨
  (hasAll S n = false ∧ ∃ v', loopN (exec (callW F) K c15_10) K17 K v (vH c0 c1 c2 c3 R N p o u hd ov T) = some (.ret, v', vH c0 c1 c2 c3 R N p o u hd ov T) ∧ getO v' [] (.var 5) = .v (.bool false)) := by
 obtain ⟨e, v', h', g1, g2, g3⟩ := loop_rule0 (call := callW F) (K := K) (b := c15_10) (keep := K17) (fun j v h' => v = V17 n j .junk .junk .junk ∧ h' = vH c0 c1 c2 c3 R N p o u hd ov T ∧ hasAll S j = true)
  (fun e v h' => h' = vH c0 c1 c2 c3 R N p o u hd ov T ∧ ((e = .exit 1 ∧ hasAll S n = true ∧ ∃ x6 x12, v = V17 n n x6 (.v (.bool false)) x12) ∨ (e = .ret ∧ hasAll S n = false ∧ getO v [] (.var 5) = .v (.bool false)))) n (m := K) (v := v) (h := vH c0 c1 c2 c3 R N p o u hd ov T) hK ⟨hv, rfl, rfl⟩ (by
   rintro j v h' hj ⟨rfl, rfl, hall⟩
   by_cases hjn : j < n
   ·have hlt := lt_t hjn
    have hw := wrap_succ hjn (by have : maxLen = 9223372036854775807 := rfl; omega)
    have lk := fun T => v_lk1 (c0 := c0) (c1 := c1) (c2 := c2) (c3 := c3) (N := N) (p := p) (o := o) (u := u) (hd := hd) (ov := ov) (T := T) hR (j : Int)
    cases hs : S.contains (j : Int) with
    | true =>
     rw [hs] at lk
     refine ⟨.normal, V17 n ((j + 1 : Nat) : Int) (.v (.int .i64 j)) (.v (.bool true)) (.v (.bool false)), _, ?_, hjn, rfl, rfl, by
      have : hasAll S (j + 1) = (hasAll S j && S.contains (j : Int)) := by simp [hasAll, List.range_succ]
      rw [this, hall, hs]; rfl⟩
     simp only [V17, c15_10, c15_5, c15_6, c15_7, c15_9, hlt, hw, v_ld4, lk, e_lookup, Q0, Q1, Q2, Q3, Q4, Q5, Q6, Q7, Q8, Q9, Q10, Q11, Q12, Q13, Q14, Q15, Q16, Q17, Q18, Q19, Q20, Q21, Q22, Q23, Q24, Q25, Q26, Q27, Q28, Q29, Q30, Q31, Q32, Q33, Q35, Q36, Q37, Q38, Q39, Q40, Q41, Q42, Q43, Q44, Q45, Q46, Q47, Q48, Q49, Q50, Q51, Q52, Q53, Q54, Q55, Q56, Q57, Q58, Q59, Q60, Q61, Q62, Q63, Q64, Q65, Q66, Q67, Q68, Q69, Q70, Q71, Q72, Q73, Q99, Q100, Q101, Q102, Q103, Q74, Q75, Q77, Q78, Q79, Q80, Q81, Q82, Q83, Q84, clr, List.length_nil, List.length_cons, List.getElem?_cons_zero, List.getElem?_cons_succ, Nat.reduceAdd, Nat.zero_add, Nat.add_zero, Nat.reduceLeDiff, Nat.reduceSub, ↓reduceIte, List.drop_succ_cons, List.drop_zero, List.take_succ_cons, List.take_zero, Bool.false_eq_true, List.nil_append, List.cons_append, Bool.not_true, Bool.not_false, cond_true, cond_false, bne, Q85, Q86, Q87, Q88, Q89, Q90, Q91, Q92, Q93, Q94, Q95, Q96, Q97, Q98, Q110, Q111, Q116, Q117, Q118, Q119, Q120, Q121, Q122, Q123, Option.map_some, Option.map_none]
    | false =>
     rw [hs] at lk
     refine ⟨.ret, [.ptr 3 0, .junk, .junk, .junk, .junk, .v (.bool false), .v (.int .i64 j), .junk, .junk, .v (.int .i64 n), .v (.int .i64 j), .v (.bool true), .v (.bool true), .junk, .junk, .junk, .junk], vH c0 c1 c2 c3 R N p o u hd ov T, ?_, rfl, .inr ⟨rfl, ?_, rfl⟩⟩
     ·simp only [V17, c15_10, c15_5, c15_6, c15_7, c15_8, hlt, v_ld4, lk, e_lookup, Q0, Q1, Q2, Q3, Q4, Q5, Q6, Q7, Q8, Q9, Q10, Q11, Q12, Q13, Q14, Q15, Q16, Q17, Q18, Q19, Q20, Q21, Q22, Q23, Q24, Q25, Q26, Q27, Q28, Q29, Q30, Q31, Q32, Q33, Q35, Q36, Q37, Q38, Q39, Q40, Q41, Q42, Q43, Q44, Q45, Q46, Q47, Q48, Q49, Q50, Q51, Q52, Q53, Q54, Q55, Q56, Q57, Q58, Q59, Q60, Q61, Q62, Q63, Q64, Q65, Q66, Q67, Q68, Q69, Q70, Q71, Q72, Q73, Q99, Q100, Q101, Q102, Q103, Q74, Q75, Q77, Q78, Q79, Q80, Q81, Q82, Q83, Q84, clr, List.length_nil, List.length_cons, List.getElem?_cons_zero, List.getElem?_cons_succ, Nat.reduceAdd, Nat.zero_add, Nat.add_zero, Nat.reduceLeDiff, Nat.reduceSub, ↓reduceIte, List.drop_succ_cons, List.drop_zero, List.take_succ_cons, List.take_zero, Bool.false_eq_true, List.nil_append, List.cons_append, Bool.not_true, Bool.not_false, cond_true, cond_false, bne, Q85, Q86, Q87, Q88, Q89, Q90, Q91, Q92, Q93, Q94, Q95, Q96, Q97, Q98, Q110, Q111, Q116, Q117, Q118, Q119, Q120, Q121, Q122, Q123, Option.map_some, Option.map_none]
     ·simp only [hasAll, List.all_eq_false]
      exact ⟨j, by simpa using hjn, by simpa using hs⟩
   ·have hje : j = n := by omega
    subst hje
    have hlt := lt_f (n := j)
    refine ⟨.exit 1, V17 j j .junk (.v (.bool false)) .junk, vH c0 c1 c2 c3 R N p o u hd ov T, ?_, rfl, .inl ⟨rfl, hall, _, _, rfl⟩⟩
    simp only [V17, c15_10, c15_5, hlt, Q0, Q1, Q2, Q3, Q4, Q5, Q6, Q7, Q8, Q9, Q10, Q11, Q12, Q13, Q14, Q15, Q16, Q17, Q18, Q19, Q20, Q21, Q22, Q23, Q24, Q25, Q26, Q27, Q28, Q29, Q30, Q31, Q32, Q33, Q35, Q36, Q37, Q38, Q39, Q40, Q41, Q42, Q43, Q44, Q45, Q46, Q47, Q48, Q49, Q50, Q51, Q52, Q53, Q54, Q55, Q56, Q57, Q58, Q59, Q60, Q61, Q62, Q63, Q64, Q65, Q66, Q67, Q68, Q69, Q70, Q71, Q72, Q73, Q99, Q100, Q101, Q102, Q103, Q74, Q75, Q77, Q78, Q79, Q80, Q81, Q82, Q83, Q84, clr, List.length_nil, List.length_cons, List.getElem?_cons_zero, List.getElem?_cons_succ, Nat.reduceAdd, Nat.zero_add, Nat.add_zero, Nat.reduceLeDiff, Nat.reduceSub, ↓reduceIte, List.drop_succ_cons, List.drop_zero, List.take_succ_cons, List.take_zero, Bool.false_eq_true, List.nil_append, List.cons_append, Bool.not_true, Bool.not_false, cond_true, cond_false, bne, Q85, Q86, Q87, Q88, Q89, Q90, Q91, Q92, Q93, Q94, Q95, Q96, Q97, Q98, Q110, Q111, Q116, Q117, Q118, Q119, Q120, Q121, Q122, Q123, Option.map_some, Option.map_none])
 obtain ⟨rfl, g3 | g3⟩ := g3
 ·obtain ⟨rfl, h1, x6, x12, rfl⟩ := g3
  exact .inl ⟨h1, x6, x12, g1⟩
 ·obtain ⟨rfl, h1, h2⟩ := g3
  exact .inr ⟨h1, v', g1, h2⟩
theorem whole_ok (h0 : c0.below1 0 = true) (h3 : c3.below1 0 = true) (hT : T.all (AO.below 0) = true) (hR : Seen .i64 R S) (hN : Seen .i64 N Q) {r k : Int} (hr : 0 ≤ r ∧ r ≤ 4) (hk : 0 ≤ k ∧ k ≤ 4) (i : In) :
  callW F 15 [.ptr 3 0, .v (.int .i64 r), .v (.int .i64 k), inV i] (vH c0 c1 c2 c3 R N p o u hd ov T) = some (.v (.bool (wholeT S Q c2 hd r k i)), vH c0 c1 c2 c3 R N p o u hd ov T) := by
 refine callW_own (c := c15) rfl rfl 100 ?_
 have cl := (show (inV i).cl = some (inC i) from rfl)
 have key : ∀ vars : List AV, getO vars [] (.var 5) = .v (.bool (wholeT S Q c2 hd r k i)) → leave (T.length + 4) c15 (some (.ret, vars, vH c0 c1 c2 c3 R N p o u hd ov (T ++ [.box 41 (inC i)]))) = some (.v (.bool (wholeT S Q c2 hd r k i)), vH c0 c1 c2 c3 R N p o u hd ov T) :=
  fun vars hx => v_leave h0 h3 hT rfl hx
 rw [v_app, v_len]
 have lk1 := fun T => v_lk1 (c0 := c0) (c1 := c1) (c2 := c2) (c3 := c3) (N := N) (p := p) (o := o) (u := u) (hd := hd) (ov := ov) (T := T) hR i.b
 have lk2 := fun T => v_lk2 (c0 := c0) (c1 := c1) (c2 := c2) (c3 := c3) (R := R) (p := p) (o := o) (u := u) (hd := hd) (ov := ov) (T := T) hN i.b
 have hr5 : r = 0 ∨ r = 1 ∨ r = 2 ∨ r = 3 ∨ r = 4 := by omega
 have hk5 : k = 0 ∨ k = 1 ∨ k = 2 ∨ k = 3 ∨ k = 4 := by omega
 have eb : ∀ (h : List AO) (a b : Bool), eqNil h .bool (.v (.bool a)) (.v (.bool b)) = some (a == b) := fun _ _ _ => rfl
 by_cases hcall : r = 4 ∧ i.op = 21
 ·obtain ⟨rfl, hop⟩ := hcall
  have e : wholeT S Q c2 hd 4 k i = callsT S hd i.n := by simp [wholeT, hop]
  rw [e] at key ⊢
  have ho : (i.op == 21) = true := by simp [hop]
  cases h1 : decide (i.n < 0) with
  | true =>
   have e2 : callsT S hd i.n = false := by simp [callsT, h1]
   rw [e2] at key ⊢
   simp only [c15, start, List.replicate, c15_0, c15_1, c15_2, c15_3, cl, v_bx, v_ld9, v_l0, v_l4, ho, h1, Q122, Int.reduceBEq, Q0, Q1, Q2, Q3, Q4, Q5, Q6, Q7, Q8, Q9, Q10, Q11, Q12, Q13, Q14, Q15, Q16, Q17, Q18, Q19, Q20, Q21, Q22, Q23, Q24, Q25, Q26, Q27, Q28, Q29, Q30, Q31, Q32, Q33, Q35, Q36, Q37, Q38, Q39, Q40, Q41, Q42, Q43, Q44, Q45, Q46, Q47, Q48, Q49, Q50, Q51, Q52, Q53, Q54, Q55, Q56, Q57, Q58, Q59, Q60, Q61, Q62, Q63, Q64, Q65, Q66, Q67, Q68, Q69, Q70, Q71, Q72, Q73, Q99, Q100, Q101, Q102, Q103, Q74, Q75, Q77, Q78, Q79, Q80, Q81, Q82, Q83, Q84, clr, List.length_nil, List.length_cons, List.getElem?_cons_zero, List.getElem?_cons_succ, Nat.reduceAdd, Nat.zero_add, Nat.add_zero, Nat.reduceLeDiff, Nat.reduceSub, ↓reduceIte, List.drop_succ_cons, List.drop_zero, List.take_succ_cons, List.take_zero, Bool.false_eq_true, List.nil_append, List.cons_append, Bool.not_true, Bool.not_false, cond_true, cond_false, bne, Q85, Q86, Q87, Q88, Q89, Q90, Q91, Q92, Q93, Q94, Q95, Q96, Q97, Q98, Q110, Q111, Q116, Q117, Q118, Q119, Q120, Q121, Q122, Q123, Option.map_some, Option.map_none]
   exact key _ rfl
  | false =>
   cases h2 : decide (i.n > 16) with
   | true =>
    have e2 : callsT S hd i.n = false := by simp [callsT, h2]
    rw [e2] at key ⊢
    simp only [c15, start, List.replicate, c15_0, c15_1, c15_2, c15_3, cl, v_bx, v_ld9, v_l0, v_l4, ho, h1, h2, Q122, Int.reduceBEq, Q0, Q1, Q2, Q3, Q4, Q5, Q6, Q7, Q8, Q9, Q10, Q11, Q12, Q13, Q14, Q15, Q16, Q17, Q18, Q19, Q20, Q21, Q22, Q23, Q24, Q25, Q26, Q27, Q28, Q29, Q30, Q31, Q32, Q33, Q35, Q36, Q37, Q38, Q39, Q40, Q41, Q42, Q43, Q44, Q45, Q46, Q47, Q48, Q49, Q50, Q51, Q52, Q53, Q54, Q55, Q56, Q57, Q58, Q59, Q60, Q61, Q62, Q63, Q64, Q65, Q66, Q67, Q68, Q69, Q70, Q71, Q72, Q73, Q99, Q100, Q101, Q102, Q103, Q74, Q75, Q77, Q78, Q79, Q80, Q81, Q82, Q83, Q84, clr, List.length_nil, List.length_cons, List.getElem?_cons_zero, List.getElem?_cons_succ, Nat.reduceAdd, Nat.zero_add, Nat.add_zero, Nat.reduceLeDiff, Nat.reduceSub, ↓reduceIte, List.drop_succ_cons, List.drop_zero, List.take_succ_cons, List.take_zero, Bool.false_eq_true, List.nil_append, List.cons_append, Bool.not_true, Bool.not_false, cond_true, cond_false, bne, Q85, Q86, Q87, Q88, Q89, Q90, Q91, Q92, Q93, Q94, Q95, Q96, Q97, Q98, Q110, Q111, Q116, Q117, Q118, Q119, Q120, Q121, Q122, Q123, Option.map_some, Option.map_none]
    exact key _ rfl
   | false =>
    cases h3' : (hd && decide (i.n > 0)) with
    | true =>
     have e2 : callsT S hd i.n = false := by simp only [callsT, h3', Bool.or_true, Bool.not_true, Bool.false_and]
     rw [e2] at key ⊢
     simp only [Bool.and_eq_true] at h3'
     obtain ⟨rfl, h4⟩ := h3'
     simp only [c15, start, List.replicate, c15_0, c15_1, c15_2, c15_3, cl, v_bx, v_ld9, v_l0, v_l4, ho, h1, h2, h4, Q122, Int.reduceBEq, Q0, Q1, Q2, Q3, Q4, Q5, Q6, Q7, Q8, Q9, Q10, Q11, Q12, Q13, Q14, Q15, Q16, Q17, Q18, Q19, Q20, Q21, Q22, Q23, Q24, Q25, Q26, Q27, Q28, Q29, Q30, Q31, Q32, Q33, Q35, Q36, Q37, Q38, Q39, Q40, Q41, Q42, Q43, Q44, Q45, Q46, Q47, Q48, Q49, Q50, Q51, Q52, Q53, Q54, Q55, Q56, Q57, Q58, Q59, Q60, Q61, Q62, Q63, Q64, Q65, Q66, Q67, Q68, Q69, Q70, Q71, Q72, Q73, Q99, Q100, Q101, Q102, Q103, Q74, Q75, Q77, Q78, Q79, Q80, Q81, Q82, Q83, Q84, clr, List.length_nil, List.length_cons, List.getElem?_cons_zero, List.getElem?_cons_succ, Nat.reduceAdd, Nat.zero_add, Nat.add_zero, Nat.reduceLeDiff, Nat.reduceSub, ↓reduceIte, List.drop_succ_cons, List.drop_zero, List.take_succ_cons, List.take_zero, Bool.false_eq_true, List.nil_append, List.cons_append, Bool.not_true, Bool.not_false, cond_true, cond_false, bne, Q85, Q86, Q87, Q88, Q89, Q90, Q91, Q92, Q93, Q94, Q95, Q96, Q97, Q98, Q110, Q111, Q116, Q117, Q118, Q119, Q120, Q121, Q122, Q123, Option.map_some, Option.map_none]
     exact key _ rfl
    | false =>
     have e2 : callsT S hd i.n = hasAll S i.n.toNat := by simp only [callsT, h1, h2, h3', Bool.or_false, Bool.not_false, Bool.true_and]
     rw [e2] at key ⊢
     have hn0 : ¬ i.n < 0 := by simpa using h1
     have hn1 : ¬ i.n > 16 := by simpa using h2
     obtain ⟨n, hnn⟩ := Int.eq_ofNat_of_zero_le (show 0 ≤ i.n by omega)
     rw [hnn, Int.toNat_natCast] at key ⊢
     rw [hnn] at h1 h2 h3'
     have vl4 : ∀ T, Q76 (vH c0 c1 c2 c3 R N p o u hd ov (T ++ [.box 41 (inC i)])) false 1 (.ptr (T.length + 4) 4) = some (.v (.int .i64 n)) := fun T => by rw [v_l4, hnn]
     have lp := fun v hv => calls_loop (K := 100) (c0 := c0) (c1 := c1) (c2 := c2) (c3 := c3) (N := N) (p := p) (o := o) (u := u) (hd := hd) (ov := ov) (T := T ++ [.box 41 (inC i)]) hR (n := n) (by omega) (by omega) v hv
     have pre : ∀ rest : CC, exec (callW F) 100 (.seq (.region [] [] c15_0) (.seq (.block 0 (.seq (.region [] [] c15_1) (.cond (.var 7) (.seq (.seq (.region [] [] c15_2) (.cond (.var 8) (.seq (.region [] [] c15_3) .ret) .skip)) (.seq (.region [] [] c15_4) (.block 1 (.loop K17 [] c15_10)))) rest))) (.seq (.region [] [] c15_22) .ret))) (start c15 [.ptr 3 0, .v (.int .i64 4), .v (.int .i64 k), inV i]) (vH c0 c1 c2 c3 R N p o u hd ov T) =
       thn (callW F) 100 (.seq (.region [] [] c15_22) .ret) (blk 0 (blk 1 (loopN (exec (callW F) 100 c15_10) K17 100 [.ptr 3 0, .v (.int .i64 4), .v (.int .i64 k), inV i, .ptr (T.length + 4) 0, .v (.bool false), .v undef, .v (.bool true), .v (.bool false), .v (.int .i64 n), .v (.int .i64 0), .v undef, .v undef, .v undef, .v undef, .v undef, .v undef] (vH c0 c1 c2 c3 R N p o u hd ov (T ++ [.box 41 (inC i)]))))) := by
      intro rest
      rw [show start c15 [.ptr 3 0, .v (.int .i64 4), .v (.int .i64 k), inV i] = [.ptr 3 0, .v (.int .i64 4), .v (.int .i64 k), inV i, .v undef, .v undef, .v undef, .v undef, .v undef, .v undef, .v undef, .v undef, .v undef, .v undef, .v undef, .v undef, .v undef] from rfl]
      generalize c15_10 = bb
      cases hd <;> simp only [Bool.true_and, Bool.false_and] at h3' <;>
       simp only [c15_0, c15_1, c15_2, c15_4, cl, v_bx, v_ld9, v_l0, vl4, ho, h1, h2, h3', Q122, Int.reduceBEq, Q0, Q1, Q2, Q3, Q4, Q5, Q6, Q7, Q8, Q9, Q10, Q11, Q12, Q13, Q14, Q15, Q16, Q17, Q18, Q19, Q20, Q21, Q22, Q23, Q24, Q25, Q26, Q27, Q28, Q29, Q30, Q31, Q32, Q33, Q35, Q36, Q37, Q38, Q39, Q40, Q41, Q42, Q43, Q44, Q45, Q46, Q47, Q48, Q49, Q50, Q51, Q52, Q53, Q54, Q55, Q56, Q57, Q58, Q59, Q60, Q61, Q62, Q63, Q64, Q65, Q66, Q67, Q68, Q69, Q70, Q71, Q72, Q73, Q99, Q100, Q101, Q102, Q103, Q74, Q75, Q77, Q78, Q79, Q80, Q81, Q82, Q83, Q84, clr, List.length_nil, List.length_cons, List.getElem?_cons_zero, List.getElem?_cons_succ, Nat.reduceAdd, Nat.zero_add, Nat.add_zero, Nat.reduceLeDiff, Nat.reduceSub, ↓reduceIte, List.drop_succ_cons, List.drop_zero, List.take_succ_cons, List.take_zero, Bool.false_eq_true, List.nil_append, List.cons_append, Bool.not_true, Bool.not_false, cond_true, cond_false, bne, Q85, Q86, Q87, Q88, Q89, Q90, Q91, Q92, Q93, Q94, Q95, Q96, Q97, Q98, Q110, Q111, Q116, Q117, Q118, Q119, Q120, Q121, Q122, Q123, Option.map_some, Option.map_none]
     obtain ⟨rest, hrest⟩ : ∃ rest, c15.body = (.seq (.region [] [] c15_0) (.seq (.block 0 (.seq (.region [] [] c15_1) (.cond (.var 7) (.seq (.seq (.region [] [] c15_2) (.cond (.var 8) (.seq (.region [] [] c15_3) .ret) .skip)) (.seq (.region [] [] c15_4) (.block 1 (.loop K17 [] c15_10)))) rest))) (.seq (.region [] [] c15_22) .ret))) := ⟨_, rfl⟩
     rw [hrest, pre]
     rcases lp [.ptr 3 0, .v (.int .i64 4), .v (.int .i64 k), inV i, .ptr (T.length + 4) 0, .v (.bool false), .v undef, .v (.bool true), .v (.bool false), .v (.int .i64 n), .v (.int .i64 0), .v undef, .v undef, .v undef, .v undef, .v undef, .v undef] rfl with ⟨g1, x6, x12, g2⟩ | ⟨g1, v', g2, g3⟩
     ·rw [g1] at key ⊢
      rw [g2]
      simp only [V17, c15_22, Q0, Q1, Q2, Q3, Q4, Q5, Q6, Q7, Q8, Q9, Q10, Q11, Q12, Q13, Q14, Q15, Q16, Q17, Q18, Q19, Q20, Q21, Q22, Q23, Q24, Q25, Q26, Q27, Q28, Q29, Q30, Q31, Q32, Q33, Q35, Q36, Q37, Q38, Q39, Q40, Q41, Q42, Q43, Q44, Q45, Q46, Q47, Q48, Q49, Q50, Q51, Q52, Q53, Q54, Q55, Q56, Q57, Q58, Q59, Q60, Q61, Q62, Q63, Q64, Q65, Q66, Q67, Q68, Q69, Q70, Q71, Q72, Q73, Q99, Q100, Q101, Q102, Q103, Q74, Q75, Q77, Q78, Q79, Q80, Q81, Q82, Q83, Q84, clr, List.length_nil, List.length_cons, List.getElem?_cons_zero, List.getElem?_cons_succ, Nat.reduceAdd, Nat.zero_add, Nat.add_zero, Nat.reduceLeDiff, Nat.reduceSub, ↓reduceIte, List.drop_succ_cons, List.drop_zero, List.take_succ_cons, List.take_zero, Bool.false_eq_true, List.nil_append, List.cons_append, Bool.not_true, Bool.not_false, cond_true, cond_false, bne, Q85, Q86, Q87, Q88, Q89, Q90, Q91, Q92, Q93, Q94, Q95, Q96, Q97, Q98, Q110, Q111, Q116, Q117, Q118, Q119, Q120, Q121, Q122, Q123, Option.map_some, Option.map_none]
      exact key _ rfl
     ·rw [g1] at key ⊢
      rw [g2]
      simp only [Q0, Q1, Q2, Q3, Q4, Q5, Q6, Q7, Q8, Q9, Q10, Q11, Q12, Q13, Q14, Q15, Q16, Q17, Q18, Q19, Q20, Q21, Q22, Q23, Q24, Q25, Q26, Q27, Q28, Q29, Q30, Q31, Q32, Q33, Q35, Q36, Q37, Q38, Q39, Q40, Q41, Q42, Q43, Q44, Q45, Q46, Q47, Q48, Q49, Q50, Q51, Q52, Q53, Q54, Q55, Q56, Q57, Q58, Q59, Q60, Q61, Q62, Q63, Q64, Q65, Q66, Q67, Q68, Q69, Q70, Q71, Q72, Q73, Q99, Q100, Q101, Q102, Q103, Q74, Q75, Q77, Q78, Q79, Q80, Q81, Q82, Q83, Q84, clr, List.length_nil, List.length_cons, List.getElem?_cons_zero, List.getElem?_cons_succ, Nat.reduceAdd, Nat.zero_add, Nat.add_zero, Nat.reduceLeDiff, Nat.reduceSub, ↓reduceIte, List.drop_succ_cons, List.drop_zero, List.take_succ_cons, List.take_zero, Bool.false_eq_true, List.nil_append, List.cons_append, Bool.not_true, Bool.not_false, cond_true, cond_false, bne, Q85, Q86, Q87, Q88, Q89, Q90, Q91, Q92, Q93, Q94, Q95, Q96, Q97, Q98, Q110, Q111, Q116, Q117, Q118, Q119, Q120, Q121, Q122, Q123, Option.map_some, Option.map_none]
      exact key _ g3
 ·have ho : ((r == 4) && (i.op == 21)) = false := by
   cases h1 : (r == 4) with
   | false => rfl
   | true =>
    have : r = 4 := by simpa using h1
    have : i.op ≠ 21 := fun e => hcall ⟨this, e⟩
    simpa using this
  have e : wholeT S Q c2 hd r k i = (if r = 4 ∨ k = 2 ∨ k = 3 then true
   else if k = 0 then decide (i.b ≥ 0) && (decide (i.b < c2) && !(Q.contains i.b))
   else if k = 1 then Q.contains i.b
   else if r = 0 ∨ r = 2 then decide (i.n ≥ 1) && decide (i.n ≤ 16)
   else decide (i.b ≥ 16) && (S.contains i.b == (r == 3))) := by simp only [wholeT, if_neg hcall]
  rw [e] at key ⊢
  clear e hcall
  have hop : r = 4 → (i.op == 21) = false := fun h => by subst h; simpa using ho
  clear ho
  have nop : ∀ z : Int, 0 + 2 = 2 := fun _ => rfl
  by_cases h4 : r = 4
  ·subst h4
   have ho := hop rfl
   simp only [c15, start, List.replicate, c15_0, c15_1, c15_11, c15_12, c15_13, c15_14, c15_15, c15_16, c15_17, c15_18, c15_19, c15_20, c15_21, c15_22, cl, v_bx, v_ld2, v_ld4, v_ld5, v_ld9, v_l0, v_l2, v_l4, e_lookup, Q122, eb, Int.reduceBEq, Q0, Q1, Q2, Q3, Q4, Q5, Q6, Q7, Q8, Q9, Q10, Q11, Q12, Q13, Q14, Q15, Q16, Q17, Q18, Q19, Q20, Q21, Q22, Q23, Q24, Q25, Q26, Q27, Q28, Q29, Q30, Q31, Q32, Q33, Q35, Q36, Q37, Q38, Q39, Q40, Q41, Q42, Q43, Q44, Q45, Q46, Q47, Q48, Q49, Q50, Q51, Q52, Q53, Q54, Q55, Q56, Q57, Q58, Q59, Q60, Q61, Q62, Q63, Q64, Q65, Q66, Q67, Q68, Q69, Q70, Q71, Q72, Q73, Q99, Q100, Q101, Q102, Q103, Q74, Q75, Q77, Q78, Q79, Q80, Q81, Q82, Q83, Q84, clr, List.length_nil, List.length_cons, List.getElem?_cons_zero, List.getElem?_cons_succ, Nat.reduceAdd, Nat.zero_add, Nat.add_zero, Nat.reduceLeDiff, Nat.reduceSub, ↓reduceIte, List.drop_succ_cons, List.drop_zero, List.take_succ_cons, List.take_zero, Bool.false_eq_true, List.nil_append, List.cons_append, Bool.not_true, Bool.not_false, cond_true, cond_false, bne, Q85, Q86, Q87, Q88, Q89, Q90, Q91, Q92, Q93, Q94, Q95, Q96, Q97, Q98, Q110, Q111, Q116, Q117, Q118, Q119, Q120, Q121, Q122, Q123, Option.map_some, Option.map_none, ho]
   exact key _ rfl
  ·have hr4 : r = 0 ∨ r = 1 ∨ r = 2 ∨ r = 3 := by omega
   clear hop h4 hr5
   rcases hk5 with rfl | rfl | rfl | rfl | rfl
   ·cases b1 : decide (i.b ≥ 0) <;> cases b2 : decide (i.b < c2) <;> cases b3 : Q.contains i.b <;> rw [b1, b2, b3] at key <;> rw [b3] at lk2 <;>
     rcases hr4 with rfl | rfl | rfl | rfl <;>
     simp only [c15, start, List.replicate, c15_0, c15_1, c15_11, c15_12, c15_13, c15_14, c15_15, c15_16, c15_17, c15_18, c15_19, c15_20, c15_21, c15_22, cl, v_bx, v_ld2, v_ld4, v_ld5, v_ld9, v_l0, v_l2, v_l4, e_lookup, Q122, eb, Int.reduceBEq, Q0, Q1, Q2, Q3, Q4, Q5, Q6, Q7, Q8, Q9, Q10, Q11, Q12, Q13, Q14, Q15, Q16, Q17, Q18, Q19, Q20, Q21, Q22, Q23, Q24, Q25, Q26, Q27, Q28, Q29, Q30, Q31, Q32, Q33, Q35, Q36, Q37, Q38, Q39, Q40, Q41, Q42, Q43, Q44, Q45, Q46, Q47, Q48, Q49, Q50, Q51, Q52, Q53, Q54, Q55, Q56, Q57, Q58, Q59, Q60, Q61, Q62, Q63, Q64, Q65, Q66, Q67, Q68, Q69, Q70, Q71, Q72, Q73, Q99, Q100, Q101, Q102, Q103, Q74, Q75, Q77, Q78, Q79, Q80, Q81, Q82, Q83, Q84, clr, List.length_nil, List.length_cons, List.getElem?_cons_zero, List.getElem?_cons_succ, Nat.reduceAdd, Nat.zero_add, Nat.add_zero, Nat.reduceLeDiff, Nat.reduceSub, ↓reduceIte, List.drop_succ_cons, List.drop_zero, List.take_succ_cons, List.take_zero, Bool.false_eq_true, List.nil_append, List.cons_append, Bool.not_true, Bool.not_false, cond_true, cond_false, bne, Q85, Q86, Q87, Q88, Q89, Q90, Q91, Q92, Q93, Q94, Q95, Q96, Q97, Q98, Q110, Q111, Q116, Q117, Q118, Q119, Q120, Q121, Q122, Q123, Option.map_some, Option.map_none, b1, b2, lk2] <;> exact key _ rfl
   ·rcases hr4 with rfl | rfl | rfl | rfl <;>
     simp only [c15, start, List.replicate, c15_0, c15_1, c15_11, c15_12, c15_13, c15_14, c15_15, c15_16, c15_17, c15_18, c15_19, c15_20, c15_21, c15_22, cl, v_bx, v_ld2, v_ld4, v_ld5, v_ld9, v_l0, v_l2, v_l4, e_lookup, Q122, eb, Int.reduceBEq, Q0, Q1, Q2, Q3, Q4, Q5, Q6, Q7, Q8, Q9, Q10, Q11, Q12, Q13, Q14, Q15, Q16, Q17, Q18, Q19, Q20, Q21, Q22, Q23, Q24, Q25, Q26, Q27, Q28, Q29, Q30, Q31, Q32, Q33, Q35, Q36, Q37, Q38, Q39, Q40, Q41, Q42, Q43, Q44, Q45, Q46, Q47, Q48, Q49, Q50, Q51, Q52, Q53, Q54, Q55, Q56, Q57, Q58, Q59, Q60, Q61, Q62, Q63, Q64, Q65, Q66, Q67, Q68, Q69, Q70, Q71, Q72, Q73, Q99, Q100, Q101, Q102, Q103, Q74, Q75, Q77, Q78, Q79, Q80, Q81, Q82, Q83, Q84, clr, List.length_nil, List.length_cons, List.getElem?_cons_zero, List.getElem?_cons_succ, Nat.reduceAdd, Nat.zero_add, Nat.add_zero, Nat.reduceLeDiff, Nat.reduceSub, ↓reduceIte, List.drop_succ_cons, List.drop_zero, List.take_succ_cons, List.take_zero, Bool.false_eq_true, List.nil_append, List.cons_append, Bool.not_true, Bool.not_false, cond_true, cond_false, bne, Q85, Q86, Q87, Q88, Q89, Q90, Q91, Q92, Q93, Q94, Q95, Q96, Q97, Q98, Q110, Q111, Q116, Q117, Q118, Q119, Q120, Q121, Q122, Q123, Option.map_some, Option.map_none, lk2] <;> exact key _ rfl
   ·rcases hr4 with rfl | rfl | rfl | rfl <;>
     simp only [c15, start, List.replicate, c15_0, c15_1, c15_11, c15_12, c15_13, c15_14, c15_15, c15_16, c15_17, c15_18, c15_19, c15_20, c15_21, c15_22, cl, v_bx, v_ld2, v_ld4, v_ld5, v_ld9, v_l0, v_l2, v_l4, e_lookup, Q122, eb, Int.reduceBEq, Q0, Q1, Q2, Q3, Q4, Q5, Q6, Q7, Q8, Q9, Q10, Q11, Q12, Q13, Q14, Q15, Q16, Q17, Q18, Q19, Q20, Q21, Q22, Q23, Q24, Q25, Q26, Q27, Q28, Q29, Q30, Q31, Q32, Q33, Q35, Q36, Q37, Q38, Q39, Q40, Q41, Q42, Q43, Q44, Q45, Q46, Q47, Q48, Q49, Q50, Q51, Q52, Q53, Q54, Q55, Q56, Q57, Q58, Q59, Q60, Q61, Q62, Q63, Q64, Q65, Q66, Q67, Q68, Q69, Q70, Q71, Q72, Q73, Q99, Q100, Q101, Q102, Q103, Q74, Q75, Q77, Q78, Q79, Q80, Q81, Q82, Q83, Q84, clr, List.length_nil, List.length_cons, List.getElem?_cons_zero, List.getElem?_cons_succ, Nat.reduceAdd, Nat.zero_add, Nat.add_zero, Nat.reduceLeDiff, Nat.reduceSub, ↓reduceIte, List.drop_succ_cons, List.drop_zero, List.take_succ_cons, List.take_zero, Bool.false_eq_true, List.nil_append, List.cons_append, Bool.not_true, Bool.not_false, cond_true, cond_false, bne, Q85, Q86, Q87, Q88, Q89, Q90, Q91, Q92, Q93, Q94, Q95, Q96, Q97, Q98, Q110, Q111, Q116, Q117, Q118, Q119, Q120, Q121, Q122, Q123, Option.map_some, Option.map_none] <;> exact key _ rfl
   ·rcases hr4 with rfl | rfl | rfl | rfl <;>
     simp only [c15, start, List.replicate, c15_0, c15_1, c15_11, c15_12, c15_13, c15_14, c15_15, c15_16, c15_17, c15_18, c15_19, c15_20, c15_21, c15_22, cl, v_bx, v_ld2, v_ld4, v_ld5, v_ld9, v_l0, v_l2, v_l4, e_lookup, Q122, eb, Int.reduceBEq, Q0, Q1, Q2, Q3, Q4, Q5, Q6, Q7, Q8, Q9, Q10, Q11, Q12, Q13, Q14, Q15, Q16, Q17, Q18, Q19, Q20, Q21, Q22, Q23, Q24, Q25, Q26, Q27, Q28, Q29, Q30, Q31, Q32, Q33, Q35, Q36, Q37, Q38, Q39, Q40, Q41, Q42, Q43, Q44, Q45, Q46, Q47, Q48, Q49, Q50, Q51, Q52, Q53, Q54, Q55, Q56, Q57, Q58, Q59, Q60, Q61, Q62, Q63, Q64, Q65, Q66, Q67, Q68, Q69, Q70, Q71, Q72, Q73, Q99, Q100, Q101, Q102, Q103, Q74, Q75, Q77, Q78, Q79, Q80, Q81, Q82, Q83, Q84, clr, List.length_nil, List.length_cons, List.getElem?_cons_zero, List.getElem?_cons_succ, Nat.reduceAdd, Nat.zero_add, Nat.add_zero, Nat.reduceLeDiff, Nat.reduceSub, ↓reduceIte, List.drop_succ_cons, List.drop_zero, List.take_succ_cons, List.take_zero, Bool.false_eq_true, List.nil_append, List.cons_append, Bool.not_true, Bool.not_false, cond_true, cond_false, bne, Q85, Q86, Q87, Q88, Q89, Q90, Q91, Q92, Q93, Q94, Q95, Q96, Q97, Q98, Q110, Q111, Q116, Q117, Q118, Q119, Q120, Q121, Q122, Q123, Option.map_some, Option.map_none] <;> exact key _ rfl
   ·cases b1 : decide (i.n ≥ 1) <;> cases b2 : decide (i.n ≤ 16) <;> cases b3 : decide (i.b ≥ 16) <;> rw [b1, b2, b3] at key <;>
     rcases hr4 with rfl | rfl | rfl | rfl <;>
     simp only [c15, start, List.replicate, c15_0, c15_1, c15_11, c15_12, c15_13, c15_14, c15_15, c15_16, c15_17, c15_18, c15_19, c15_20, c15_21, c15_22, cl, v_bx, v_ld2, v_ld4, v_ld5, v_ld9, v_l0, v_l2, v_l4, e_lookup, Q122, eb, Int.reduceBEq, Q0, Q1, Q2, Q3, Q4, Q5, Q6, Q7, Q8, Q9, Q10, Q11, Q12, Q13, Q14, Q15, Q16, Q17, Q18, Q19, Q20, Q21, Q22, Q23, Q24, Q25, Q26, Q27, Q28, Q29, Q30, Q31, Q32, Q33, Q35, Q36, Q37, Q38, Q39, Q40, Q41, Q42, Q43, Q44, Q45, Q46, Q47, Q48, Q49, Q50, Q51, Q52, Q53, Q54, Q55, Q56, Q57, Q58, Q59, Q60, Q61, Q62, Q63, Q64, Q65, Q66, Q67, Q68, Q69, Q70, Q71, Q72, Q73, Q99, Q100, Q101, Q102, Q103, Q74, Q75, Q77, Q78, Q79, Q80, Q81, Q82, Q83, Q84, clr, List.length_nil, List.length_cons, List.getElem?_cons_zero, List.getElem?_cons_succ, Nat.reduceAdd, Nat.zero_add, Nat.add_zero, Nat.reduceLeDiff, Nat.reduceSub, ↓reduceIte, List.drop_succ_cons, List.drop_zero, List.take_succ_cons, List.take_zero, Bool.false_eq_true, List.nil_append, List.cons_append, Bool.not_true, Bool.not_false, cond_true, cond_false, bne, Q85, Q86, Q87, Q88, Q89, Q90, Q91, Q92, Q93, Q94, Q95, Q96, Q97, Q98, Q110, Q111, Q116, Q117, Q118, Q119, Q120, Q121, Q122, Q123, Option.map_some, Option.map_none, b1, b2, b3, lk1] <;> exact key _ rfl
end
end Go.AE.YtghgbbiklkpbnaaDoor.Chk
end
