/- Texts of this claim, put together. -/
import Derived.Test.YtinhjhkmpknbbaaDoorPart2
set_option linter.unusedSimpArgs false
set_option linter.unusedVariables false
section
namespace Go.AE.YtinhjhkmpknbbaaDoor
open Go Go.AE Go.Proofs.YtinhjhkmpknbbaaDoor

def K60b : List Bool := [true, false, false, false, true, false, false, false, false, false, false, false, false, false, false, true, true, true, false, false]
def V60b (b B n : Nat) (c : AV) (i : Int) (x7 x8 x18 x19 : AV) : List AV := [.ptr b 0, .junk, .junk, .junk, .own 1 (B + 1) 0 0 n, .junk, .junk, x7, x8, .junk, .junk, .junk, .junk, .junk, .junk, c, .v (.int .i64 n), .v (.int .i64 i), x18, x19]
theorem set_loop {K b rl m : Nat} {Q : AV} {tc : List AV} {c : AV} {es : List AV} {l : List Tm} {ks : List Nat} {B : Nat} (htc : (AO.box 24 tc).below 0 = true) (hs : Sl 4 c es) (hes : All2 es l) (hwf : wfL l) (hm : es.length ≤ 900000) (hks : ks.length = es.length) :
  ∀ (l' : List Tm) (i : Nat) (hi : List AO) (code : List Op5) (g : Sg) (tl : List AO) (vars : List AV), i + l'.length = es.length → l' = l.drop i → Cp hi b rl m code g Q → hi.length = B →
   code.length + l'.length ≤ 900000 → tl.all (AO.below 0) = true → clr K60b vars = V60b b B es.length c i .junk .junk .junk .junk →
   ∃ hi' tl' vs', loopN (exec (callW F) K c60_18) K60b (l'.length + 1) vars (hi ++ loc tc ks es.length tl) = some (.exit 2, vs', hi' ++ loc tc ks es.length tl') ∧
    Cp hi' b rl m (code ++ (setA g l' (ks.drop i)).1) (setA g l' (ks.drop i)).2 Q ∧ Rs [b, rl, m] hi hi' := by
 have hll := hes.length
 intro l'
 induction l' with
 | nil =>
  intro i hi code g tl vars hil _ cp hlB _ htl hv
  have hil : i = es.length := by simpa using hil
  subst hil
  have hlt := lt_f (n := es.length)
  have e : ∀ ks : List Nat, setA g [] ks = ([], g) := fun ks => by cases ks <;> rfl
  refine ⟨hi, tl, V60b b B es.length c es.length .junk .junk (.v (.bool false)) .junk, ?_, by rw [e]; simpa using cp, .refl hi⟩
  rw [List.length_nil, Nat.zero_add]
  refine loop_exit ?_
  rw [hv]
  simp only [V60b, c60_18, c60_13, hlt, Q0, Q1, Q2, Q3, Q4, Q5, Q6, Q7, Q8, Q9, Q10, Q11, Q12, Q13, Q14, Q15, Q16, Q17, Q18, Q19, Q20, Q21, Q22, Q23, Q24, Q25, Q26, Q27, Q28, Q29, Q30, Q31, Q32, Q33, Q35, Q36, Q37, Q38, Q39, Q40, Q41, Q42, Q43, Q44, Q45, Q46, Q47, Q48, Q49, Q50, Q51, Q52, Q53, Q54, Q55, Q56, Q57, Q58, Q59, Q60, Q61, Q62, Q63, Q64, Q65, Q66, Q67, Q68, Q69, Q70, Q71, Q72, Q73, Q99, Q100, Q101, Q102, Q103, Q74, Q75, Q77, Q78, Q79, Q80, Q81, Q82, Q83, Q84, clr, List.length_nil, List.length_cons, List.getElem?_cons_zero, List.getElem?_cons_succ, Nat.reduceAdd, Nat.zero_add, Nat.add_zero, Nat.reduceLeDiff, Nat.reduceSub, ↓reduceIte, List.drop_succ_cons, List.drop_zero, List.take_succ_cons, List.take_zero, Bool.false_eq_true, List.nil_append, List.cons_append, Bool.not_true, Bool.not_false, cond_true, cond_false, bne, Q85, Q86, Q87, Q88, Q89, Q90, Q91, Q92, Q93, Q94, Q95, Q96, Q97, Q98, Q110, Q111, Q116, Q117, Q118, Q119, Q120, Q121, Q122, Q123, Option.map_some, Option.map_none, Q34]
 | cons t l' ih =>
  intro i hi code g tl vars hil hd cp hlB hcl htl hv
  have hil' : i < es.length := by simp at hil; omega
  have hll' : i < l.length := by omega
  have hti : l[i] = t := by
   have h1 := List.drop_eq_getElem_cons hll'
   rw [← hd] at h1
   exact (List.cons.inj h1).1.symm
  have hd' : l' = l.drop (i + 1) := by
   have h1 := List.drop_eq_getElem_cons hll'
   rw [← hd] at h1
   exact (List.cons.inj h1).2
  have hT := hes.at hil' hll'
  rw [hti] at hT
  have htm : t ∈ l := by rw [← hti]; exact List.getElem_mem hll'
  have he : es[i]? = some es[i] := List.getElem?_eq_getElem hil'
  generalize es[i] = e at hT he
  have hf := hT.facts
  have q1 := fun h : List AO => hs.ia he h
  have hlt := lt_t hil'
  have hw := wrap_succ hil' (small_maxM hm)
  have hik : i < ks.length := by omega
  have hkd : ks.drop i = ks[i] :: ks.drop (i + 1) := List.drop_eq_getElem_cons hik
  have q9 : ∀ h : List AO, bx h 24 (ofVal (.agg #[(.int .i64 0), (.string ⟨#[]⟩), (.int .i64 0), (.slice none 0 0)])).cl = some (.ptr h.length 0, h ++ [.box 24 [.v (.int .i64 0), .v (.string ⟨#[]⟩), .v (.int .i64 0), .v (.slice none 0 0)]]) := fun h => by rw [q9z]; rfl
  have htl2 : (tl ++ [AO.box 24 e.cells]).all (AO.below 0) = true := by
   have : AO.below 0 (.box 24 e.cells) = true := hT.bel
   simp only [List.all_append, List.all_cons, List.all_nil, htl, this, Bool.and_true]
  rw [show (t :: l').length + 1 = (l'.length + 1) + 1 from rfl]
  simp only [List.length_cons] at hcl hil
  have hbl := loc_bel (ks := ks) (n := es.length) htc htl2 (hi ++ loc tc ks es.length (tl ++ [.box 24 e.cells])).length
  have cpa := cp.app hbl
  rcases plain_ok cpa (by omega) hT (wf_k (wfL_mem hwf t htm)) (op := 16) (r := 0) (by omega) (by omega) with ⟨hc, p1⟩ | ⟨hc, h2, p1, cp2, rs2⟩
  ·have i2 := loc_ia (H := hi) (tc := tc) (ks := ks) (n := es.length) (tl := tl ++ [.box 24 e.cells]) hlB (by omega) (i := i) hil'
   have l2 := loc_ld (H := hi) (tc := tc) (ks := ks) (n := es.length) (tl := tl ++ [.box 24 e.cells]) hlB (by omega) (i := i) (x := ks[i]) (by
    rw [regs, List.getElem?_append_left (by simpa using hik)]; simp [hik])
   obtain ⟨h3, g1, cp3, rs3⟩ := cp.layA (by omega) _ hbl ⟨20, 0, ks[i], nos, 0⟩
   have st : exec (callW F) K c60_18 (V60b b B es.length c i .junk .junk .junk .junk) (hi ++ loc tc ks es.length tl) = some (.normal, V60b b B es.length c ((i + 1 : Nat) : Int) (.v (.int .i64 i)) (.ptr (hi ++ loc tc ks es.length tl).length 0) (.v (.bool true)) (.v (.bool true)), h3 ++ loc tc ks es.length (tl ++ [.box 24 e.cells])) := by
    simp only [iv] at l2
    rw [← loc_app (tl := tl), ← List.append_assoc] at p1 i2 l2 g1
    simp only [o5, nos] at g1
    generalize hG3 : h3 ++ (loc tc ks es.length tl ++ [AO.box 24 e.cells]) = G3 at *
    rw [loc_app] at hG3
    rw [hG3]
    generalize hG0 : hi ++ loc tc ks es.length tl = G0 at *
    simp only [V60b, c60_18, c60_13, c60_14, c60_15, c60_16, c60_17, hlt, hw, q1, hf, q9, p1, i2, l2, g1, e_callh, List.map_cons, List.map_nil, Q106, Q109, Q108, Q107, bd1, Q111, toL, Q112, List.set_cons_zero, List.set_cons_succ, and_self, Nat.le_refl, Q0, Q1, Q2, Q3, Q4, Q5, Q6, Q7, Q8, Q9, Q10, Q11, Q12, Q13, Q14, Q15, Q16, Q17, Q18, Q19, Q20, Q21, Q22, Q23, Q24, Q25, Q26, Q27, Q28, Q29, Q30, Q31, Q32, Q33, Q35, Q36, Q37, Q38, Q39, Q40, Q41, Q42, Q43, Q44, Q45, Q46, Q47, Q48, Q49, Q50, Q51, Q52, Q53, Q54, Q55, Q56, Q57, Q58, Q59, Q60, Q61, Q62, Q63, Q64, Q65, Q66, Q67, Q68, Q69, Q70, Q71, Q72, Q73, Q99, Q100, Q101, Q102, Q103, Q74, Q75, Q77, Q78, Q79, Q80, Q81, Q82, Q83, Q84, clr, List.length_nil, List.length_cons, List.getElem?_cons_zero, List.getElem?_cons_succ, Nat.reduceAdd, Nat.zero_add, Nat.add_zero, Nat.reduceLeDiff, Nat.reduceSub, ↓reduceIte, List.drop_succ_cons, List.drop_zero, List.take_succ_cons, List.take_zero, Bool.false_eq_true, List.nil_append, List.cons_append, Bool.not_true, Bool.not_false, cond_true, cond_false, bne, Q85, Q86, Q87, Q88, Q89, Q90, Q91, Q92, Q93, Q94, Q95, Q96, Q97, Q98, Q110, Q111, Q116, Q117, Q118, Q119, Q120, Q121, Q122, Q123, Option.map_some, Option.map_none]
   rw [loop_normal (by rw [hv]; exact st)]
   obtain ⟨hi', tl', vs', k1, k2, k3⟩ := ih (i + 1) h3 _ g (tl ++ [.box 24 e.cells]) (V60b b B es.length c ((i + 1 : Nat) : Int) (.v (.int .i64 i)) (.ptr (hi ++ loc tc ks es.length tl).length 0) (.v (.bool true)) (.v (.bool true))) (by omega) hd' cp3 (rs3.1.trans hlB) (by simp; omega) htl2 rfl
   refine ⟨hi', tl', vs', k1, ?_, rs3.trans k3⟩
   rw [hkd, setA]
   simp only [hc, if_true]
   rw [List.append_assoc] at k2
   exact k2
  ·obtain ⟨h3, e3, cp3, rs3⟩ := cp.part cp2 rs2
   rw [e3] at p1
   have st : exec (callW F) K c60_18 (V60b b B es.length c i .junk .junk .junk .junk) (hi ++ loc tc ks es.length tl) = some (.normal, V60b b B es.length c ((i + 1 : Nat) : Int) (.v (.int .i64 i)) (.ptr (hi ++ loc tc ks es.length tl).length 0) (.v (.bool true)) (.v (.bool false)), h3 ++ loc tc ks es.length (tl ++ [.box 24 e.cells])) := by
    have p1 : callW F 86 [.ptr b 0, .v (.int .i64 16), .v (.int .i64 0), e] ((hi ++ loc tc ks es.length tl) ++ [.box 24 e.cells]) = some (.v (.bool true), h3 ++ loc tc ks es.length (tl ++ [.box 24 e.cells])) := by
     rw [List.append_assoc, loc_app]; exact p1
    generalize h3 ++ loc tc ks es.length (tl ++ [.box 24 e.cells]) = G3 at *
    generalize hi ++ loc tc ks es.length tl = G0 at *
    simp only [V60b, c60_18, c60_13, c60_14, c60_15, c60_17, hlt, hw, q1, hf, q9, p1, e_callh, List.map_cons, List.map_nil, Q0, Q1, Q2, Q3, Q4, Q5, Q6, Q7, Q8, Q9, Q10, Q11, Q12, Q13, Q14, Q15, Q16, Q17, Q18, Q19, Q20, Q21, Q22, Q23, Q24, Q25, Q26, Q27, Q28, Q29, Q30, Q31, Q32, Q33, Q35, Q36, Q37, Q38, Q39, Q40, Q41, Q42, Q43, Q44, Q45, Q46, Q47, Q48, Q49, Q50, Q51, Q52, Q53, Q54, Q55, Q56, Q57, Q58, Q59, Q60, Q61, Q62, Q63, Q64, Q65, Q66, Q67, Q68, Q69, Q70, Q71, Q72, Q73, Q99, Q100, Q101, Q102, Q103, Q74, Q75, Q77, Q78, Q79, Q80, Q81, Q82, Q83, Q84, clr, List.length_nil, List.length_cons, List.getElem?_cons_zero, List.getElem?_cons_succ, Nat.reduceAdd, Nat.zero_add, Nat.add_zero, Nat.reduceLeDiff, Nat.reduceSub, ↓reduceIte, List.drop_succ_cons, List.drop_zero, List.take_succ_cons, List.take_zero, Bool.false_eq_true, List.nil_append, List.cons_append, Bool.not_true, Bool.not_false, cond_true, cond_false, bne, Q85, Q86, Q87, Q88, Q89, Q90, Q91, Q92, Q93, Q94, Q95, Q96, Q97, Q98, Q110, Q111, Q116, Q117, Q118, Q119, Q120, Q121, Q122, Q123, Option.map_some, Option.map_none]
   rw [loop_normal (by rw [hv]; exact st)]
   obtain ⟨hi', tl', vs', k1, k2, k3⟩ := ih (i + 1) h3 _ _ (tl ++ [.box 24 e.cells]) (V60b b B es.length c ((i + 1 : Nat) : Int) (.v (.int .i64 i)) (.ptr (hi ++ loc tc ks es.length tl).length 0) (.v (.bool true)) (.v (.bool false))) (by omega) hd' cp3 (rs3.1.trans hlB) (by simp; omega) htl2 rfl
   refine ⟨hi', tl', vs', k1, ?_, rs3.trans k3⟩
   rw [hkd, setA]
   simp only [hc, Bool.false_eq_true, if_false]
   rw [List.append_assoc] at k2
   exact k2
theorem zeroE1 : zeroEl [.int .i64 0] = iv 0 := rfl
theorem putC_ok {b rl m : Nat} {Q : AV} : ∀ (N : Nat) (t : Tm), SizeOf.sizeOf t < N → wfT t → isC t = true → ∀ (a : AV) (h : List AO) (code : List Op5) (g : Sg) (r : Nat), IsT a t → Cp h b rl m code g Q → code.length + 2 * zT t ≤ 900000 → g.next + zT t ≤ 3000001 → r ≤ 3000000 →
   ∃ h', callW F 60 [.ptr b 0, .v (.int .i64 r), a] h = some (.tup [], h') ∧ Cp h' b rl m (code ++ (putC r g t).1) (putC r g t).2 Q ∧ Rs [b, rl, m] h h' := by
 intro N
 induction N with
 | zero => intro t h; omega
 | succ N ih =>
  intro t hN hwf hct a h code g r ha cp hcl hnx hr
  have hta := ha
  cases ha with
  | mk k s n c l hc =>
  have wl := hwf.l
  simp only [Tm.l] at wl
  obtain ⟨es, hs, hes, hm⟩ := hc.sl
  have hll := hes.length
  have hzl := zL_len l
  rw [zT] at hcl hnx
  have hmm : es.length ≤ 900000 := by omega
  obtain ⟨tc, htcd⟩ : ∃ tc, [AV.v (.int .i64 k), .v (.string s), .v (.int .i64 n), c] = tc := ⟨_, rfl⟩
  have htc : (AO.box 24 tc).below 0 = true := by rw [← htcd]; exact hta.bel
  -- it is a compound
  have hbx : ([AO.box 24 tc] : List AO).all (AO.below (h ++ [AO.box 24 tc]).length) = true := all_below_mono (Nat.zero_le _) (by simp [htc])
  rcases plain_ok (cp.app hbx) (by omega) hta (wf_k hwf) (op := 11) (r := (r : Int)) (by omega) (by omega) with ⟨_, p1⟩ | ⟨hcf, _⟩
  case inr => rw [hct] at hcf; cases hcf
  -- the row of registers
  have mk := mkS_own (rt := 3) (sz := 1) (H := h) (l := [.box 24 tc]) (B := h.length) rfl (bytes := 8) (zero := [(.int .i64 0)]) (n := l.length) (by omega) (by omega)
  have hrow : h ++ ([AO.box 24 tc] ++ [.row 3 1 0 (List.replicate l.length (zeroEl [.int .i64 0])) 0]) = h ++ loc tc [] es.length [] := by
   rw [loc, regs, zeroE1, hll]; rfl
  have hsz : ∀ t ∈ l, SizeOf.sizeOf t < N := by
   intro t ht
   have h1 := List.sizeOf_lt_of_mem ht
   have h2 := Tm.mk.sizeOf_spec k s n l
   omega
  -- its compounds
  obtain ⟨h1, tl1, x5, x6, x14, g1, cp1, rs1, tb1⟩ := put1_loop (K := l.length + 1) (b := b) (rl := rl) (m := m) (Q := Q) (tc := tc) (r := (r : Int)) (h0 := h) (B := h.length) rfl htc hs hes wl hmm
   (fun t ht hc a H code g k hT hcp b1 b2 b3 => ih t (hsz t ht) (wfL_mem wl t ht) hc a H code g k hT hcp b1 b2 b3)
   l 0 h code g [] [] [.ptr b 0, .v (.int .i64 r), .agg tc, .ptr h.length 0, .own 1 (h.length + 1) 0 0 es.length, .v undef, .v undef, .v undef, .v undef, .v (.bool false), c, .v (.int .i64 es.length), .v (.int .i64 0), .v undef, .v undef, .v undef, .v undef, .v undef, .v undef, .v undef] (by omega) (by simp) rfl cp rfl (by omega) (by omega) rfl rfl
  have hal := putA_sum g wl
  have hkl : ((comps l).map kT).sum + l.length = zL l + innL l := by have := kL wl; omega
  have hil := innL_le l
  obtain ⟨h2, g2, cp2, rs2⟩ := cp1.layA (by rw [List.length_append]; omega) (loc tc (putA g l).2.1 es.length tl1) (loc_bel htc tb1 _) ⟨15, r, 0, s, l.length⟩
  obtain ⟨h3, tl3, vs3, g3, cp3, rs3⟩ := set_loop (K := l.length + 1) (b := b) (rl := rl) (m := m) (Q := Q) (tc := tc) (B := h.length) (ks := (putA g l).2.1) htc hs hes wl hmm (by rw [putA_len, hll]) l 0 h2 _ _ tl1
   [.ptr b 0, .v (.int .i64 r), .junk, .ptr h.length 0, .own 1 (h.length + 1) 0 0 es.length, x5, x6, .junk, .junk, .junk, c, .v (.int .i64 es.length), .v (.int .i64 es.length), .v (.bool false), x14, c, .v (.int .i64 es.length), .v (.int .i64 0), .junk, .junk] (by omega) (by simp) cp2 (rs2.1.trans rs1.1) (by rw [List.length_append, List.length_append, List.length_singleton]; omega) tb1 rfl
  rw [List.drop_zero] at cp3
  have rs := (rs1.trans rs2).trans rs3
  refine ⟨h3, callW_own (c := c60) rfl rfl (l.length + 1) ?_, ?_, rs⟩
  ·have lvv : leave h.length c60 (some (.normal, vs3, h3 ++ loc tc (putA g l).2.1 es.length tl3)) = some (.tup [], h3) := leaveN _ (.inr rfl) rfl rs.1 (by rw [← rs.1]; exact cp3.bel)
   rw [← lvv]
   congr 1
   have hf := hta.facts
   have q1 := fun H : List AO => hs.len H
   have cl := hf.2.2.2.2
   simp only [AV.cells, htcd] at cl
   have bxt : bx h 24 (some tc) = some (.ptr h.length 0, h ++ [.box 24 tc]) := rfl
   have ldt : ∀ X : List AO, Q76 (h ++ (.box 24 tc :: X)) true 4 (.ptr h.length 0) = some (.agg tc) := by
    intro X; rw [h_ld0, ← htcd]; rfl
   have ldt0 := ldt []
   have ldc : ∀ (h' : List AO) (X : List AO), h'.length = h.length → Q76 (h' ++ (.box 24 tc :: X)) false 1 (.ptr h.length 3) = some c := by
    intro h' X e; rw [← e, h_ld0, ← htcd]; rfl
   have lds : ∀ (h' : List AO) (X : List AO), h'.length = h.length → Q76 (h' ++ (.box 24 tc :: X)) false 1 (.ptr h.length 1) = some (.v (.string s)) := by
    intro h' X e; rw [← e, h_ld0, ← htcd]; rfl
   have ldc0 := ldc h [] rfl
   have ldc1 : Q76 (h ++ loc tc [] es.length []) false 1 (.ptr h.length 3) = some c := ldc h _ rfl
   have ldc2 : Q76 (h1 ++ loc tc (putA g l).2.1 es.length tl1) false 1 (.ptr h.length 3) = some c := ldc h1 _ rs1.1
   have lds2 : Q76 (h1 ++ loc tc (putA g l).2.1 es.length tl1) false 1 (.ptr h.length 1) = some (.v (.string s)) := lds h1 _ rs1.1
   have ldc3 : Q76 (h2 ++ loc tc (putA g l).2.1 es.length tl1) false 1 (.ptr h.length 3) = some c := ldc h2 _ (rs2.1.trans rs1.1)
   rw [htcd] at p1
   rw [hrow, hll.symm] at mk
   simp only [List.nil_append] at g1
   simp only [o5, ← hll] at g2
   rw [show c60.body = (.seq (.region [] [] c60_0) (.seq (.seq (.region [] [] c60_1) (.cond (.var 9) .ret .skip)) (.seq (.region [] [] c60_2) (.seq (.seq (.region [] [] c60_3) (.block 0 (.loop K60 [] c60_10))) (.seq (.region [] [] c60_11) (.seq (.region [] [] c60_12) (.block 2 (.loop K60b [] c60_18)))))))) from rfl, htcd]
   have g1' : ∀ v : List AV, clr K60 v = V60 b h.length es.length (r : Int) c 0 .junk .junk .junk .junk → loopN (exec (callW F) (l.length + 1) c60_10) K60 (l.length + 1) v (h ++ loc tc [] es.length []) = some (.exit 0, V60 b h.length es.length (r : Int) c es.length x5 x6 (.v (.bool false)) x14, h1 ++ loc tc (putA g l).2.1 es.length tl1) := by
    intro v hv
    rw [← g1]; exact loop_cong hv
   have g3' : ∀ v : List AV, clr K60b v = V60b b h.length es.length c 0 .junk .junk .junk .junk → loopN (exec (callW F) (l.length + 1) c60_18) K60b (l.length + 1) v (h2 ++ loc tc (putA g l).2.1 es.length tl1) = some (.exit 2, vs3, h3 ++ loc tc (putA g l).2.1 es.length tl3) := by
    intro v hv
    rw [← g3]; exact loop_cong hv
   generalize c60_10 = bb1 at g1' ⊢
   generalize c60_18 = bb2 at g3' ⊢
   generalize hE2 : h1 ++ loc tc (putA g l).2.1 es.length tl1 = E2 at *
   generalize hE3 : h2 ++ loc tc (putA g l).2.1 es.length tl1 = E3 at *
   generalize hE4 : h3 ++ loc tc (putA g l).2.1 es.length tl3 = E4 at *
   generalize hE1 : h ++ loc tc [] es.length [] = E1 at *
   have g1a := g1' [.ptr b 0, .v (.int .i64 r), .agg tc, .ptr h.length 0, .own 1 (h.length + 1) 0 0 es.length, .v undef, .v undef, .v undef, .v undef, .v (.bool false), c, .v (.int .i64 es.length), .v (.int .i64 0), .v undef, .v undef, .v undef, .v undef, .v undef, .v undef, .v undef] rfl
   have g3a := g3' [.ptr b 0, .v (.int .i64 r), .junk, .ptr h.length 0, .own 1 (h.length + 1) 0 0 es.length, x5, x6, .junk, .junk, .junk, c, .v (.int .i64 es.length), .v (.int .i64 es.length), .v (.bool false), x14, c, .v (.int .i64 es.length), .v (.int .i64 0), .junk, .junk] rfl
   simp only [c60, start, List.replicate, List.append_nil, c60_0, c60_1, c60_2, c60_3, c60_11, c60_12, bxt, cl, ldt0, ldc0, ldc1, ldc2, ldc3, lds2, q1, p1, mk, e_mkslice, g1a, g2, g3a, V60, e_callh, List.map_cons, List.map_nil, Q106, Q109, Q108, Q107, bd1, Q111, Q100, toL, Q112, List.set_cons_zero, List.set_cons_succ, and_self, Nat.le_refl, Q0, Q1, Q2, Q3, Q4, Q5, Q6, Q7, Q8, Q9, Q10, Q11, Q12, Q13, Q14, Q15, Q16, Q17, Q18, Q19, Q20, Q21, Q22, Q23, Q24, Q25, Q26, Q27, Q28, Q29, Q30, Q31, Q32, Q33, Q35, Q36, Q37, Q38, Q39, Q40, Q41, Q42, Q43, Q44, Q45, Q46, Q47, Q48, Q49, Q50, Q51, Q52, Q53, Q54, Q55, Q56, Q57, Q58, Q59, Q60, Q61, Q62, Q63, Q64, Q65, Q66, Q67, Q68, Q69, Q70, Q71, Q72, Q73, Q99, Q100, Q101, Q102, Q103, Q74, Q75, Q77, Q78, Q79, Q80, Q81, Q82, Q83, Q84, clr, List.length_nil, List.length_cons, List.getElem?_cons_zero, List.getElem?_cons_succ, Nat.reduceAdd, Nat.zero_add, Nat.add_zero, Nat.reduceLeDiff, Nat.reduceSub, ↓reduceIte, List.drop_succ_cons, List.drop_zero, List.take_succ_cons, List.take_zero, Bool.false_eq_true, List.nil_append, List.cons_append, Bool.not_true, Bool.not_false, cond_true, cond_false, bne, Q85, Q86, Q87, Q88, Q89, Q90, Q91, Q92, Q93, Q94, Q95, Q96, Q97, Q98, Q110, Q111, Q116, Q117, Q118, Q119, Q120, Q121, Q122, Q123, Option.map_some, Option.map_none]
  ·rw [putC]
   simp only
   have e : ∀ (A Z : List Op5) (P : Op5), code ++ (A ++ P :: Z) = code ++ A ++ [P] ++ Z := fun A Z P => by simp
   rw [e]
   exact cp3
end Go.AE.YtinhjhkmpknbbaaDoor
end

section
namespace Go.AE.YtinhjhkmpknbbaaDoor
open Go Go.AE Go.Proofs.YtinhjhkmpknbbaaDoor

def Gb (B : Nat) (ix : List Nat) (h h' : List AO) : Prop := h.length ≤ h'.length ∧ ∀ j, j < B → j ∉ ix → h'[j]? = h[j]?
theorem Gb.refl {B : Nat} {ix : List Nat} (h : List AO) : Gb B ix h h := ⟨Nat.le_refl _, fun _ _ _ => rfl⟩
theorem Gb.trans {B : Nat} {ix : List Nat} {h h' h'' : List AO} (a : Gb B ix h h') (b : Gb B ix h' h'') : Gb B ix h h'' := ⟨Nat.le_trans a.1 b.1, fun j h1 h2 => (b.2 j h1 h2).trans (a.2 j h1 h2)⟩
theorem Rs.gb {B : Nat} {ix : List Nat} {h h' : List AO} (a : Rs ix h h') : Gb B ix h h' := ⟨Nat.le_of_eq a.1.symm, fun j _ h2 => a.2 j h2⟩
theorem Gb.app {B : Nat} {ix : List Nat} {h : List AO} (hB : B ≤ h.length) (l : List AO) : Gb B ix h (h ++ l) := ⟨by simp, fun j h1 _ => List.getElem?_append_left (by omega)⟩

def Wt (e : AV) (p : Nat × Tm) : Prop := ∃ a, IsT a p.2 ∧ e = .agg (.v (.int .i64 (p.1 : Int)) :: a.cells)
theorem Wt.elm {e : AV} {p : Nat × Tm} (h : Wt e p) : El true 5 e := by
 obtain ⟨r, t⟩ := p
 obtain ⟨a, ha, rfl⟩ := h
 simp only at ha
 cases ha with
 | mk k s n c l hc => cases hc <;> exact ⟨rfl, rfl, fun _ => rfl, rfl, rfl, rfl⟩
inductive Qr (rt : TypeId) (H : List AO) (B : Nat) : AV → List AV → Prop
 | nil : Qr rt H B (.v (.slice none 0 0)) []
 | slc (es : List AV) : Qr rt H B (.slc 5 true true es) es
 | own (id ver off : Nat) (L es : List AV) (hr : H[id]? = some (.row rt 5 ver L 0)) (hd : L.drop off = es) (ho : off + es.length = L.length) (hB : B ≤ id) : Qr rt H B (.own 5 id ver off es.length) es
section
variable {rt : TypeId} {H : List AO} {B b rl m : Nat} {code : List Op5} {g : Sg} {Q Qz0 : AV} {es : List AV}
theorem Qr.of {H' : List AO} (q : Qr rt H B Q es) (h : ∀ id, B ≤ id → (∃ ver L, H[id]? = some (.row rt 5 ver L 0)) → H'[id]? = H[id]?) : Qr rt H' B Q es := by
 cases q with
 | nil => exact .nil
 | slc es => exact .slc es
 | own id ver off L es hr hd ho hB => exact .own id ver off L _ ((h id hB ⟨_, _, hr⟩).trans hr) hd ho hB
theorem Qr.app (q : Qr rt H B Q es) (l : List AO) : Qr rt (H ++ l) B Q es := q.of fun id _ ⟨ver, L, h⟩ => (his_get h).trans h.symm
theorem Qr.len (q : Qr rt H B Q es) (H' : List AO) : evLen H' .slice Q = some es.length := by cases q <;> rfl
theorem Qr.cl (q : Qr rt H B Q es) : Q.cl = some [Q] := by cases q <;> rfl
theorem Qr.bel (q : Qr rt H B Q es) : Q.below1 H.length = true := by
 cases q with
 | nil => rfl
 | slc es => rfl
 | own id ver off L es hr hd ho hB => simp [AV.below1, AV.below0, (List.getElem?_eq_some_iff.1 hr).1]
theorem Qr.head {e : AV} {p : Nat × Tm} (q : Qr rt H B Q (e :: es)) (hw : Wt e p) : ∃ x, iaV H 5 Q (some 0) = some x ∧ Q76 H true 5 x = some e := by
 generalize hE : e :: es = E at q
 cases q with
 | nil => cases hE
 | slc es' =>
  refine ⟨_, iaV_slc (i := 0) (el := e) (by rw [← hE]; rfl), hw.elm.ld H⟩
 | own id ver off L es' hr hd ho hB =>
  have hl : L[off]? = some e := by
   have : (L.drop off)[0]? = some e := by rw [hd, ← hE]; rfl
   simpa using this
  have hE1 : E.length = es.length + 1 := by rw [← hE]; rfl
  refine ⟨.ep 5 id ver off 0, ?_, ?_⟩
  ·simp only [iaV, hE1, Nat.succ_pos, and_self, if_true, Nat.add_zero]
   rw [row_at hr (by omega)]; rfl
  ·exact row_ld hr hl hw.elm
theorem Qr.tail {e : AV} (q : Qr rt H B Q (e :: es)) : ∃ Q', slV H 5 (some (some 1)) none Q = some Q' ∧ Qr rt H B Q' es := by
 generalize hE : e :: es = E at q
 cases q with
 | nil => cases hE
 | slc es' =>
  refine ⟨.slc 5 true true es, ?_, .slc es⟩
  subst hE
  simp [slV, slo]
 | own id ver off L es' hr hd ho hB =>
  have hE1 : E.length = es.length + 1 := by rw [← hE]; rfl
  refine ⟨.own 5 id ver (off + 1) es.length, ?_, .own id ver (off + 1) L es hr ?_ (by omega) hB⟩
  ·simp [slV, slo, hE1]
  ·have := congrArg List.tail hd
   rw [← hE] at this
   simpa [List.tail_drop] using this
theorem Cp.keep {H' : List AO} (c : Cp H b rl m code g Qz0) (hl : H.length ≤ H'.length) (hb : H'.all (AO.below H'.length) = true) (h : ∀ j : Nat, (∃ o : AO, H[j]? = some o ∧ ∀ ver L, o ≠ AO.row 130 5 ver L 0) → H'[j]? = H[j]?) : Cp H' b rl m code g Qz0 := by
 obtain ⟨ver, h1, h2⟩ := c.ob.ex
 obtain ⟨x, hx⟩ := c.mp
 exact ⟨⟨ver, (h b ⟨_, h1, by simp⟩).trans h1, (h rl ⟨_, h2, by simp⟩).trans h2⟩, ⟨x, (h m ⟨_, hx, by simp⟩).trans hx⟩, hb⟩
theorem Cp.addQ (c : Cp H b rl m code g Qz0) (q : Qr 130 H B Q es) (hB : B ≤ H.length) (w : AV) (hf : es.length ≤ 900000) :
  ∃ Q' H', evAppend H 130 5 64 Q (.slc 5 true true [w]) = some (Q', H') ∧ Cp H' b rl m code g Qz0 ∧ Qr 130 H' B Q' (es ++ [w]) ∧ Gb B [b, rl, m] H H' := by
 have fit : fits (es.length + 1) 64 = true := fits_small (by omega) (by omega)
 cases q with
 | nil =>
  refine ⟨.own 5 H.length 0 0 1, H ++ [.row 130 5 0 [w] 0], ?_, c.app (by rfl), ?_, Gb.app hB _⟩
  ·rw [evAppend, elems_one]
   have fit : fits 1 64 = true := fits_small (by omega) (by omega)
   simp [evAppendL, fit]
  ·exact Qr.own (rt := 130) (H := H ++ [.row 130 5 0 [w] 0]) (B := B) H.length 0 0 [w] [w] (by simp) (by simp) (by simp) hB
 | slc es =>
  refine ⟨.own 5 H.length 0 0 (es.length + 1), H ++ [.row 130 5 0 (es ++ [w]) 0], ?_, c.app (by rfl), ?_, Gb.app hB _⟩
  ·rw [evAppend, elems_one]
   simp [evAppendL, fit]
  ·have := Qr.own (rt := 130) (H := H ++ [.row 130 5 0 (es ++ [w]) 0]) (B := B) H.length 0 0 (es ++ [w]) (es ++ [w]) (by simp) (by simp) (by simp) hB
   rwa [List.length_append, List.length_singleton] at this
 | own id ver off L es hr hd ho hBi =>
  have hlt := (List.getElem?_eq_some_iff.1 hr).1
  have ht : rowT H id = 130 := by simp only [rowT, hr]
  have htk : (L.drop off).take es.length = es := by rw [hd, List.take_of_length_le (Nat.le_refl _)]
  refine ⟨.own 5 id (ver + 1) 0 (es.length + 1), H.set id (.row 130 5 (ver + 1) (es ++ [w]) 0), ?_, ?_, ?_, ⟨by simp, fun j h1 h2 => by rw [List.getElem?_set_ne (by omega)]⟩⟩
  ·rw [evAppend, elems_one]
   simp only [evAppendL, if_true, row_at hr (show off + es.length ≤ L.length by omega), ht, Nat.zero_le, and_self, htk]
   rw [if_neg (by simp), if_pos (by simpa using fit)]
   simp
  ·refine c.keep (by simp) ?_ fun j ⟨o, h1, h2⟩ => ?_
   ·have hb := c.bel
    rw [List.all_eq_true] at hb ⊢
    intro o ho
    rw [List.length_set]
    rcases List.mem_or_eq_of_mem_set ho with h' | rfl
    ·exact hb o h'
    ·rfl
   ·rw [List.getElem?_set_ne]
    rintro rfl
    rw [hr] at h1; cases h1
    exact h2 _ _ rfl
  ·have := Qr.own (rt := 130) (H := H.set id (.row 130 5 (ver + 1) (es ++ [w]) 0)) (B := B) id (ver + 1) 0 (es ++ [w]) (es ++ [w]) (by simp [hlt]) (by simp) (by simp) hBi
   rwa [List.length_append, List.length_singleton] at this
theorem Cp.setQ (c : Cp H b rl m code g Qz0) (hc : Q.cl = some [Q]) (hq : Q.below1 H.length = true) : ∃ H', Q113 H 1 (.ptr b 3) Q = some H' ∧ Cp H' b rl m code g Q ∧ Rs [b, rl, m] H H' := by
 obtain ⟨ver, h1, h2⟩ := c.ob.ex
 obtain ⟨x, hx⟩ := c.mp
 obtain ⟨m1, m2, m3⟩ := c.mb
 have hne := c.ob.ne
 have hlb := c.ob.ltb
 have hb0 := List.all_eq_true.1 c.bel _ (List.mem_of_getElem? h1)
 refine ⟨H.set b (.box 92 [.own 5 rl ver 0 code.length, .mp m, .v (.int .i64 g.next), Q]), ?_, ⟨⟨ver, by simp [hlb], by rw [List.getElem?_set_ne hne]; exact h2⟩, ⟨x, by rw [List.getElem?_set_ne (Ne.symm m1)]; exact hx⟩, ?_⟩, Rs.set (by simp)⟩
 ·rw [bx_st h1 (n := 1) hc rfl (by simp)]; rfl
 ·have hb := c.bel
  rw [List.all_eq_true] at hb ⊢
  intro o ho
  rw [List.length_set]
  rcases List.mem_or_eq_of_mem_set ho with h' | rfl
  ·exact hb o h'
  ·simp only [AO.below, List.all_cons, List.all_nil, Bool.and_true, Bool.and_eq_true] at hb0 ⊢
   exact ⟨hb0.1, hb0.2.1, hb0.2.2.1, hq⟩
theorem Cp.ldQ (c : Cp H b rl m code g Q) : Q76 H false 1 (.ptr b 3) = some Q := by
 obtain ⟨ver, h1, _⟩ := c.ob.ex
 rw [bx_ld h1]; simp [Q77]
theorem Qr.rs {H' : List AO} (q : Qr 130 H B Q es) (c : Cp H b rl m code g Qz0) (rs : Rs [b, rl, m] H H') : Qr 130 H' B Q es := by
 refine q.of fun id hB ⟨ver, L, h⟩ => rs.2 id ?_
 obtain ⟨v, h1, h2⟩ := c.ob.ex
 obtain ⟨x, hx⟩ := c.mp
 simp only [List.mem_cons, List.not_mem_nil, or_false]
 rintro (rfl | rfl | rfl)
 ·rw [h1] at h; cases h
 ·rw [h2] at h; cases h
 ·rw [hx] at h; cases h
theorem Rs.box {H' : List AO} {e : List AV} (c : Cp H b rl m code g Qz0) (rs : Rs [b, rl, m] (H ++ [.box 24 e]) H') : H'[H.length]? = some (.box 24 e) := by
 have := c.ob.ltb
 have := c.ob.ltr
 have := c.mb.2.2
 rw [rs.2 H.length (by simp; omega)]; simp
end
theorem bs5 {w : AV} (h : El true 5 w) (H : List AO) : bs1 H 5 (some w) = some (.slc 5 true true [w], H) := bs1_some h.cl h.len
def K58b : List Bool := [true, false, false, false, false, false, false, false, false, true, true, true, false, false]
def V58b (b n : Nat) (c : AV) (i : Int) (x5 x6 x12 x13 : AV) : List AV := [.ptr b 0, .junk, .junk, .junk, .junk, x5, x6, .junk, .junk, c, .v (.int .i64 n), .v (.int .i64 i), x12, x13]
theorem bd5_ok {e : AV} {t : Tm} (hT : IsT e t) (n : Nat) (vars env : List AV) : evBuild vars (e :: .v (.int .i64 (n : Int)) :: env) [.v (.int .i64 0), .v (.int .i64 0), .v (.string ⟨#[]⟩), .v (.int .i64 0), .v (.slice none 0 0)] [(0, 1, (.loc 1)), (1, 4, (.loc 0))] = some (.v (.int .i64 (n : Int)) :: e.cells) := by
 cases hT with | mk k s n c l hc => cases hc <;> rfl
theorem within_loop {K b rl m B : Nat} {c : AV} {es : List AV} {l : List Tm} (hs : Sl 4 c es) (hes : All2 es l) (hwf : wfL l) (hm : es.length ≤ 900000) :
  ∀ (l' : List Tm) (i : Nat) (H : List AO) (code : List Op5) (g : Sg) (Q : AV) (ws : List AV) (q : List (Nat × Tm)) (vars : List AV), i + l'.length = es.length → l' = l.drop i → Cp H b rl m code g Q → Qr 130 H B Q ws → AllR Wt ws q → B ≤ H.length →
   code.length + l'.length ≤ 900000 → g.next + l'.length ≤ 3000000 → ws.length + l'.length ≤ 900000 → clr K58b vars = V58b b es.length c i .junk .junk .junk .junk →
   ∃ H' Q' ws' vs', loopN (exec (callW F) K c58_15) K58b (l'.length + 1) vars H = some (.exit 2, vs', H') ∧ clr [true, false, false, false, false, false, false, false, false, false, false, false, false, false] vs' = [.ptr b 0, .junk, .junk, .junk, .junk, .junk, .junk, .junk, .junk, .junk, .junk, .junk, .junk, .junk] ∧
    Cp H' b rl m (code ++ (wArgs l' g).1) (wArgs l' g).2.2 Q' ∧ Qr 130 H' B Q' ws' ∧ AllR Wt ws' (q ++ (wArgs l' g).2.1) ∧ Gb B [b, rl, m] H H' := by
 have hll := hes.length
 intro l'
 induction l' with
 | nil =>
  intro i H code g Q ws q vars hil _ cp hQ hW hB _ _ _ hv
  have hil : i = es.length := by simpa using hil
  subst hil
  have hlt := lt_f (n := es.length)
  refine ⟨H, Q, ws, V58b b es.length c es.length .junk .junk (.v (.bool false)) .junk, ?_, rfl, by simpa [wArgs] using cp, hQ, by simpa [wArgs] using hW, .refl H⟩
  rw [List.length_nil, Nat.zero_add]
  refine loop_exit ?_
  rw [hv]
  simp only [V58b, c58_15, c58_8, hlt, Q0, Q1, Q2, Q3, Q4, Q5, Q6, Q7, Q8, Q9, Q10, Q11, Q12, Q13, Q14, Q15, Q16, Q17, Q18, Q19, Q20, Q21, Q22, Q23, Q24, Q25, Q26, Q27, Q28, Q29, Q30, Q31, Q32, Q33, Q35, Q36, Q37, Q38, Q39, Q40, Q41, Q42, Q43, Q44, Q45, Q46, Q47, Q48, Q49, Q50, Q51, Q52, Q53, Q54, Q55, Q56, Q57, Q58, Q59, Q60, Q61, Q62, Q63, Q64, Q65, Q66, Q67, Q68, Q69, Q70, Q71, Q72, Q73, Q99, Q100, Q101, Q102, Q103, Q74, Q75, Q77, Q78, Q79, Q80, Q81, Q82, Q83, Q84, clr, List.length_nil, List.length_cons, List.getElem?_cons_zero, List.getElem?_cons_succ, Nat.reduceAdd, Nat.zero_add, Nat.add_zero, Nat.reduceLeDiff, Nat.reduceSub, ↓reduceIte, List.drop_succ_cons, List.drop_zero, List.take_succ_cons, List.take_zero, Bool.false_eq_true, List.nil_append, List.cons_append, Bool.not_true, Bool.not_false, cond_true, cond_false, bne, Q85, Q86, Q87, Q88, Q89, Q90, Q91, Q92, Q93, Q94, Q95, Q96, Q97, Q98, Q110, Q111, Q116, Q117, Q118, Q119, Q120, Q121, Q122, Q123, Option.map_some, Option.map_none, Q34]
 | cons t l' ih =>
  intro i H code g Q ws q vars hil hd cp hQ hW hB hcl hnx hwl hv
  have hil' : i < es.length := by simp at hil; omega
  have hll' : i < l.length := by omega
  have hti : l[i] = t := by
   have h1 := List.drop_eq_getElem_cons hll'
   rw [← hd] at h1
   exact (List.cons.inj h1).1.symm
  have hd' : l' = l.drop (i + 1) := by
   have h1 := List.drop_eq_getElem_cons hll'
   rw [← hd] at h1
   exact (List.cons.inj h1).2
  have hT := hes.at hil' hll'
  rw [hti] at hT
  have htm : t ∈ l := by rw [← hti]; exact List.getElem_mem hll'
  have he : es[i]? = some es[i] := List.getElem?_eq_getElem hil'
  generalize es[i] = e at hT he
  have hf := hT.facts
  have q1 := fun h : List AO => hs.ia he h
  have hlt := lt_t hil'
  have hw := wrap_succ hil' (small_maxM hm)
  have q9 : ∀ h : List AO, bx h 24 (ofVal (.agg #[(.int .i64 0), (.string ⟨#[]⟩), (.int .i64 0), (.slice none 0 0)])).cl = some (.ptr h.length 0, h ++ [.box 24 [.v (.int .i64 0), .v (.string ⟨#[]⟩), .v (.int .i64 0), .v (.slice none 0 0)]]) := fun h => by rw [q9z]; rfl
  rw [show (t :: l').length + 1 = (l'.length + 1) + 1 from rfl]
  simp only [List.length_cons] at hcl hil hnx hwl
  have hbe : AO.below 0 (.box 24 e.cells) = true := hT.bel
  have cpa := cp.app (l := [.box 24 e.cells]) (by simp [below_mono (Nat.zero_le _) _ hbe])
  rcases plain_ok cpa (by omega) hT (wf_k (wfL_mem hwf t htm)) (op := 6) (r := 0) (by omega) (by omega) with ⟨hc, p1⟩ | ⟨hc, H2, p1, cp2, rs2⟩
  ·-- it waits
   obtain ⟨H1, t1, cp1, rs1⟩ := cpa.temp (by omega)
   obtain ⟨H2, g2, cp2, rs2⟩ := cp1.lay (by omega) ⟨10, 0, g.next, nos, 0⟩
   have hQ2 := ((hQ.app [.box 24 e.cells]).rs cpa rs1).rs cp1 rs2
   have hbox := Rs.box cp (rs1.trans rs2)
   have hwt : Wt (.agg (.v (.int .i64 (g.next : Int)) :: e.cells)) (g.next, t) := ⟨e, hT, rfl⟩
   have hlen2 : H2.length = H.length + 1 := by rw [(rs1.trans rs2).1]; simp
   obtain ⟨Qz3, H3, a3, cp3, hQ3, gb3⟩ := cp2.addQ hQ2 (by omega) (.agg (.v (.int .i64 (g.next : Int)) :: e.cells)) (by omega)
   obtain ⟨H4, s4, cp4, rs4⟩ := cp3.setQ hQ3.cl hQ3.bel
   have hQ4 := hQ3.rs cp3 rs4
   have ldQ := cp2.ldQ
   have lda : Q76 H2 true 4 (.ptr H.length 0) = some e := by
    rw [bx_ld hbox, if_pos (by have := hT.cl.2; omega), List.drop_zero]; exact hT.asEl
   have b5 := fun H => bs5 hwt.elm H
   have sw := fun H => hwt.elm.snap H
   have bd5 := fun vars env => bd5_ok hT g.next vars env
   have st : exec (callW F) K c58_15 (V58b b es.length c i .junk .junk .junk .junk) H = some (.normal, V58b b es.length c ((i + 1 : Nat) : Int) (.ptr H.length 0) (.v (.int .i64 g.next)) (.v (.bool true)) (.v (.bool true)), H4) := by
    simp only [o5, nos] at g2
    have ldG : Q76 (H ++ [AO.box 24 e.cells]) true 4 (.ptr H.length 0) = some e := hf.2.2.2.1 H 24
    have bdI : ∀ (vars env : List AV), evBuild vars (.v (.int .i64 (g.next : Int)) :: env) [.v (.int .i64 0), .v (.int .i64 0), .v (.int .i64 0), .v (.string ⟨#[]⟩), .v (.int .i64 0)] [(0, 1, (.k (.int .i64 10))), (2, 1, (.loc 0))] = some [.v (.int .i64 10), .v (.int .i64 0), .v (.int .i64 (g.next : Int)), .v (.string ⟨#[]⟩), .v (.int .i64 0)] := fun _ _ => rfl
    generalize hG : H ++ [AO.box 24 e.cells] = G at *
    simp only [V58b, c58_15, c58_8, c58_9, c58_10, c58_11, c58_12, c58_13, c58_14, hlt, hw, q1, hf, q9, hG, p1, t1, g2, ldG, ldQ, lda, a3, s4, bd5, b5, sw, bdI, Q104, e_append, e_callh, List.map_cons, List.map_nil, Q106, Q107, toL, and_self, Q0, Q1, Q2, Q3, Q4, Q5, Q6, Q7, Q8, Q9, Q10, Q11, Q12, Q13, Q14, Q15, Q16, Q17, Q18, Q19, Q20, Q21, Q22, Q23, Q24, Q25, Q26, Q27, Q28, Q29, Q30, Q31, Q32, Q33, Q35, Q36, Q37, Q38, Q39, Q40, Q41, Q42, Q43, Q44, Q45, Q46, Q47, Q48, Q49, Q50, Q51, Q52, Q53, Q54, Q55, Q56, Q57, Q58, Q59, Q60, Q61, Q62, Q63, Q64, Q65, Q66, Q67, Q68, Q69, Q70, Q71, Q72, Q73, Q99, Q100, Q101, Q102, Q103, Q74, Q75, Q77, Q78, Q79, Q80, Q81, Q82, Q83, Q84, clr, List.length_nil, List.length_cons, List.getElem?_cons_zero, List.getElem?_cons_succ, Nat.reduceAdd, Nat.zero_add, Nat.add_zero, Nat.reduceLeDiff, Nat.reduceSub, ↓reduceIte, List.drop_succ_cons, List.drop_zero, List.take_succ_cons, List.take_zero, Bool.false_eq_true, List.nil_append, List.cons_append, Bool.not_true, Bool.not_false, cond_true, cond_false, bne, Q85, Q86, Q87, Q88, Q89, Q90, Q91, Q92, Q93, Q94, Q95, Q96, Q97, Q98, Q110, Q111, Q116, Q117, Q118, Q119, Q120, Q121, Q122, Q123, Option.map_some, Option.map_none]
   rw [loop_normal (by rw [hv]; exact st)]
   have hl4 : H.length ≤ H4.length := by have := rs4.1; have := gb3.1; omega
   obtain ⟨H', Q', ws', vs', k1, k2, k3, k4, k5, k6⟩ := ih (i + 1) H4 _ _ Qz3 (ws ++ [.agg (.v (.int .i64 (g.next : Int)) :: e.cells)]) (q ++ [(g.next, t)]) (V58b b es.length c ((i + 1 : Nat) : Int) (.ptr H.length 0) (.v (.int .i64 g.next)) (.v (.bool true)) (.v (.bool true))) (by omega) hd' cp4 hQ4 (AllR.app hW (.one hwt)) (by omega) (by rw [List.length_append, List.length_singleton]; omega) (by simp only; omega) (by rw [List.length_append, List.length_singleton]; omega) rfl
   have hp : wArgs (t :: l') g = (⟨10, 0, g.next, nos, 0⟩ :: (wArgs l' { g with next := g.next + 1 }).1, (g.next, t) :: (wArgs l' { g with next := g.next + 1 }).2.1, (wArgs l' { g with next := g.next + 1 }).2.2) := by
    rw [wArgs]; simp only [hc, if_true]
   rw [hp]
   rw [List.append_assoc, List.singleton_append] at k3 k5
   exact ⟨H', Q', ws', vs', k1, k2, k3, k4, k5, (((Gb.app hB _).trans (rs1.trans rs2).gb).trans (gb3.trans rs4.gb)).trans k6⟩
  ·have hQ2 := (hQ.app [.box 24 e.cells]).rs cpa rs2
   have st : exec (callW F) K c58_15 (V58b b es.length c i .junk .junk .junk .junk) H = some (.normal, V58b b es.length c ((i + 1 : Nat) : Int) (.ptr H.length 0) .junk (.v (.bool true)) (.v (.bool false)), H2) := by
    simp only [V58b, c58_15, c58_8, c58_9, c58_10, c58_14, hlt, hw, q1, hf, q9, p1, e_callh, List.map_cons, List.map_nil, Q0, Q1, Q2, Q3, Q4, Q5, Q6, Q7, Q8, Q9, Q10, Q11, Q12, Q13, Q14, Q15, Q16, Q17, Q18, Q19, Q20, Q21, Q22, Q23, Q24, Q25, Q26, Q27, Q28, Q29, Q30, Q31, Q32, Q33, Q35, Q36, Q37, Q38, Q39, Q40, Q41, Q42, Q43, Q44, Q45, Q46, Q47, Q48, Q49, Q50, Q51, Q52, Q53, Q54, Q55, Q56, Q57, Q58, Q59, Q60, Q61, Q62, Q63, Q64, Q65, Q66, Q67, Q68, Q69, Q70, Q71, Q72, Q73, Q99, Q100, Q101, Q102, Q103, Q74, Q75, Q77, Q78, Q79, Q80, Q81, Q82, Q83, Q84, clr, List.length_nil, List.length_cons, List.getElem?_cons_zero, List.getElem?_cons_succ, Nat.reduceAdd, Nat.zero_add, Nat.add_zero, Nat.reduceLeDiff, Nat.reduceSub, ↓reduceIte, List.drop_succ_cons, List.drop_zero, List.take_succ_cons, List.take_zero, Bool.false_eq_true, List.nil_append, List.cons_append, Bool.not_true, Bool.not_false, cond_true, cond_false, bne, Q85, Q86, Q87, Q88, Q89, Q90, Q91, Q92, Q93, Q94, Q95, Q96, Q97, Q98, Q110, Q111, Q116, Q117, Q118, Q119, Q120, Q121, Q122, Q123, Option.map_some, Option.map_none]
   rw [loop_normal (by rw [hv]; exact st)]
   have hl2 : H2.length = H.length + 1 := by rw [rs2.1]; simp
   obtain ⟨H', Q', ws', vs', k1, k2, k3, k4, k5, k6⟩ := ih (i + 1) H2 _ _ Q ws q (V58b b es.length c ((i + 1 : Nat) : Int) (.ptr H.length 0) .junk (.v (.bool true)) (.v (.bool false))) (by omega) hd' cp2 hQ2 hW (by omega) (by rw [List.length_append, List.length_singleton]; omega) (by rw [pSg_next]; omega) (by omega) rfl
   have hp : wArgs (t :: l') g = (pIns 6 0 g t :: (wArgs l' (pSg g t)).1, (wArgs l' (pSg g t)).2.1, (wArgs l' (pSg g t)).2.2) := by
    rw [wArgs]; simp only [hc, Bool.false_eq_true, if_false]
   rw [hp]
   rw [List.append_assoc, List.singleton_append] at k3
   exact ⟨H', Q', ws', vs', k1, k2, k3, k4, k5, ((Gb.app hB _).trans rs2.gb).trans k6⟩
end Go.AE.YtinhjhkmpknbbaaDoor
end

section
namespace Go.AE.YtinhjhkmpknbbaaDoor
open Go Go.AE Go.Proofs.YtinhjhkmpknbbaaDoor

theorem callW_keep {f : FuncId} {c : CFun} {h : List AO} (hf : F f = some (.keep c)) {args : List AV} {r : AV × List AO} (hl : args.length = c.np) (k : Nat) (he : leaveKeep c (exec (callW F) k c.body (start c args) h) = some r) : callW F f args h = some r := by
 rw [callW_iff]
 cases hx : exec (callW F) k c.body (start c args) h with
 | none => rw [hx] at he; cases he
 | some q =>
  obtain ⟨n, hn⟩ := lim_exec _ _ _ _ hx
  refine ⟨max n k + 1, ?_⟩
  simp only [callN, hf, if_pos hl]
  rw [exec_mono (callN_mono F _ _ (Nat.le_max_left n k)) (Nat.le_max_right n k) _ _ _ _ hn]
  rw [hx] at he
  exact he
theorem leave_k0 {c : CFun} {vars : List AV} {H : List AO} {x : AXit} (hx : x = .ret ∨ x = .normal) (hc : c.res = []) : leaveKeep c (some (x, vars, H)) = some (.tup [], H) := by
 rcases hx with rfl | rfl <;> simp only [leaveKeep, hc, List.mapM_nil, Option.pure_def, Option.map_some, pack]
theorem Cp.obj {H H' : List AO} {o : AO} {b rl m : Nat} {code : List Op5} {g : Sg} {Qz0 : AV} (c : Cp H b rl m code g Qz0) (rs : Rs [b, rl, m] (H ++ [o]) H') : H'[H.length]? = some o := by
 have := c.ob.ltb
 have := c.ob.ltr
 have := c.mb.2.2
 rw [rs.2 H.length (by simp; omega)]; simp
def K58 : List Bool := [true, false, false, false, false, false, false, false, false, false, false, false, false, false]
def V58 (b : Nat) (x4 x8 x9 x10 x11 : AV) : List AV := [.ptr b 0, .junk, .junk, .junk, x4, .junk, .junk, .junk, x8, x9, x10, x11, .junk, .junk]
theorem sum_ge {α : Type} {f : α → Nat} : ∀ (q : List α), (∀ p ∈ q, 1 ≤ f p) → q.length ≤ (q.map f).sum
 | [], _ => by simp
 | p :: q, h => by
  have := sum_ge q fun p hp => h p (by simp [hp])
  have := h p (by simp)
  simp only [List.length_cons, List.map_cons, List.sum_cons]; omega
theorem gtr0_1 (n : Nat) : decide (((n + 1 : Nat) : Int) > 0) = true := by simp
theorem nat_0 : natV (.v (.int .i64 0)) = some 0 := rfl
theorem nat_1 : natV (.v (.int .i64 1)) = some 1 := rfl
theorem gtr0_0 : decide (((0 : Nat) : Int) > 0) = false := rfl
theorem wt_load0 {H : List AO} {id : Nat} {r n : Int} {k s c : AV} (h : H[id]? = some (.box 130 [.v (.int .i64 r), k, s, .v (.int .i64 n), c])) : Q76 H false 1 (.ptr id 0) = some (.v (.int .i64 r)) := by
 rw [bx_ld h]; rfl
theorem wt_load2 {H : List AO} {id : Nat} {r n : Int} {k c : AV} {s : ByteArray} (h : H[id]? = some (.box 130 [.v (.int .i64 r), k, .v (.string s), .v (.int .i64 n), c])) : Q76 H false 1 (.ptr id 2) = some (.v (.string s)) := by
 rw [bx_ld h]; rfl
theorem wt_load4 {H : List AO} {id : Nat} {r n : Int} {k s c : AV} (h : H[id]? = some (.box 130 [.v (.int .i64 r), k, s, .v (.int .i64 n), c])) : Q76 H false 1 (.ptr id 4) = some c := by
 rw [bx_ld h]; rfl
theorem q_loop {b rl m B K : Nat} (hK : 900001 ≤ K) : ∀ (n : Nat) (q : List (Nat × Tm)) (H : List AO) (code : List Op5) (g : Sg) (Q : AV) (ws : List AV) (vars : List AV), qC q = n → (∀ p ∈ q, wfT p.2 ∧ isC p.2 = true) → Cp H b rl m code g Q → Qr 130 H B Q ws → AllR Wt ws q → B ≤ H.length →
  code.length + (q.map fun p => kT p.2).sum ≤ 900000 → g.next + n ≤ 1900000 + q.length → clr K58 vars = V58 b .junk .junk .junk .junk .junk →
  ∃ H' Q' vs', loopN (exec (callW F) K c58_16) K58 (n + 1) vars H = some (.exit 0, vs', H') ∧ Cp H' b rl m (code ++ (getQ n q g).1) (getQ n q g).2 Q' ∧ Gb B [b, rl, m] H H' := by
 intro n
 induction n with
 | zero =>
  intro q H code g Q ws vars hn hq cp hQ hW hB _ _ hv
  cases hW with
  | cons a x es xs h hs =>
   have := cT_comp (hq x (by simp)).2
   simp [qC] at hn; omega
  | nil =>
  refine ⟨H, Q, V58 b .junk (.v (.bool false)) .junk .junk .junk, ?_, by simpa [getQ] using cp, .refl H⟩
  refine loop_exit ?_
  rw [hv]
  have ldQ := cp.ldQ
  have ln := hQ.len H
  simp only [V58, c58_16, c58_3, ldQ, ln, List.length_nil, gtr0_0, Q0, Q1, Q2, Q3, Q4, Q5, Q6, Q7, Q8, Q9, Q10, Q11, Q12, Q13, Q14, Q15, Q16, Q17, Q18, Q19, Q20, Q21, Q22, Q23, Q24, Q25, Q26, Q27, Q28, Q29, Q30, Q31, Q32, Q33, Q35, Q36, Q37, Q38, Q39, Q40, Q41, Q42, Q43, Q44, Q45, Q46, Q47, Q48, Q49, Q50, Q51, Q52, Q53, Q54, Q55, Q56, Q57, Q58, Q59, Q60, Q61, Q62, Q63, Q64, Q65, Q66, Q67, Q68, Q69, Q70, Q71, Q72, Q73, Q99, Q100, Q101, Q102, Q103, Q74, Q75, Q77, Q78, Q79, Q80, Q81, Q82, Q83, Q84, clr, List.length_nil, List.length_cons, List.getElem?_cons_zero, List.getElem?_cons_succ, Nat.reduceAdd, Nat.zero_add, Nat.add_zero, Nat.reduceLeDiff, Nat.reduceSub, ↓reduceIte, List.drop_succ_cons, List.drop_zero, List.take_succ_cons, List.take_zero, Bool.false_eq_true, List.nil_append, List.cons_append, Bool.not_true, Bool.not_false, cond_true, cond_false, bne, Q85, Q86, Q87, Q88, Q89, Q90, Q91, Q92, Q93, Q94, Q95, Q96, Q97, Q98, Q110, Q111, Q116, Q117, Q118, Q119, Q120, Q121, Q122, Q123, Option.map_some, Option.map_none]
 | succ n ih =>
  intro q H code g Q ws vars hn hq cp hQ hW hB hcl hnx hv
  cases hW with
  | nil => simp [qC] at hn
  | cons W p ws q hw hW =>
  obtain ⟨r, t⟩ := p
  have hwt := hq (r, t) (by simp)
  have hq' : ∀ p ∈ q, wfT p.2 ∧ isC p.2 = true := fun p hp => hq p (by simp [hp])
  obtain ⟨a, ha, hWe⟩ := hw
  simp only at ha hWe hwt
  have hwe : Wt W (r, t) := ⟨a, ha, hWe⟩
  obtain ⟨x, hx1, hx2⟩ := hQ.head hwe
  cases ha with
  | mk k s n' c l hc =>
  obtain ⟨es, hs, hes, hm⟩ := hc.sl
  have hll := hes.length
  have hk := kT_comp hwt.1 hwt.2
  have hct := cT_comp hwt.2
  have wl := hwt.1.l
  have hq1 : q.length ≤ (q.map fun p => kT p.2).sum := sum_ge q fun p hp => by have := kT_comp (hq' p hp).1 (hq' p hp).2; omega
  have hq2 : q.length ≤ qC q := sum_ge q fun p hp => by have := cT_comp (hq' p hp).2; omega
  simp only [Tm.l] at hk hct wl
  simp only [List.map_cons, List.sum_cons, List.length_cons] at hcl hnx
  have hqn : cT (.mk k s n' l) + qC q = n + 1 := by rw [← hn]; simp [qC]
  -- its box
  have hWc : W = .agg [.v (.int .i64 r), .v (.int .i64 k), .v (.string s), .v (.int .i64 n'), c] := hWe
  have hWcl : W.cl = some [.v (.int .i64 r), .v (.int .i64 k), .v (.string s), .v (.int .i64 n'), c] := by rw [hWc]; rfl
  have hbel : AO.below 0 (.box 130 [.v (.int .i64 r), .v (.int .i64 k), .v (.string s), .v (.int .i64 n'), c]) = true := by
   cases hc <;> rfl
  have bz : bx H 130 (ofVal (.agg #[(.int .i64 0), (.int .i64 0), (.string ⟨#[]⟩), (.int .i64 0), (.slice none 0 0)])).cl = some (.ptr H.length 0, H ++ [.box 130 [.v (.int .i64 0), .v (.int .i64 0), .v (.string ⟨#[]⟩), .v (.int .i64 0), .v (.slice none 0 0)]]) := by
   simp [ofVal, AV.cl, Value.oneCell', bx]
  have stz : Q113 (H ++ [.box 130 [.v (.int .i64 0), .v (.int .i64 0), .v (.string ⟨#[]⟩), .v (.int .i64 0), .v (.slice none 0 0)]]) 5 (.ptr H.length 0) W = some (H ++ [.box 130 [.v (.int .i64 r), .v (.int .i64 k), .v (.string s), .v (.int .i64 n'), c]]) := st_new hWcl rfl rfl
  have cpa := cp.app (l := [.box 130 [.v (.int .i64 r), .v (.int .i64 k), .v (.string s), .v (.int .i64 n'), c]]) (by simp [below_mono (Nat.zero_le _) _ hbel])
  obtain ⟨Qz1, sl1, hQ1⟩ := (hQ.app [.box 130 [.v (.int .i64 r), .v (.int .i64 k), .v (.string s), .v (.int .i64 n'), c]]).tail
  obtain ⟨H1, s1, cp1, rs1⟩ := cpa.setQ hQ1.cl hQ1.bel
  have hQ1' := hQ1.rs cpa rs1
  obtain ⟨H2, g2, cp2, rs2⟩ := cp1.lay (by omega) ⟨5, r, 0, s, l.length⟩
  have hQ2 := hQ1'.rs cp1 rs2
  have b10 := wt_load0 (cp.obj rs1)
  have b12 := wt_load2 (cp.obj rs1)
  have b14 := wt_load4 (cp.obj rs1)
  have b24 := wt_load4 (cp.obj (rs1.trans rs2))
  have hl2 : H2.length = H.length + 1 := by rw [(rs1.trans rs2).1]; simp
  obtain ⟨H3, Qz3, ws3, vs3, k1, kv, cp3, hQ3, hW3, gb3⟩ := within_loop (K := K) (B := B) hs hes wl (by omega) l 0 H2 _ g Qz1 ws q
   [.ptr b 0, .junk, .junk, .junk, .ptr H.length 0, .junk, .junk, .junk, .v (.bool true), c, .v (.int .i64 es.length), .v (.int .i64 0), .junk, .junk] (by omega) (by simp) cp2 hQ2 hW (by omega) (by rw [List.length_append, List.length_singleton]; omega) (by omega) (by have := hW.length; omega) rfl
  have ldQ := cp.ldQ
  have ln := hQ.len H
  have ldQa := cpa.ldQ
  have lnl := fun H : List AO => hs.len H
  have st : exec (callW F) K c58_16 (V58 b .junk .junk .junk .junk .junk) H = some (.normal, vs3, H3) := by
   simp only [o5] at g2
   simp only [V58, c58_16, c58_3, c58_4, c58_5, c58_6, c58_7, ldQ, ldQa, ln, gtr0_1, List.length_cons, hx1, hx2, bz, stz, sl1, s1, b10, b12, b14, b24, g2, hll, lnl, nat_0, nat_1, e_callh, List.map_cons, List.map_nil, Q106, Q109, Q108, Q107, bd1, Q111, Q100, toL, Q112, List.set_cons_zero, List.set_cons_succ, and_self, Nat.le_refl, Q0, Q1, Q2, Q3, Q4, Q5, Q6, Q7, Q8, Q9, Q10, Q11, Q12, Q13, Q14, Q15, Q16, Q17, Q18, Q19, Q20, Q21, Q22, Q23, Q24, Q25, Q26, Q27, Q28, Q29, Q30, Q31, Q32, Q33, Q35, Q36, Q37, Q38, Q39, Q40, Q41, Q42, Q43, Q44, Q45, Q46, Q47, Q48, Q49, Q50, Q51, Q52, Q53, Q54, Q55, Q56, Q57, Q58, Q59, Q60, Q61, Q62, Q63, Q64, Q65, Q66, Q67, Q68, Q69, Q70, Q71, Q72, Q73, Q99, Q100, Q101, Q102, Q103, Q74, Q75, Q77, Q78, Q79, Q80, Q81, Q82, Q83, Q84, clr, List.length_nil, List.length_cons, List.getElem?_cons_zero, List.getElem?_cons_succ, Nat.reduceAdd, Nat.zero_add, Nat.add_zero, Nat.reduceLeDiff, Nat.reduceSub, ↓reduceIte, List.drop_succ_cons, List.drop_zero, List.take_succ_cons, List.take_zero, Bool.false_eq_true, List.nil_append, List.cons_append, Bool.not_true, Bool.not_false, cond_true, cond_false, bne, Q85, Q86, Q87, Q88, Q89, Q90, Q91, Q92, Q93, Q94, Q95, Q96, Q97, Q98, Q110, Q111, Q116, Q117, Q118, Q119, Q120, Q121, Q122, Q123, Option.map_some, Option.map_none]
   rw [show loopN (exec (callW F) K c58_15) [true, false, false, false, false, false, false, false, false, true, true, true, false, false] K
     [AV.ptr b 0, AV.junk, AV.junk, AV.junk, AV.ptr H.length 0, AV.junk, AV.junk, AV.junk, AV.v (Value.bool true), c, AV.v (Value.int IntKind.i64 l.length), AV.v (Value.int IntKind.i64 0), AV.junk, AV.junk] H2 = some (.exit 2, vs3, H3) from by rw [← hll]; exact loop_more k1 (by omega)]
   rfl
  have w := wArgs_len l g
  have e1 : ((wArgs l g).2.1.map fun p => kT p.2).sum = ((comps l).map kT).sum := by
   rw [← wArgs_ws l g, List.map_map]; rfl
  rw [loop_normal (by rw [hv]; exact st)]
  obtain ⟨H', Q', vs', j1, j2, j3⟩ := ih (q ++ (wArgs l g).2.1) H3 _ _ Qz3 ws3 vs3 (by
    rw [qC_app]
    have : qC (wArgs l g).2.1 = cL l := w.2.2
    omega)
   (fun p hp => by
    rcases List.mem_append.1 hp with hp | hp
    ·exact hq' p hp
    ·have : p.2 ∈ comps l := by rw [← wArgs_ws l g]; exact List.mem_map.2 ⟨p, hp, rfl⟩
     have := List.mem_filter.1 this
     exact ⟨wfL_mem wl _ this.1, this.2⟩)
   cp3 hQ3 hW3 (by have := gb3.1; omega)
   (by rw [List.length_append, List.length_append, List.length_singleton, List.map_append, List.sum_append, e1, w.1]; omega)
   (by rw [w.2.1, List.length_append]; omega) kv
  refine ⟨H', Q', vs', j1, ?_, ((((Gb.app hB _).trans rs1.gb).trans rs2.gb).trans gb3).trans j3⟩
  rw [getQ]
  simp only [Tm.l, Tm.s]
  rw [List.append_assoc, List.append_assoc, List.singleton_append] at j2
  exact j2
theorem getT_ok {h : List AO} {b rl m : Nat} {code : List Op5} {g : Sg} {Q : AV} (cp : Cp h b rl m code g Q) {a : AV} {t : Tm} (ha : IsT a t) (hw : wfT t) {r : Nat} (hr : r ≤ 3000000) (hcl : code.length + kT t ≤ 900000) (hnx : g.next + cT t ≤ 1900000) :
  ∃ h' Q', callW F 58 [.ptr b 0, .v (.int .i64 r), a] h = some (.tup [], h') ∧ Cp h' b rl m (code ++ (getT r g t).1) (getT r g t).2 Q' ∧ Gb h.length [b, rl, m] h h' := by
 have hbe : AO.below 0 (.box 24 a.cells) = true := ha.bel
 have cpa := cp.app (l := [.box 24 a.cells]) (by simp [below_mono (Nat.zero_le _) _ hbe])
 have hf := ha.facts
 have bxt : bx h 24 (some a.cells) = some (.ptr h.length 0, h ++ [.box 24 a.cells]) := rfl
 have ldt : Q76 (h ++ [.box 24 a.cells]) true 4 (.ptr h.length 0) = some a := hf.2.2.2.1 h 24
 have hz : 1 ≤ kT t := by cases t; rw [kT, zT]; omega
 have gb0 : Gb h.length [b, rl, m] h (h ++ [.box 24 a.cells]) := Gb.app (Nat.le_refl _) _
 have cl := hf.2.2.2.2
 rcases plain_ok cpa (by omega) ha (wf_k hw) (op := 1) (r := (r : Int)) (by omega) (by omega) with ⟨hc, p1⟩ | ⟨hc, H2, p1, cp2, rs2⟩
 ·-- a compound
  have hwt : Wt (.agg (.v (.int .i64 (r : Int)) :: a.cells)) (r, t) := ⟨a, ha, rfl⟩
  obtain ⟨H1, s1, cp1, rs1⟩ := cpa.setQ (Q := .slc 5 true true [.agg (.v (.int .i64 (r : Int)) :: a.cells)]) rfl rfl
  have hl1 : H1.length = h.length + 1 := by rw [rs1.1]; simp
  have b5 := fun H => bs5 hwt.elm H
  have sw := fun H => hwt.elm.snap H
  have bd5 := fun vars env => bd5_ok ha r vars env
  obtain ⟨H', Q', vs', j1, j2, j3⟩ := q_loop (b := b) (rl := rl) (m := m) (B := h.length) (K := 900001 + cT t) (by omega) (cT t) [(r, t)] H1 code g _ [.agg (.v (.int .i64 (r : Int)) :: a.cells)]
   [.ptr b 0, .v (.int .i64 r), a, .ptr h.length 0, .v undef, .v undef, .v undef, .v (.bool false), .v undef, .v undef, .v undef, .v undef, .v undef, .v undef] (by simp [qC]) (by simp [hw, hc]) cp1 (.slc _) (.one hwt) (by omega) (by simpa using hcl) (by simp only [List.length_singleton]; omega) rfl
  refine ⟨H', Q', callW_keep (c := c58) rfl rfl (900001 + cT t) ?_, ?_, (gb0.trans rs1.gb).trans j3⟩
  ·have lv : leaveKeep c58 (some (.normal, vs', H')) = some (.tup [], H') := leave_k0 (.inr rfl) rfl
   rw [← lv]
   congr 1
   have j1' := loop_more j1 (m := 900001 + cT t) (by omega)
   rw [show c58.body = (.seq (.region [] [] c58_0) (.seq (.seq (.region [] [] c58_1) (.cond (.var 7) .ret .skip)) (.seq (.region [] [] c58_2) (.block 0 (.loop K58 [] c58_16))))) from rfl]
   generalize c58_16 = bb1 at j1' ⊢
   simp only [c58, start, List.replicate, List.append_nil, c58_0, c58_1, c58_2, bxt, cl, ldt, p1, s1, bd5, b5, sw, Q104, Q106, Q107, toL, e_callh, List.map_cons, List.map_nil, j1', Q0, Q1, Q2, Q3, Q4, Q5, Q6, Q7, Q8, Q9, Q10, Q11, Q12, Q13, Q14, Q15, Q16, Q17, Q18, Q19, Q20, Q21, Q22, Q23, Q24, Q25, Q26, Q27, Q28, Q29, Q30, Q31, Q32, Q33, Q35, Q36, Q37, Q38, Q39, Q40, Q41, Q42, Q43, Q44, Q45, Q46, Q47, Q48, Q49, Q50, Q51, Q52, Q53, Q54, Q55, Q56, Q57, Q58, Q59, Q60, Q61, Q62, Q63, Q64, Q65, Q66, Q67, Q68, Q69, Q70, Q71, Q72, Q73, Q99, Q100, Q101, Q102, Q103, Q74, Q75, Q77, Q78, Q79, Q80, Q81, Q82, Q83, Q84, clr, List.length_nil, List.length_cons, List.getElem?_cons_zero, List.getElem?_cons_succ, Nat.reduceAdd, Nat.zero_add, Nat.add_zero, Nat.reduceLeDiff, Nat.reduceSub, ↓reduceIte, List.drop_succ_cons, List.drop_zero, List.take_succ_cons, List.take_zero, Bool.false_eq_true, List.nil_append, List.cons_append, Bool.not_true, Bool.not_false, cond_true, cond_false, bne, Q85, Q86, Q87, Q88, Q89, Q90, Q91, Q92, Q93, Q94, Q95, Q96, Q97, Q98, Q110, Q111, Q116, Q117, Q118, Q119, Q120, Q121, Q122, Q123, Option.map_some, Option.map_none]
  ·rw [getT, if_pos hc]; exact j2
 ·refine ⟨H2, Q, callW_keep (c := c58) rfl rfl 0 ?_, ?_, gb0.trans rs2.gb⟩
  ·have lv : leaveKeep c58 (some (.ret, [.ptr b 0, .v (.int .i64 r), a, .ptr h.length 0, .v undef, .v undef, .v undef, .v (.bool true), .v undef, .v undef, .v undef, .v undef, .v undef, .v undef], H2)) = some (.tup [], H2) := leave_k0 (.inl rfl) rfl
   rw [← lv]
   congr 1
   simp only [c58, start, List.replicate, List.append_nil, c58_0, c58_1, bxt, cl, ldt, p1, e_callh, List.map_cons, List.map_nil, Q0, Q1, Q2, Q3, Q4, Q5, Q6, Q7, Q8, Q9, Q10, Q11, Q12, Q13, Q14, Q15, Q16, Q17, Q18, Q19, Q20, Q21, Q22, Q23, Q24, Q25, Q26, Q27, Q28, Q29, Q30, Q31, Q32, Q33, Q35, Q36, Q37, Q38, Q39, Q40, Q41, Q42, Q43, Q44, Q45, Q46, Q47, Q48, Q49, Q50, Q51, Q52, Q53, Q54, Q55, Q56, Q57, Q58, Q59, Q60, Q61, Q62, Q63, Q64, Q65, Q66, Q67, Q68, Q69, Q70, Q71, Q72, Q73, Q99, Q100, Q101, Q102, Q103, Q74, Q75, Q77, Q78, Q79, Q80, Q81, Q82, Q83, Q84, clr, List.length_nil, List.length_cons, List.getElem?_cons_zero, List.getElem?_cons_succ, Nat.reduceAdd, Nat.zero_add, Nat.add_zero, Nat.reduceLeDiff, Nat.reduceSub, ↓reduceIte, List.drop_succ_cons, List.drop_zero, List.take_succ_cons, List.take_zero, Bool.false_eq_true, List.nil_append, List.cons_append, Bool.not_true, Bool.not_false, cond_true, cond_false, bne, Q85, Q86, Q87, Q88, Q89, Q90, Q91, Q92, Q93, Q94, Q95, Q96, Q97, Q98, Q110, Q111, Q116, Q117, Q118, Q119, Q120, Q121, Q122, Q123, Option.map_some, Option.map_none]
  ·rw [getT, if_neg (by simp [hc])]; exact cp2
end Go.AE.YtinhjhkmpknbbaaDoor
end

section
namespace Go.AE.YtinhjhkmpknbbaaDoor
open Go Go.AE Go.Proofs.YtinhjhkmpknbbaaDoor

theorem putT_ok {h : List AO} {b rl m : Nat} {code : List Op5} {g : Sg} {Q : AV} (cp : Cp h b rl m code g Q) {a : AV} {t : Tm} (ha : IsT a t) (hw : wfT t) {r : Nat} (hr : r ≤ 3000000) (hcl : code.length + 2 * zT t ≤ 900000) (hnx : g.next + zT t ≤ 3000001) :
  ∃ h', callW F 60 [.ptr b 0, .v (.int .i64 r), a] h = some (.tup [], h') ∧ Cp h' b rl m (code ++ (putT r g t).1) (putT r g t).2 Q ∧ Rs [b, rl, m] h h' := by
 cases hc : isC t with
 | true =>
  obtain ⟨h', g1, g2, g3⟩ := putC_ok (SizeOf.sizeOf t + 1) t (by omega) hw hc a h code g r ha cp hcl hnx hr
  exact ⟨h', g1, by rw [putT, if_pos hc]; exact g2, g3⟩
 | false =>
  have hbe : AO.below 0 (.box 24 a.cells) = true := ha.bel
  have cpa := cp.app (l := [.box 24 a.cells]) (by simp [below_mono (Nat.zero_le _) _ hbe])
  have hf := ha.facts
  have bxt : bx h 24 (some a.cells) = some (.ptr h.length 0, h ++ [.box 24 a.cells]) := rfl
  have ldt : Q76 (h ++ [.box 24 a.cells]) true 4 (.ptr h.length 0) = some a := hf.2.2.2.1 h 24
  have hz : 1 ≤ zT t := by cases t; rw [zT]; omega
  have cl := hf.2.2.2.2
  rcases plain_ok cpa (by omega) ha (wf_k hw) (op := 11) (r := (r : Int)) (by omega) (by omega) with ⟨hc', _⟩ | ⟨_, H2, p1, cp2, rs2⟩
  ·rw [hc] at hc'; cases hc'
  obtain ⟨h3, e3, cp3, rs3⟩ := cp.part cp2 rs2
  rw [e3] at p1
  refine ⟨h3, callW_own (c := c60) rfl rfl 0 ?_, by rw [putT, if_neg (by simp [hc])]; exact cp3, rs3⟩
  have lvv : leave h.length c60 (some (.ret, [.ptr b 0, .v (.int .i64 r), a, .ptr h.length 0, .v undef, .v undef, .v undef, .v undef, .v undef, .v (.bool true), .v undef, .v undef, .v undef, .v undef, .v undef, .v undef, .v undef, .v undef, .v undef, .v undef], h3 ++ [.box 24 a.cells])) = some (.tup [], h3) := leaveN _ (.inl rfl) rfl rs3.1 (by rw [← rs3.1]; exact cp3.bel)
  rw [← lvv]
  congr 1
  rw [show c60.body = (.seq (.region [] [] c60_0) (.seq (.seq (.region [] [] c60_1) (.cond (.var 9) .ret .skip)) (.seq (.region [] [] c60_2) (.seq (.seq (.region [] [] c60_3) (.block 0 (.loop K60 [] c60_10))) (.seq (.region [] [] c60_11) (.seq (.region [] [] c60_12) (.block 2 (.loop K60b [] c60_18)))))))) from rfl]
  simp only [c60, start, List.replicate, List.append_nil, c60_0, c60_1, bxt, cl, ldt, p1, e_callh, List.map_cons, List.map_nil, Q0, Q1, Q2, Q3, Q4, Q5, Q6, Q7, Q8, Q9, Q10, Q11, Q12, Q13, Q14, Q15, Q16, Q17, Q18, Q19, Q20, Q21, Q22, Q23, Q24, Q25, Q26, Q27, Q28, Q29, Q30, Q31, Q32, Q33, Q35, Q36, Q37, Q38, Q39, Q40, Q41, Q42, Q43, Q44, Q45, Q46, Q47, Q48, Q49, Q50, Q51, Q52, Q53, Q54, Q55, Q56, Q57, Q58, Q59, Q60, Q61, Q62, Q63, Q64, Q65, Q66, Q67, Q68, Q69, Q70, Q71, Q72, Q73, Q99, Q100, Q101, Q102, Q103, Q74, Q75, Q77, Q78, Q79, Q80, Q81, Q82, Q83, Q84, clr, List.length_nil, List.length_cons, List.getElem?_cons_zero, List.getElem?_cons_succ, Nat.reduceAdd, Nat.zero_add, Nat.add_zero, Nat.reduceLeDiff, Nat.reduceSub, ↓reduceIte, List.drop_succ_cons, List.drop_zero, List.take_succ_cons, List.take_zero, Bool.false_eq_true, List.nil_append, List.cons_append, Bool.not_true, Bool.not_false, cond_true, cond_false, bne, Q85, Q86, Q87, Q88, Q89, Q90, Q91, Q92, Q93, Q94, Q95, Q96, Q97, Q98, Q110, Q111, Q116, Q117, Q118, Q119, Q120, Q121, Q122, Q123, Option.map_some, Option.map_none]
theorem putT_next (r : Nat) (g : Sg) (t : Tm) : (putT r g t).2.next ≤ g.next + zT t := by
 have := cT_le t
 cases hc : isC t with
 | true =>
  have h1 := cT_comp hc
  rw [putT, if_pos hc, putC_next]; omega
 | false => rw [putT, if_neg (by simp [hc])]; rw [pSg_next]; omega
theorem putT_len {t : Tm} (hw : wfT t) (r : Nat) (g : Sg) : (putT r g t).1.length ≤ 2 * zT t := by
 cases hc : isC t with
 | true =>
  have := kT_le t
  rw [putT, if_pos hc, putC_len r g hw hc]; exact this
 | false =>
  rw [putT, if_neg (by simp [hc])]
  cases t; rw [zT]; simp; omega
theorem getQ_next : ∀ (n : Nat) (q : List (Nat × Tm)) (g : Sg), qC q ≤ n → (∀ p ∈ q, isC p.2 = true) → (getQ n q g).2.next + q.length = g.next + qC q
 | 0, [], g, _, _ => rfl
 | 0, p :: q, g, hn, hq => by
  have := cT_comp (hq p (by simp))
  simp [qC] at hn; omega
 | n + 1, [], g, _, _ => rfl
 | n + 1, (r, t) :: q, g, hn, hq => by
  have h1 := cT_comp (hq (r, t) (by simp))
  obtain ⟨w1, w2, w3⟩ := wArgs_len t.l g
  simp only at h1
  have e1 : qC ((r, t) :: q) = cT t + qC q := by simp [qC]
  have e2 : qC (wArgs t.l g).2.1 = cL t.l := w3
  have ih := getQ_next n (q ++ (wArgs t.l g).2.1) (wArgs t.l g).2.2
   (by rw [qC_app]; omega)
   (fun p hp => by
    rcases List.mem_append.1 hp with hp | hp
    ·exact hq p (by simp [hp])
    ·have : p.2 ∈ comps t.l := by rw [← wArgs_ws t.l g]; exact List.mem_map.2 ⟨p, hp, rfl⟩
     exact (List.mem_filter.1 this).2)
  rw [qC_app, List.length_append] at ih
  simp only [getQ, List.length_cons]
  omega
theorem getT_next (r : Nat) (g : Sg) (t : Tm) : (getT r g t).2.next ≤ g.next + cT t := by
 cases hc : isC t with
 | true =>
  have := getQ_next (cT t) [(r, t)] g (by simp [qC]) (by simp [hc])
  have e : qC [(r, t)] = cT t := by simp [qC]
  rw [getT, if_pos hc]
  simp only [List.length_singleton] at this
  omega
 | false => rw [getT, if_neg (by simp [hc])]; rw [pSg_next]; omega

def K26a : List Bool := [false, true, true, true, false, false, false, false, false, true, true, true, false, false, false, false, false, false, false, false, false, false]
def V26a (B b n : Nat) (c : AV) (i : Int) (x4 x5 x12 : AV) : List AV := [.junk, .ptr B 0, .ptr (B + 1) 0, .ptr b 0, x4, x5, .junk, .junk, .junk, c, .v (.int .i64 n), .v (.int .i64 i), x12, .junk, .junk, .junk, .junk, .junk, .junk, .junk, .junk, .junk]
theorem arg1_loop {K b rl m B B' : Nat} {c : AV} {es : List AV} {l : List Tm} (hs : Sl 4 c es) (hes : All2 es l) (hwf : wfL l) (hm : es.length ≤ 900000) :
  ∀ (l' : List Tm) (i : Nat) (H : List AO) (code : List Op5) (g : Sg) (Q : AV) (vars : List AV), i + l'.length = es.length → l' = l.drop i → Cp H b rl m code g Q → B ≤ H.length →
   code.length + 2 * zL l' ≤ 900000 → g.next + zL l' ≤ 1900000 → clr K26a vars = V26a B' b es.length c i .junk .junk .junk →
   ∃ H' Q', loopN (exec (callW F) K c26_7) K26a (l'.length + 1) vars H = some (.exit 0, V26a B' b es.length c es.length .junk .junk (.v (.bool false)), H') ∧
    Cp H' b rl m (code ++ (args getT i g l').1) (args getT i g l').2 Q' ∧ Gb B [b, rl, m] H H' := by
 have hll := hes.length
 intro l'
 induction l' with
 | nil =>
  intro i H code g Q vars hil _ cp hB _ _ hv
  have hil : i = es.length := by simpa using hil
  subst hil
  have hlt := lt_f (n := es.length)
  refine ⟨H, Q, ?_, by simpa [args] using cp, .refl H⟩
  rw [List.length_nil, Nat.zero_add]
  refine loop_exit ?_
  rw [hv]
  simp only [V26a, c26_7, c26_3, hlt, Q0, Q1, Q2, Q3, Q4, Q5, Q6, Q7, Q8, Q9, Q10, Q11, Q12, Q13, Q14, Q15, Q16, Q17, Q18, Q19, Q20, Q21, Q22, Q23, Q24, Q25, Q26, Q27, Q28, Q29, Q30, Q31, Q32, Q33, Q35, Q36, Q37, Q38, Q39, Q40, Q41, Q42, Q43, Q44, Q45, Q46, Q47, Q48, Q49, Q50, Q51, Q52, Q53, Q54, Q55, Q56, Q57, Q58, Q59, Q60, Q61, Q62, Q63, Q64, Q65, Q66, Q67, Q68, Q69, Q70, Q71, Q72, Q73, Q99, Q100, Q101, Q102, Q103, Q74, Q75, Q77, Q78, Q79, Q80, Q81, Q82, Q83, Q84, clr, List.length_nil, List.length_cons, List.getElem?_cons_zero, List.getElem?_cons_succ, Nat.reduceAdd, Nat.zero_add, Nat.add_zero, Nat.reduceLeDiff, Nat.reduceSub, ↓reduceIte, List.drop_succ_cons, List.drop_zero, List.take_succ_cons, List.take_zero, Bool.false_eq_true, List.nil_append, List.cons_append, Bool.not_true, Bool.not_false, cond_true, cond_false, bne, Q85, Q86, Q87, Q88, Q89, Q90, Q91, Q92, Q93, Q94, Q95, Q96, Q97, Q98, Q110, Q111, Q116, Q117, Q118, Q119, Q120, Q121, Q122, Q123, Option.map_some, Option.map_none, Q34]
 | cons t l' ih =>
  intro i H code g Q vars hil hd cp hB hcl hnx hv
  have hil' : i < es.length := by simp at hil; omega
  have hll' : i < l.length := by omega
  have hti : l[i] = t := by
   have h1 := List.drop_eq_getElem_cons hll'
   rw [← hd] at h1
   exact (List.cons.inj h1).1.symm
  have hd' : l' = l.drop (i + 1) := by
   have h1 := List.drop_eq_getElem_cons hll'
   rw [← hd] at h1
   exact (List.cons.inj h1).2
  have hT := hes.at hil' hll'
  rw [hti] at hT
  have htm : t ∈ l := by rw [← hti]; exact List.getElem_mem hll'
  have he : es[i]? = some es[i] := List.getElem?_eq_getElem hil'
  generalize es[i] = e at hT he
  have hf := hT.facts
  have q1 := fun h : List AO => hs.ia he h
  have hlt := lt_t hil'
  have hw := wrap_succ hil' (small_maxM hm)
  have q9 : ∀ h : List AO, bx h 24 (ofVal (.agg #[(.int .i64 0), (.string ⟨#[]⟩), (.int .i64 0), (.slice none 0 0)])).cl = some (.ptr h.length 0, h ++ [.box 24 [.v (.int .i64 0), .v (.string ⟨#[]⟩), .v (.int .i64 0), .v (.slice none 0 0)]]) := fun h => by rw [q9z]; rfl
  rw [show (t :: l').length + 1 = (l'.length + 1) + 1 from rfl]
  simp only [zL] at hcl hnx
  simp only [List.length_cons] at hil
  have hbe : AO.below 0 (.box 24 e.cells) = true := hT.bel
  have cpa := cp.app (l := [.box 24 e.cells]) (by simp [below_mono (Nat.zero_le _) _ hbe])
  have kl := kT_le t
  have cl := cT_le t
  obtain ⟨H2, Qz2, g1, cp2, gb2⟩ := getT_ok cpa hT (wfL_mem hwf t htm) (r := i) (by omega) (by omega) (by omega)
  have st : exec (callW F) K c26_7 (V26a B' b es.length c i .junk .junk .junk) H = some (.normal, V26a B' b es.length c ((i + 1 : Nat) : Int) (.v (.int .i64 i)) (.ptr H.length 0) (.v (.bool true)), H2) := by
   simp only [V26a, c26_7, c26_3, c26_4, c26_5, c26_6, hlt, hw, q1, hf, q9, g1, e_callh, List.map_cons, List.map_nil, Q0, Q1, Q2, Q3, Q4, Q5, Q6, Q7, Q8, Q9, Q10, Q11, Q12, Q13, Q14, Q15, Q16, Q17, Q18, Q19, Q20, Q21, Q22, Q23, Q24, Q25, Q26, Q27, Q28, Q29, Q30, Q31, Q32, Q33, Q35, Q36, Q37, Q38, Q39, Q40, Q41, Q42, Q43, Q44, Q45, Q46, Q47, Q48, Q49, Q50, Q51, Q52, Q53, Q54, Q55, Q56, Q57, Q58, Q59, Q60, Q61, Q62, Q63, Q64, Q65, Q66, Q67, Q68, Q69, Q70, Q71, Q72, Q73, Q99, Q100, Q101, Q102, Q103, Q74, Q75, Q77, Q78, Q79, Q80, Q81, Q82, Q83, Q84, clr, List.length_nil, List.length_cons, List.getElem?_cons_zero, List.getElem?_cons_succ, Nat.reduceAdd, Nat.zero_add, Nat.add_zero, Nat.reduceLeDiff, Nat.reduceSub, ↓reduceIte, List.drop_succ_cons, List.drop_zero, List.take_succ_cons, List.take_zero, Bool.false_eq_true, List.nil_append, List.cons_append, Bool.not_true, Bool.not_false, cond_true, cond_false, bne, Q85, Q86, Q87, Q88, Q89, Q90, Q91, Q92, Q93, Q94, Q95, Q96, Q97, Q98, Q110, Q111, Q116, Q117, Q118, Q119, Q120, Q121, Q122, Q123, Option.map_some, Option.map_none]
  rw [loop_normal (by rw [hv]; exact st)]
  have hgl := getT_len (wfL_mem hwf t htm) i g
  have hgn := getT_next i g t
  have hgb : Gb B [b, rl, m] H H2 := ⟨by have := gb2.1; simp at this; omega, fun j h1 h2 => by rw [gb2.2 j (by simp; omega) h2, List.getElem?_append_left (by omega)]⟩
  obtain ⟨H', Q', k1, k2, k3⟩ := ih (i + 1) H2 _ _ Qz2 (V26a B' b es.length c ((i + 1 : Nat) : Int) (.v (.int .i64 i)) (.ptr H.length 0) (.v (.bool true))) (by omega) hd' cp2 (by have := hgb.1; omega) (by rw [List.length_append, hgl]; omega) (by omega) rfl
  refine ⟨H', Q', k1, ?_, hgb.trans k3⟩
  rw [args]
  simp only
  rw [← List.append_assoc]
  exact k2

def K26c : List Bool := [false, true, true, true, false, false, true, false, false, false, false, false, false, true, true, true, false, false, true, true, true, false]
def V26c (B b G bn : Nat) (bc : AV) (j : Int) (n : Nat) (c : AV) (i : Int) (x7 x8 x21 : AV) : List AV := [.junk, .ptr B 0, .ptr (B + 1) 0, .ptr b 0, .junk, .junk, .ptr G 0, x7, x8, .junk, .junk, .junk, .junk, bc, .v (.int .i64 bn), .v (.int .i64 j), .junk, .junk, c, .v (.int .i64 n), .v (.int .i64 i), x21]
theorem arg2_loop {K b rl m B B' G bn : Nat} {bc : AV} {j : Int} {c : AV} {es : List AV} {l : List Tm} {Q : AV} (hs : Sl 4 c es) (hes : All2 es l) (hwf : wfL l) (hm : es.length ≤ 900000) :
  ∀ (l' : List Tm) (i : Nat) (H : List AO) (code : List Op5) (g : Sg) (vars : List AV), i + l'.length = es.length → l' = l.drop i → Cp H b rl m code g Q → B ≤ H.length →
   code.length + 2 * zL l' ≤ 900000 → g.next + zL l' ≤ 3000000 → clr K26c vars = V26c B' b G bn bc j es.length c i .junk .junk .junk →
   ∃ H', loopN (exec (callW F) K c26_18) K26c (l'.length + 1) vars H = some (.exit 4, V26c B' b G bn bc j es.length c es.length .junk .junk (.v (.bool false)), H') ∧
    Cp H' b rl m (code ++ (args putT i g l').1) (args putT i g l').2 Q ∧ Gb B [b, rl, m] H H' := by
 have hll := hes.length
 intro l'
 induction l' with
 | nil =>
  intro i H code g vars hil _ cp hB _ _ hv
  have hil : i = es.length := by simpa using hil
  subst hil
  have hlt := lt_f (n := es.length)
  refine ⟨H, ?_, by simpa [args] using cp, .refl H⟩
  rw [List.length_nil, Nat.zero_add]
  refine loop_exit ?_
  rw [hv]
  simp only [V26c, c26_18, c26_14, hlt, Q0, Q1, Q2, Q3, Q4, Q5, Q6, Q7, Q8, Q9, Q10, Q11, Q12, Q13, Q14, Q15, Q16, Q17, Q18, Q19, Q20, Q21, Q22, Q23, Q24, Q25, Q26, Q27, Q28, Q29, Q30, Q31, Q32, Q33, Q35, Q36, Q37, Q38, Q39, Q40, Q41, Q42, Q43, Q44, Q45, Q46, Q47, Q48, Q49, Q50, Q51, Q52, Q53, Q54, Q55, Q56, Q57, Q58, Q59, Q60, Q61, Q62, Q63, Q64, Q65, Q66, Q67, Q68, Q69, Q70, Q71, Q72, Q73, Q99, Q100, Q101, Q102, Q103, Q74, Q75, Q77, Q78, Q79, Q80, Q81, Q82, Q83, Q84, clr, List.length_nil, List.length_cons, List.getElem?_cons_zero, List.getElem?_cons_succ, Nat.reduceAdd, Nat.zero_add, Nat.add_zero, Nat.reduceLeDiff, Nat.reduceSub, ↓reduceIte, List.drop_succ_cons, List.drop_zero, List.take_succ_cons, List.take_zero, Bool.false_eq_true, List.nil_append, List.cons_append, Bool.not_true, Bool.not_false, cond_true, cond_false, bne, Q85, Q86, Q87, Q88, Q89, Q90, Q91, Q92, Q93, Q94, Q95, Q96, Q97, Q98, Q110, Q111, Q116, Q117, Q118, Q119, Q120, Q121, Q122, Q123, Option.map_some, Option.map_none, Q34]
 | cons t l' ih =>
  intro i H code g vars hil hd cp hB hcl hnx hv
  have hil' : i < es.length := by simp at hil; omega
  have hll' : i < l.length := by omega
  have hti : l[i] = t := by
   have h1 := List.drop_eq_getElem_cons hll'
   rw [← hd] at h1
   exact (List.cons.inj h1).1.symm
  have hd' : l' = l.drop (i + 1) := by
   have h1 := List.drop_eq_getElem_cons hll'
   rw [← hd] at h1
   exact (List.cons.inj h1).2
  have hT := hes.at hil' hll'
  rw [hti] at hT
  have htm : t ∈ l := by rw [← hti]; exact List.getElem_mem hll'
  have he : es[i]? = some es[i] := List.getElem?_eq_getElem hil'
  generalize es[i] = e at hT he
  have hf := hT.facts
  have q1 := fun h : List AO => hs.ia he h
  have hlt := lt_t hil'
  have hw := wrap_succ hil' (small_maxM hm)
  have q9 : ∀ h : List AO, bx h 24 (ofVal (.agg #[(.int .i64 0), (.string ⟨#[]⟩), (.int .i64 0), (.slice none 0 0)])).cl = some (.ptr h.length 0, h ++ [.box 24 [.v (.int .i64 0), .v (.string ⟨#[]⟩), .v (.int .i64 0), .v (.slice none 0 0)]]) := fun h => by rw [q9z]; rfl
  rw [show (t :: l').length + 1 = (l'.length + 1) + 1 from rfl]
  simp only [zL] at hcl hnx
  simp only [List.length_cons] at hil
  have hbe : AO.below 0 (.box 24 e.cells) = true := hT.bel
  have cpa := cp.app (l := [.box 24 e.cells]) (by simp [below_mono (Nat.zero_le _) _ hbe])
  obtain ⟨H2, g1, cp2, rs2⟩ := putT_ok cpa hT (wfL_mem hwf t htm) (r := i) (by omega) (by omega) (by omega)
  have st : exec (callW F) K c26_18 (V26c B' b G bn bc j es.length c i .junk .junk .junk) H = some (.normal, V26c B' b G bn bc j es.length c ((i + 1 : Nat) : Int) (.v (.int .i64 i)) (.ptr H.length 0) (.v (.bool true)), H2) := by
   simp only [V26c, c26_18, c26_14, c26_15, c26_16, c26_17, hlt, hw, q1, hf, q9, g1, e_callh, List.map_cons, List.map_nil, Q0, Q1, Q2, Q3, Q4, Q5, Q6, Q7, Q8, Q9, Q10, Q11, Q12, Q13, Q14, Q15, Q16, Q17, Q18, Q19, Q20, Q21, Q22, Q23, Q24, Q25, Q26, Q27, Q28, Q29, Q30, Q31, Q32, Q33, Q35, Q36, Q37, Q38, Q39, Q40, Q41, Q42, Q43, Q44, Q45, Q46, Q47, Q48, Q49, Q50, Q51, Q52, Q53, Q54, Q55, Q56, Q57, Q58, Q59, Q60, Q61, Q62, Q63, Q64, Q65, Q66, Q67, Q68, Q69, Q70, Q71, Q72, Q73, Q99, Q100, Q101, Q102, Q103, Q74, Q75, Q77, Q78, Q79, Q80, Q81, Q82, Q83, Q84, clr, List.length_nil, List.length_cons, List.getElem?_cons_zero, List.getElem?_cons_succ, Nat.reduceAdd, Nat.zero_add, Nat.add_zero, Nat.reduceLeDiff, Nat.reduceSub, ↓reduceIte, List.drop_succ_cons, List.drop_zero, List.take_succ_cons, List.take_zero, Bool.false_eq_true, List.nil_append, List.cons_append, Bool.not_true, Bool.not_false, cond_true, cond_false, bne, Q85, Q86, Q87, Q88, Q89, Q90, Q91, Q92, Q93, Q94, Q95, Q96, Q97, Q98, Q110, Q111, Q116, Q117, Q118, Q119, Q120, Q121, Q122, Q123, Option.map_some, Option.map_none]
  rw [loop_normal (by rw [hv]; exact st)]
  have hgl := putT_len (wfL_mem hwf t htm) i g
  have hgn := putT_next i g t
  have hgb : Gb B [b, rl, m] H H2 := (Gb.app hB _).trans rs2.gb
  obtain ⟨H', k1, k2, k3⟩ := ih (i + 1) H2 _ _ (V26c B' b G bn bc j es.length c ((i + 1 : Nat) : Int) (.v (.int .i64 i)) (.ptr H.length 0) (.v (.bool true))) (by omega) hd' cp2 (by have := hgb.1; omega) (by rw [List.length_append]; omega) (by omega) rfl
  refine ⟨H', k1, ?_, hgb.trans k3⟩
  rw [args]
  simp only
  rw [← List.append_assoc]
  exact k2
end Go.AE.YtinhjhkmpknbbaaDoor
end

section
namespace Go.AE.YtinhjhkmpknbbaaDoor
open Go Go.AE Go.Proofs.YtinhjhkmpknbbaaDoor

theorem args_putT_next : ∀ (l : List Tm) (i : Nat) (g : Sg), (args putT i g l).2.next ≤ g.next + zL l
 | [], i, g => by simp [args]
 | t :: l, i, g => by
  have h1 := putT_next i g t
  have h2 := args_putT_next l (i + 1) (putT i g t).2
  simp only [args, zL]; omega
theorem args_putT_len : ∀ {l : List Tm}, wfL l → ∀ (i : Nat) (g : Sg), (args putT i g l).1.length ≤ 2 * zL l
 | [], _, i, g => by simp [args]
 | t :: l, h, i, g => by
  rw [wfL] at h
  have h1 := putT_len h.1 i g
  have h2 := args_putT_len h.2 (i + 1) (putT i g t).2
  simp only [args, zL, List.length_append]; omega
theorem args_getT_next : ∀ (l : List Tm) (i : Nat) (g : Sg), (args getT i g l).2.next ≤ g.next + zL l
 | [], i, g => by simp [args]
 | t :: l, i, g => by
  have h1 := getT_next i g t
  have h2 := args_getT_next l (i + 1) (getT i g t).2
  have h3 := cT_le t
  simp only [args, zL]; omega
theorem args_getT_len : ∀ {l : List Tm}, wfL l → ∀ (i : Nat) (g : Sg), (args getT i g l).1.length ≤ 2 * zL l
 | [], _, i, g => by simp [args]
 | t :: l, h, i, g => by
  rw [wfL] at h
  have h1 := getT_len h.1 i g
  have h2 := args_getT_len h.2 (i + 1) (getT i g t).2
  have h3 := kT_le t
  simp only [args, zL, List.length_append]; omega
theorem goalT_next (g : Sg) (t : Tm) : (goalT g t).2.next ≤ g.next + zT t := by
 rw [goalT]
 split
 ·simp
 ·have := args_putT_next t.l 0 g
  cases t; simp only [zT, Tm.l] at this ⊢; omega
theorem goalT_len {t : Tm} (h : wfT t) (g : Sg) : (goalT g t).1.length ≤ 2 * zT t := by
 rw [goalT]
 split
 ·cases t; simp only [zT, List.length_singleton]; omega
 ·have := args_putT_len h.l 0 g
  cases t; simp only [zT, Tm.l, List.length_append, List.length_singleton] at this ⊢; omega
theorem goalsT_len : ∀ {l : List Tm}, wfL l → ∀ (g : Sg), (goalsT g l).1.length ≤ 2 * zL l
 | [], _, g => by simp [goalsT]
 | t :: l, h, g => by
  rw [wfL] at h
  have h1 := goalT_len h.1 g
  have h2 := goalsT_len h.2 (goalT g t).2
  simp only [goalsT, zL, List.length_append]; omega
theorem tm_ld0 {H : List AO} {id : Nat} {k : Int} {s n c : AV} (h : H[id]? = some (.box 24 [.v (.int .i64 k), s, n, c])) : Q76 H false 1 (.ptr id 0) = some (.v (.int .i64 k)) := by
 rw [bx_ld h]; rfl
theorem tm_ld1 {H : List AO} {id : Nat} {s : ByteArray} {k n c : AV} (h : H[id]? = some (.box 24 [k, .v (.string s), n, c])) : Q76 H false 1 (.ptr id 1) = some (.v (.string s)) := by
 rw [bx_ld h]; rfl
theorem tm_ld3 {H : List AO} {id : Nat} {k s n c : AV} (h : H[id]? = some (.box 24 [k, s, n, c])) : Q76 H false 1 (.ptr id 3) = some c := by
 rw [bx_ld h]; simp [Q77]
def K26b : List Bool := [false, true, true, true, false, false, false, false, false, false, false, false, false, true, true, true, false, false, false, false, false, false]
def V26b (B b bn : Nat) (bc : AV) (j : Int) (x6 x16 x17 x18 x19 x20 x21 : AV) : List AV := [.junk, .ptr B 0, .ptr (B + 1) 0, .ptr b 0, .junk, .junk, x6, .junk, .junk, .junk, .junk, .junk, .junk, bc, .v (.int .i64 bn), .v (.int .i64 j), x16, x17, x18, x19, x20, x21]
theorem goal_loop {K b rl m B B' : Nat} {c : AV} {es : List AV} {l : List Tm} {Q : AV} (hK : 900001 ≤ K) (hs : Sl 4 c es) (hes : All2 es l) (hwf : wfL l) (hm : es.length ≤ 900000) :
  ∀ (l' : List Tm) (i : Nat) (H : List AO) (code : List Op5) (g : Sg) (vars : List AV), i + l'.length = es.length → l' = l.drop i → Cp H b rl m code g Q → B ≤ H.length →
   code.length + 2 * zL l' ≤ 900000 → g.next + zL l' ≤ 3000000 → clr K26b vars = V26b B' b es.length c i .junk .junk .junk .junk .junk .junk .junk →
   ∃ H', loopN (exec (callW F) K c26_21) K26b (l'.length + 1) vars H = some (.exit 2, V26b B' b es.length c es.length .junk (.v (.bool false)) .junk .junk .junk .junk .junk, H') ∧
    Cp H' b rl m (code ++ (goalsT g l').1) (goalsT g l').2 Q ∧ Gb B [b, rl, m] H H' := by
 have hll := hes.length
 intro l'
 induction l' with
 | nil =>
  intro i H code g vars hil _ cp hB _ _ hv
  have hil : i = es.length := by simpa using hil
  subst hil
  have hlt := lt_f (n := es.length)
  refine ⟨H, ?_, by simpa [goalsT] using cp, .refl H⟩
  rw [List.length_nil, Nat.zero_add]
  refine loop_exit ?_
  rw [hv]
  simp only [V26b, c26_21, c26_9, hlt, Q0, Q1, Q2, Q3, Q4, Q5, Q6, Q7, Q8, Q9, Q10, Q11, Q12, Q13, Q14, Q15, Q16, Q17, Q18, Q19, Q20, Q21, Q22, Q23, Q24, Q25, Q26, Q27, Q28, Q29, Q30, Q31, Q32, Q33, Q35, Q36, Q37, Q38, Q39, Q40, Q41, Q42, Q43, Q44, Q45, Q46, Q47, Q48, Q49, Q50, Q51, Q52, Q53, Q54, Q55, Q56, Q57, Q58, Q59, Q60, Q61, Q62, Q63, Q64, Q65, Q66, Q67, Q68, Q69, Q70, Q71, Q72, Q73, Q99, Q100, Q101, Q102, Q103, Q74, Q75, Q77, Q78, Q79, Q80, Q81, Q82, Q83, Q84, clr, List.length_nil, List.length_cons, List.getElem?_cons_zero, List.getElem?_cons_succ, Nat.reduceAdd, Nat.zero_add, Nat.add_zero, Nat.reduceLeDiff, Nat.reduceSub, ↓reduceIte, List.drop_succ_cons, List.drop_zero, List.take_succ_cons, List.take_zero, Bool.false_eq_true, List.nil_append, List.cons_append, Bool.not_true, Bool.not_false, cond_true, cond_false, bne, Q85, Q86, Q87, Q88, Q89, Q90, Q91, Q92, Q93, Q94, Q95, Q96, Q97, Q98, Q110, Q111, Q116, Q117, Q118, Q119, Q120, Q121, Q122, Q123, Option.map_some, Option.map_none, Q34]
 | cons t l' ih =>
  intro i H code g vars hil hd cp hB hcl hnx hv
  have hil' : i < es.length := by simp at hil; omega
  have hll' : i < l.length := by omega
  have hti : l[i] = t := by
   have h1 := List.drop_eq_getElem_cons hll'
   rw [← hd] at h1
   exact (List.cons.inj h1).1.symm
  have hd' : l' = l.drop (i + 1) := by
   have h1 := List.drop_eq_getElem_cons hll'
   rw [← hd] at h1
   exact (List.cons.inj h1).2
  have hT := hes.at hil' hll'
  rw [hti] at hT
  have htm : t ∈ l := by rw [← hti]; exact List.getElem_mem hll'
  have he : es[i]? = some es[i] := List.getElem?_eq_getElem hil'
  generalize es[i] = e at hT he
  have hf := hT.facts
  have hwt := wfL_mem hwf t htm
  have q1 := fun h : List AO => hs.ia he h
  have hlt := lt_t hil'
  have hw := wrap_succ hil' (small_maxM hm)
  have q9 : ∀ h : List AO, bx h 24 (ofVal (.agg #[(.int .i64 0), (.string ⟨#[]⟩), (.int .i64 0), (.slice none 0 0)])).cl = some (.ptr h.length 0, h ++ [.box 24 [.v (.int .i64 0), .v (.string ⟨#[]⟩), .v (.int .i64 0), .v (.slice none 0 0)]]) := fun h => by rw [q9z]; rfl
  rw [show (t :: l').length + 1 = (l'.length + 1) + 1 from rfl]
  simp only [zL] at hcl hnx
  simp only [List.length_cons] at hil
  have hz1 : 1 ≤ zT t := by cases t; rw [zT]; omega
  have hbe : AO.below 0 (.box 24 e.cells) = true := hT.bel
  have cpa := cp.app (l := [.box 24 e.cells]) (by simp [below_mono (Nat.zero_le _) _ hbe])
  have hgl := goalT_len hwt g
  have hgn := goalT_next g t
  -- what is to be shown of one goal
  suffices step : ∃ H2 vs2, exec (callW F) K c26_21 (V26b B' b es.length c i .junk .junk .junk .junk .junk .junk .junk) H = some (.normal, vs2, H2) ∧
    clr K26b vs2 = V26b B' b es.length c ((i + 1 : Nat) : Int) .junk .junk .junk .junk .junk .junk .junk ∧ Cp H2 b rl m (code ++ (goalT g t).1) (goalT g t).2 Q ∧ Gb B [b, rl, m] H H2 by
   obtain ⟨H2, vs2, st, hv2, cp2, hgb⟩ := step
   rw [loop_normal (by rw [hv]; exact st)]
   obtain ⟨H', k1, k2, k3⟩ := ih (i + 1) H2 _ _ vs2 (by omega) hd' cp2 (by have := hgb.1; omega) (by rw [List.length_append]; omega) (by omega) hv2
   refine ⟨H', k1, ?_, hgb.trans k3⟩
   rw [goalsT]
   simp only
   rw [← List.append_assoc]
   exact k2
  cases hT with
  | mk k s n c2 l2 hc2 =>
  have hob : (H ++ [AO.box 24 [.v (.int .i64 k), .v (.string s), .v (.int .i64 n), c2]])[H.length]? = some (.box 24 [.v (.int .i64 k), .v (.string s), .v (.int .i64 n), c2]) := by simp
  have o0 := tm_ld0 hob
  have o1 := tm_ld1 hob
  have o3 := tm_ld3 hob
  have b22 : ∀ (vars env : List AV), evBuild vars env [.v (.int .i64 0), .v (.int .i64 0), .v (.int .i64 0), .v (.string ⟨#[]⟩), .v (.int .i64 0)] [(0, 1, (.k (.int .i64 22)))] = some [.v (.int .i64 22), .v (.int .i64 0), .v (.int .i64 0), .v (.string ⟨#[]⟩), .v (.int .i64 0)] := fun _ _ => rfl
  cases hcut : isCut (.mk k s n l2) with
  | true =>
   have hcut' := hcut
   simp only [isCut, Tm.k, Tm.s, Bool.and_eq_true] at hcut'
   have hk2 : (k == 2) = true := hcut'.1
   have hs2 : (s.toList == (⟨#[33]⟩ : ByteArray).toList) = true := hcut'.2
   obtain ⟨H2, g1, cp2, rs2⟩ := cpa.lay (by omega) ⟨22, 0, 0, nos, 0⟩
   refine ⟨H2, V26b B' b es.length c ((i + 1 : Nat) : Int) (.ptr H.length 0) (.v (.bool true)) (.v (.bool true)) .junk .junk .junk .junk, ?_, rfl, by rw [goalT, if_pos hcut]; exact cp2, (Gb.app hB _).trans rs2.gb⟩
   simp only [o5, nos, AV.cells] at g1
   simp only [AV.cells] at hf
   simp only [V26b, c26_21, c26_9, c26_10, c26_11, c26_12, c26_20, hlt, hw, q1, hf, q9, o0, o1, hk2, hs2, g1, b22, Q122, Q106, Q107, toL, e_callh, List.map_cons, List.map_nil, Q0, Q1, Q2, Q3, Q4, Q5, Q6, Q7, Q8, Q9, Q10, Q11, Q12, Q13, Q14, Q15, Q16, Q17, Q18, Q19, Q20, Q21, Q22, Q23, Q24, Q25, Q26, Q27, Q28, Q29, Q30, Q31, Q32, Q33, Q35, Q36, Q37, Q38, Q39, Q40, Q41, Q42, Q43, Q44, Q45, Q46, Q47, Q48, Q49, Q50, Q51, Q52, Q53, Q54, Q55, Q56, Q57, Q58, Q59, Q60, Q61, Q62, Q63, Q64, Q65, Q66, Q67, Q68, Q69, Q70, Q71, Q72, Q73, Q99, Q100, Q101, Q102, Q103, Q74, Q75, Q77, Q78, Q79, Q80, Q81, Q82, Q83, Q84, clr, List.length_nil, List.length_cons, List.getElem?_cons_zero, List.getElem?_cons_succ, Nat.reduceAdd, Nat.zero_add, Nat.add_zero, Nat.reduceLeDiff, Nat.reduceSub, ↓reduceIte, List.drop_succ_cons, List.drop_zero, List.take_succ_cons, List.take_zero, Bool.false_eq_true, List.nil_append, List.cons_append, Bool.not_true, Bool.not_false, cond_true, cond_false, bne, Q85, Q86, Q87, Q88, Q89, Q90, Q91, Q92, Q93, Q94, Q95, Q96, Q97, Q98, Q110, Q111, Q116, Q117, Q118, Q119, Q120, Q121, Q122, Q123, Option.map_some, Option.map_none]
  | false =>
   obtain ⟨es2, hs2, hes2, hm2⟩ := hc2.sl
   have hll2 := hes2.length
   have hzl := zL_len l2
   rw [zT] at hcl hnx
   have wl := hwt.l
   simp only [Tm.l] at wl
   have hargl := args_putT_len wl 0 g
   obtain ⟨H3, k1, cp3, gb3⟩ := arg2_loop (K := K) (b := b) (rl := rl) (m := m) (B := H.length + 1) (B' := B') (G := H.length) (bn := es.length) (bc := c) (j := (i : Int)) (Q := Q) hs2 hes2 wl (by omega) l2 0 (H ++ [.box 24 [.v (.int .i64 k), .v (.string s), .v (.int .i64 n), c2]]) code g
    [.junk, .ptr B' 0, .ptr (B' + 1) 0, .ptr b 0, .junk, .junk, .ptr H.length 0, .junk, .junk, .junk, .junk, .junk, .junk, c, .v (.int .i64 es.length), .v (.int .i64 i), .v (.bool true), .v (.bool false), c2, .v (.int .i64 es2.length), .v (.int .i64 0), .junk] (by omega) (by simp) cpa (by simp) (by omega) (by omega) rfl
   have hno : H.length ∉ [b, rl, m] := by
    have := cp.ob.ltb
    have := cp.ob.ltr
    have := cp.mb.2.2
    simp; omega
   have hob3 : H3[H.length]? = some (.box 24 [.v (.int .i64 k), .v (.string s), .v (.int .i64 n), c2]) := by rw [gb3.2 _ (by omega) hno]; exact hob
   have p1 := tm_ld1 hob3
   have p3 := tm_ld3 hob3
   obtain ⟨H4, g4, cp4, rs4⟩ := cp3.lay (by rw [List.length_append]; omega) ⟨21, 0, 0, s, l2.length⟩
   have q2 := fun H : List AO => hs2.len H
   refine ⟨H4, V26b B' b es.length c ((i + 1 : Nat) : Int) (.ptr H.length 0) .junk .junk c2 (.v (.int .i64 es2.length)) (.v (.int .i64 es2.length)) (.v (.bool false)), ?_, rfl, ?_, ?_⟩
   ·have k1' : loopN (exec (callW F) K c26_18) K26c K [.junk, .ptr B' 0, .ptr (B' + 1) 0, .ptr b 0, .junk, .junk, .ptr H.length 0, .junk, .junk, .junk, .junk, .junk, .junk, c, .v (.int .i64 es.length), .v (.int .i64 i), .v (.bool true), .v (.bool false), c2, .v (.int .i64 es2.length), .v (.int .i64 0), .junk] (H ++ [.box 24 [.v (.int .i64 k), .v (.string s), .v (.int .i64 n), c2]]) = _ := loop_more k1 (by omega)
    have b21 : ∀ (vars env : List AV) (x1 x2 : AV), evBuild vars (.v (.int .i64 l2.length) :: x1 :: x2 :: .v (.string s) :: env) [.v (.int .i64 0), .v (.int .i64 0), .v (.int .i64 0), .v (.string ⟨#[]⟩), .v (.int .i64 0)] [(0, 1, (.k (.int .i64 21))), (3, 1, (.loc 3)), (4, 1, (.loc 0))] = some [.v (.int .i64 21), .v (.int .i64 0), .v (.int .i64 0), .v (.string s), .v (.int .i64 l2.length)] := fun _ _ _ _ => rfl
    simp only [o5] at g4
    simp only [AV.cells] at hf
    rw [← hll2] at b21 g4
    rw [show c26_21 = (.seq (.region [] [] c26_9) (.seq (.cond (.var 16) .skip (.exit 2)) (.seq (.block 3 (.seq (.region [] [] c26_10) (.seq (.seq (.region [] [] c26_11) (.cond (.var 17) (.seq (.region [] [] c26_12) (.exit 3)) .skip)) (.seq (.seq (.region [] [] c26_13) (.block 4 (.loop K26c [] c26_18))) (.region [] [] c26_19))))) (.region [] [] c26_20)))) from rfl]
    generalize c26_18 = bb1 at k1' ⊢
    have hx : (k == 2) = false ∨ ((k == 2) = true ∧ (s.toList == (⟨#[33]⟩ : ByteArray).toList) = false) := by
     have hc' : ((k == 2) && (s.toList == (⟨#[33]⟩ : ByteArray).toList)) = false := hcut
     cases h1 : (k == 2) with
     | false => exact .inl rfl
     | true =>
      rw [h1, Bool.true_and] at hc'
      exact .inr ⟨rfl, hc'⟩
    rcases hx with hk2 | ⟨hk2, hss⟩
    ·simp only [V26b, c26_9, c26_10, c26_11, c26_13, c26_19, c26_20, hlt, hw, q1, q2, hf, q9, o0, o1, o3, hk2, Q122, k1', V26c, p1, p3, b21, g4, Q106, Q107, toL, e_callh, List.map_cons, List.map_nil, Q0, Q1, Q2, Q3, Q4, Q5, Q6, Q7, Q8, Q9, Q10, Q11, Q12, Q13, Q14, Q15, Q16, Q17, Q18, Q19, Q20, Q21, Q22, Q23, Q24, Q25, Q26, Q27, Q28, Q29, Q30, Q31, Q32, Q33, Q35, Q36, Q37, Q38, Q39, Q40, Q41, Q42, Q43, Q44, Q45, Q46, Q47, Q48, Q49, Q50, Q51, Q52, Q53, Q54, Q55, Q56, Q57, Q58, Q59, Q60, Q61, Q62, Q63, Q64, Q65, Q66, Q67, Q68, Q69, Q70, Q71, Q72, Q73, Q99, Q100, Q101, Q102, Q103, Q74, Q75, Q77, Q78, Q79, Q80, Q81, Q82, Q83, Q84, clr, List.length_nil, List.length_cons, List.getElem?_cons_zero, List.getElem?_cons_succ, Nat.reduceAdd, Nat.zero_add, Nat.add_zero, Nat.reduceLeDiff, Nat.reduceSub, ↓reduceIte, List.drop_succ_cons, List.drop_zero, List.take_succ_cons, List.take_zero, Bool.false_eq_true, List.nil_append, List.cons_append, Bool.not_true, Bool.not_false, cond_true, cond_false, bne, Q85, Q86, Q87, Q88, Q89, Q90, Q91, Q92, Q93, Q94, Q95, Q96, Q97, Q98, Q110, Q111, Q116, Q117, Q118, Q119, Q120, Q121, Q122, Q123, Option.map_some, Option.map_none]
    ·simp only [V26b, c26_9, c26_10, c26_11, c26_13, c26_19, c26_20, hlt, hw, q1, q2, hf, q9, o0, o1, o3, hk2, hss, Q122, k1', V26c, p1, p3, b21, g4, Q106, Q107, toL, e_callh, List.map_cons, List.map_nil, Q0, Q1, Q2, Q3, Q4, Q5, Q6, Q7, Q8, Q9, Q10, Q11, Q12, Q13, Q14, Q15, Q16, Q17, Q18, Q19, Q20, Q21, Q22, Q23, Q24, Q25, Q26, Q27, Q28, Q29, Q30, Q31, Q32, Q33, Q35, Q36, Q37, Q38, Q39, Q40, Q41, Q42, Q43, Q44, Q45, Q46, Q47, Q48, Q49, Q50, Q51, Q52, Q53, Q54, Q55, Q56, Q57, Q58, Q59, Q60, Q61, Q62, Q63, Q64, Q65, Q66, Q67, Q68, Q69, Q70, Q71, Q72, Q73, Q99, Q100, Q101, Q102, Q103, Q74, Q75, Q77, Q78, Q79, Q80, Q81, Q82, Q83, Q84, clr, List.length_nil, List.length_cons, List.getElem?_cons_zero, List.getElem?_cons_succ, Nat.reduceAdd, Nat.zero_add, Nat.add_zero, Nat.reduceLeDiff, Nat.reduceSub, ↓reduceIte, List.drop_succ_cons, List.drop_zero, List.take_succ_cons, List.take_zero, Bool.false_eq_true, List.nil_append, List.cons_append, Bool.not_true, Bool.not_false, cond_true, cond_false, bne, Q85, Q86, Q87, Q88, Q89, Q90, Q91, Q92, Q93, Q94, Q95, Q96, Q97, Q98, Q110, Q111, Q116, Q117, Q118, Q119, Q120, Q121, Q122, Q123, Option.map_some, Option.map_none]
   ·rw [goalT, if_neg (by simp [hcut])]
    simp only [Tm.l, Tm.s]
    rw [← List.append_assoc]
    exact cp4
   ·refine (Gb.app hB _).trans (Gb.trans ⟨gb3.1, fun j h1 h2 => gb3.2 j (by omega) h2⟩ rs4.gb)

theorem leave_cell2 {c : CFun} {vars : List AV} {H : List AO} {cs ds : List AV} (hc : c.res = [.cell 2 true 4]) (hv : vars.getD 2 .junk = .ptr 1 0) (hb : H[1]? = some (.box 52 cs)) (hl : cs.length = 4) (hf : cs.mapM (AV.frz0 0 H) = some ds) : leave 0 c (some (.ret, vars, H)) = some (.agg ds, []) := by
 have ld : Q76 H true 4 (.ptr 1 0) = some (.agg cs) := by
  rw [bx_ld hb, if_pos (by omega), List.drop_zero, List.take_of_length_le (by omega)]
  match cs, hl with
  | [a, b, c, d], _ => rfl
 simp only [leave, hc, List.mapM_cons, List.mapM_nil, resOf, hv, ld, Option.pure_def, Option.bind_eq_bind, Option.bind_some, pack, AV.frz2, AV.frz1, hf, Option.map_some, Nat.zero_le, List.take_zero, List.all_nil, and_self, if_true]
def hH (cc : List AV) : List AO := [.box 46 cc, .box 52 [.v (.string ⟨#[]⟩), .v (.int .i64 0), .v (.int .i64 0), .v (.slice none 0 0)], .map (.int .i64) 0 [], .box 92 [.own 5 4 0 0 0, .mp 2, .v (.int .i64 16), .v (.slice none 0 0)], .row 58 5 0 [] 0]
theorem z4 : (ofVal (.agg #[(.string ⟨#[]⟩), (.int .i64 0), (.int .i64 0), (.slice none 0 0)])).cl = some [.v (.string ⟨#[]⟩), .v (.int .i64 0), .v (.int .i64 0), .v (.slice none 0 0)] := by simp [ofVal, AV.cl, Value.oneCell']
theorem allR_o5 : ∀ l : List Op5, AllR (fun x i => x = o5 i) (l.map o5) l
 | [] => .nil
 | i :: l => .cons _ _ _ _ rfl (allR_o5 l)
theorem clause_ok {ca : AV} {x : Cl} (hc : IsCl ca x) (w1 : wfL x.hd.l) (w2 : wfL x.body) (hz : zL x.hd.l + zL x.body ≤ 420000) : ∃ cd, callW F 26 [ca] [] = some (cd, []) ∧ IsCd cd (cdT x) := by
 cases hc with
 | mk k s n c l hcl b bl hbl vs =>
 simp only at w1 w2 hz
 simp only [Tm.l] at w1 hz
 obtain ⟨es, hs, hes, hm⟩ := hcl.sl
 obtain ⟨es2, hs2, hes2, hm2⟩ := hbl.sl
 have hll := hes.length
 have hll2 := hes2.length
 have z1 := zL_len l
 have z2 := zL_len bl
 obtain ⟨cc, hcc⟩ : ∃ cc, [AV.v (.int .i64 k), .v (.string s), .v (.int .i64 n), c, b, .v (.int .i64 vs)] = cc := ⟨_, rfl⟩
 have hbc : (AO.box 46 cc).below 5 = true := by rw [← hcc]; cases hcl <;> cases hbl <;> rfl
 have cp0 : Cp (hH cc) 3 4 2 [] ⟨[], 16⟩ (.v (.slice none 0 0)) := by
  refine ⟨⟨0, rfl, rfl⟩, ⟨0, rfl⟩, ?_⟩
  have : (hH cc).length = 5 := rfl
  rw [this]
  simp only [hH, List.all_cons, hbc, Bool.true_and]
  rfl
 obtain ⟨H1, Qz1, k1, cp1, gb1⟩ := arg1_loop (K := 900001) (B := 5) (B' := 0) hs hes w1 (by omega) l 0 (hH cc) [] ⟨[], 16⟩ _
  [.agg cc, .ptr 0 0, .ptr 1 0, .ptr 3 0, .v undef, .v undef, .v undef, .v undef, .v undef, c, .v (.int .i64 es.length), .v (.int .i64 0), .v undef, .v undef, .v undef, .v undef, .v undef, .v undef, .v undef, .v undef, .v undef, .v undef] (by omega) (by simp) cp0 (Nat.le_refl _) (by simp only [List.length_nil]; omega) (by simp only; omega) rfl
 have l1 := args_getT_len w1 0 ⟨[], 16⟩
 have n1 := args_getT_next l 0 ⟨[], 16⟩
 simp only [List.nil_append] at cp1
 obtain ⟨H2, k2, cp2, gb2⟩ := goal_loop (K := 900001) (B := 5) (B' := 0) (Nat.le_refl _) hs2 hes2 w2 (by omega) bl 0 H1 _ _
  [.junk, .ptr 0 0, .ptr 1 0, .ptr 3 0, .junk, .junk, .junk, .junk, .junk, c, .v (.int .i64 es.length), .v (.int .i64 es.length), .v (.bool false), b, .v (.int .i64 es2.length), .v (.int .i64 0), .junk, .junk, .junk, .junk, .junk, .junk] (by omega) (by simp) cp1 gb1.1 (by omega) (by simp only at n1; omega) rfl
 have l2 := goalsT_len w2 (args getT 0 ⟨[], 16⟩ l).2
 obtain ⟨H3, g3, cp3, rs3⟩ := cp2.lay (by rw [List.length_append]; omega) ⟨23, 0, 0, nos, 0⟩
 have gb3 := (gb1.trans gb2).trans rs3.gb
 have l5 : (hH cc).length = 5 := rfl
 have c0 : H1[0]? = some (.box 46 cc) := gb1.2 0 (by omega) (by simp)
 have e0 : H3[0]? = some (.box 46 cc) := gb3.2 0 (by omega) (by simp)
 have e1 : H3[1]? = some (.box 52 [.v (.string ⟨#[]⟩), .v (.int .i64 0), .v (.int .i64 0), .v (.slice none 0 0)]) := gb3.2 1 (by omega) (by simp)
 obtain ⟨ver, o1, o2⟩ := cp3.ob.ex
 have hcode : (args getT 0 ⟨[], 16⟩ l).1 ++ (goalsT (args getT 0 ⟨[], 16⟩ l).2 bl).1 ++ [⟨23, 0, 0, nos, 0⟩] = codeT ⟨.mk k s n l, bl, vs⟩ := rfl
 rw [hcode] at o1 o2
 have hlen : (codeT ⟨.mk k s n l, bl, vs⟩).length ≤ maxLen := by
  rw [← hcode, List.length_append, List.length_append, List.length_singleton]
  have : maxLen = 9223372036854775807 := rfl
  omega
 generalize hcde : codeT ⟨.mk k s n l, bl, vs⟩ = cde at *
 refine ⟨.agg [.v (.string s), .v (.int .i64 l.length), .v (.int .i64 vs), .slc 5 false false (cde.map o5)], ?_, ?_⟩
 ·refine callW_own (c := c26) rfl rfl 900001 ?_
  have ldh : ∀ {H : List AO}, H[0]? = some (.box 46 cc) → Q76 H false 1 (.ptr 0 3) = some c ∧ Q76 H false 1 (.ptr 0 4) = some b ∧ Q76 H false 1 (.ptr 0 1) = some (.v (.string s)) ∧ Q76 H false 1 (.ptr 0 5) = some (.v (.int .i64 vs)) := by
   intro H h
   rw [bx_ld h, bx_ld h, bx_ld h, bx_ld h, ← hcc]
   exact ⟨by simp [Q77], by simp [Q77], rfl, rfl⟩
  have f0 := ldh (H := hH cc) rfl
  have f1 := ldh c0
  have f3 := ldh e0
  have own1 : Q76 H3 false 1 (.ptr 3 0) = some (.own 5 4 ver 0 cde.length) := by rw [bx_ld o1]; simp [Q77]
  have sto : Q113 H3 4 (.ptr 1 0) (.agg [.v (.string s), .v (.int .i64 es.length), .v (.int .i64 vs), .own 5 4 ver 0 cde.length]) = some (H3.set 1 (.box 52 [.v (.string s), .v (.int .i64 es.length), .v (.int .i64 vs), .own 5 4 ver 0 cde.length])) := by
   rw [bx_st e1 (n := 4) (xs := [.v (.string s), .v (.int .i64 es.length), .v (.int .i64 vs), .own 5 4 ver 0 cde.length]) rfl rfl (by simp)]; rfl
  have hlt1 := (List.getElem?_eq_some_iff.1 e1).1
  have lvv : leave 0 c26 (some (.ret, [.junk, .ptr 0 0, .ptr 1 0, .ptr 3 0, .junk, .junk, .junk, .junk, .junk, .junk, .junk, .junk, .junk, b, .v (.int .i64 es2.length), .v (.int .i64 es2.length), .v (.bool false), .junk, .junk, .junk, .junk, .junk], H3.set 1 (.box 52 [.v (.string s), .v (.int .i64 es.length), .v (.int .i64 vs), .own 5 4 ver 0 cde.length]))) = some (.agg [.v (.string s), .v (.int .i64 l.length), .v (.int .i64 vs), .slc 5 false false (cde.map o5)], []) := by
   refine leave_cell2 (cs := [.v (.string s), .v (.int .i64 es.length), .v (.int .i64 vs), .own 5 4 ver 0 cde.length]) rfl rfl (by simp [hlt1]) rfl ?_
   have hr : (H3.set 1 (.box 52 [.v (.string s), .v (.int .i64 es.length), .v (.int .i64 vs), .own 5 4 ver 0 cde.length]))[4]? = some (.row 58 5 ver (cde.map o5) 0) := by
    rw [List.getElem?_set_ne (by omega)]; exact o2
   have : AV.frz0 0 (H3.set 1 (.box 52 [.v (.string s), .v (.int .i64 es.length), .v (.int .i64 vs), .own 5 4 ver 0 cde.length])) (.own 5 4 ver 0 cde.length) = some (.slc 5 false false (cde.map o5)) := by
    simp only [AV.frz0, Nat.not_lt_zero, if_false]
    rw [row_at hr (by simp)]
    simp only [List.drop_zero]
    rw [List.take_of_length_le (by simp)]
   rw [hll] at this ⊢
   simp only [List.mapM_cons, List.mapM_nil, this, Option.pure_def, Option.bind_eq_bind, Option.bind_some]
   rfl
  rw [show ([] : List AO).length = 0 from rfl, ← lvv]
  congr 1
  have q1 := fun H : List AO => hs.len H
  have q2 := fun H : List AO => hs2.len H
  have k1' : loopN (exec (callW F) 900001 c26_7) K26a 900001 _ _ = _ := loop_more k1 (by omega)
  have k2' : loopN (exec (callW F) 900001 c26_21) K26b 900001 _ _ = _ := loop_more k2 (by omega)
  have bld : ∀ (vars env : List AV) (x1 x2 x3 x5 x7 x8 x9 : AV), evBuild vars (.own 5 4 ver 0 cde.length :: x1 :: x2 :: x3 :: .v (.int .i64 vs) :: x5 :: .v (.int .i64 es.length) :: x7 :: x8 :: x9 :: .v (.string s) :: env) [.v (.string ⟨#[]⟩), .v (.int .i64 0), .v (.int .i64 0), .v (.slice none 0 0)] [(0, 1, (.loc 10)), (1, 1, (.loc 6)), (2, 1, (.loc 4)), (3, 1, (.loc 0))] = some [.v (.string s), .v (.int .i64 es.length), .v (.int .i64 vs), .own 5 4 ver 0 cde.length] := fun _ _ _ _ _ _ _ _ _ => rfl
  have b23 : ∀ (vars env : List AV), evBuild vars env [.v (.int .i64 0), .v (.int .i64 0), .v (.int .i64 0), .v (.string ⟨#[]⟩), .v (.int .i64 0)] [(0, 1, (.k (.int .i64 23)))] = some [.v (.int .i64 23), .v (.int .i64 0), .v (.int .i64 0), .v (.string ⟨#[]⟩), .v (.int .i64 0)] := fun _ _ => rfl
  have b92 : ∀ (vars env : List AV) (id : Nat), evBuild vars (.mp id :: env) [.v (.slice none 0 0), .v (.map none), .v (.int .i64 0), .v (.slice none 0 0)] [(1, 1, (.loc 0)), (2, 1, (.k (.int .i64 16)))] = some [.v (.slice none 0 0), .mp id, .v (.int .i64 16), .v (.slice none 0 0)] := fun _ _ _ => rfl
  have mk : ∀ v : List AV, doMark (.agg cc :: .ptr 0 0 :: .ptr 1 0 :: .ptr 3 0 :: v, [.box 46 cc, .box 52 [.v (.string ⟨#[]⟩), .v (.int .i64 0), .v (.int .i64 0), .v (.slice none 0 0)], .map (.int .i64) 0 [], .box 92 [.v (.slice none 0 0), .mp 2, .v (.int .i64 16), .v (.slice none 0 0)]]) (.ap 3 0 58 5) = (.agg cc :: .ptr 0 0 :: .ptr 1 0 :: .ptr 3 0 :: v, hH cc) := fun v => rfl
  rw [show c26.body = (.seq (.region [] [] c26_0) (.seq (.region [] [] c26_1) (.seq (.seq (.region [.ap 3 0 58 5] [] c26_2) (.block 0 (.loop K26a [] c26_7))) (.seq (.seq (.region [] [] c26_8) (.block 2 (.loop K26b [] c26_21))) (.seq (.region [] [] c26_22) (.seq (.region [] [] c26_23) .ret)))))) from rfl, hcc]
  simp only [o5, nos] at g3
  simp only [V26a, V26b] at k1' k2'
  generalize c26_7 = bb1 at k1' ⊢
  generalize c26_21 = bb2 at k2' ⊢
  simp only [c26, start, List.replicate, List.append_nil, List.nil_append, c26_0, c26_1, c26_2, c26_8, c26_22, c26_23, z4, Q34, Q110, e_mkmap, b92, x_region_m, List.foldl_cons, List.foldl_nil, mk, marked_eq, f0, f1, f3, q1, q2, k1', k2', g3, b23, bld, own1, sto, Q106, Q107, toL, e_callh, List.map_cons, List.map_nil, Q0, Q1, Q2, Q3, Q4, Q5, Q6, Q7, Q8, Q9, Q10, Q11, Q12, Q13, Q14, Q15, Q16, Q17, Q18, Q19, Q20, Q21, Q22, Q23, Q24, Q25, Q26, Q27, Q28, Q29, Q30, Q31, Q32, Q33, Q35, Q36, Q37, Q38, Q39, Q40, Q41, Q42, Q43, Q44, Q45, Q46, Q47, Q48, Q49, Q50, Q51, Q52, Q53, Q54, Q55, Q56, Q57, Q58, Q59, Q60, Q61, Q62, Q63, Q64, Q65, Q66, Q67, Q68, Q69, Q70, Q71, Q72, Q73, Q99, Q100, Q101, Q102, Q103, Q74, Q75, Q77, Q78, Q79, Q80, Q81, Q82, Q83, Q84, clr, List.length_nil, List.length_cons, List.getElem?_cons_zero, List.getElem?_cons_succ, Nat.reduceAdd, Nat.zero_add, Nat.add_zero, Nat.reduceLeDiff, Nat.reduceSub, ↓reduceIte, List.drop_succ_cons, List.drop_zero, List.take_succ_cons, List.take_zero, Bool.false_eq_true, List.nil_append, List.cons_append, Bool.not_true, Bool.not_false, cond_true, cond_false, bne, Q85, Q86, Q87, Q88, Q89, Q90, Q91, Q92, Q93, Q94, Q95, Q96, Q97, Q98, Q110, Q111, Q116, Q117, Q118, Q119, Q120, Q121, Q122, Q123, Option.map_some, Option.map_none]
 ·simp only [cdT, hcde]
  exact .mk _ _ _ _ _ ⟨cde.map o5, .slc false false _, allR_o5 cde, by simpa using hlen⟩
end Go.AE.YtinhjhkmpknbbaaDoor
end

section
namespace Go.AE.YtinhjhkmpknbbaaDoor
open Go Go.AE Go.Proofs.YtinhjhkmpknbbaaDoor

structure Dp (h : List AO) (b rl m : Nat) (code : List Op5) (g : Sg) : Prop where
 ex : ∃ v2 kk, Ob h b rl 97 (.own 1 m v2 0 g.met.length) [] code g.next ∧ h[m]? = some (.row 2 1 v2 (g.met.map iv) kk) ∧ kk ≤ g.met.length
 bel : h.all (AO.below h.length) = true
section
variable {h : List AO} {b rl m : Nat} {code : List Op5} {g : Sg}
theorem Dp.mb (c : Dp h b rl m code g) : b < h.length ∧ rl < h.length ∧ m < h.length ∧ m ≠ b ∧ m ≠ rl ∧ b ≠ rl := by
 obtain ⟨v2, kk, ob, hm, hk⟩ := c.ex
 obtain ⟨ver, h1, h2⟩ := ob.ex
 refine ⟨ob.ltb, ob.ltr, (List.getElem?_eq_some_iff.1 hm).1, ?_, ?_, ob.ne⟩
 ·rintro rfl; rw [h1] at hm; cases hm
 ·rintro rfl; rw [h2] at hm; cases hm
theorem Dp.nin (c : Dp h b rl m code g) {j : Nat} (hj : h.length ≤ j) : j ∉ [b, rl, m] := by
 have := c.mb
 simp; omega
theorem Dp.lay (c : Dp h b rl m code g) (hn : code.length ≤ 900000) (i : Op5) :
  ∃ h', callW F 62 [.ptr b 0, o5 i] h = some (.tup [], h') ∧ Dp h' b rl m (code ++ [i]) g ∧ Rs [b, rl, m] h h' := by
 obtain ⟨_, _, _, m1, m2, _⟩ := c.mb
 obtain ⟨v2, kk, ob, hm, hk⟩ := c.ex
 obtain ⟨h', g1, g2, g3, g4⟩ := ob.lay (f := 62) rfl c.bel hn i
 exact ⟨h', g1, ⟨⟨v2, kk, g2, (g3.2 m (by simp [m1, m2])).trans hm, hk⟩, g4⟩, g3.sub (by simp)⟩
theorem Dp.temp (c : Dp h b rl m code g) (hn : g.next ≤ 3000000) :
  ∃ h', callW F 112 [.ptr b 0] h = some (.v (.int .i64 g.next), h') ∧ Dp h' b rl m code { g with next := g.next + 1 } ∧ Rs [b, rl, m] h h' := by
 obtain ⟨_, _, _, m1, m2, _⟩ := c.mb
 obtain ⟨v2, kk, ob, hm, hk⟩ := c.ex
 obtain ⟨h', g1, g2, g3, g4⟩ := ob.temp (f := 112) rfl c.bel hn
 exact ⟨h', g1, ⟨⟨v2, kk, g2, (g3.2 m (by simp [m1, m2])).trans hm, hk⟩, g4⟩, g3.sub (by simp)⟩
theorem Dp.app (c : Dp h b rl m code g) {l : List AO} (hl : l.all (AO.below (h ++ l).length) = true) : Dp (h ++ l) b rl m code g := by
 obtain ⟨v2, kk, ob, hm, hk⟩ := c.ex
 refine ⟨⟨v2, kk, ob.app l, his_get hm, hk⟩, ?_⟩
 rw [List.all_append, Bool.and_eq_true]
 exact ⟨all_below_mono (by simp) c.bel, hl⟩
theorem Dp.of {h' : List AO} (c : Dp h b rl m code g) (e : ∀ j ∈ [b, rl, m], h'[j]? = h[j]?) (hb : h'.all (AO.below h'.length) = true) : Dp h' b rl m code g := by
 obtain ⟨v2, kk, ob, hm, hk⟩ := c.ex
 exact ⟨⟨v2, kk, ob.of (e b (by simp)) (e rl (by simp)), (e m (by simp)).trans hm, hk⟩, hb⟩
theorem Dp.part {l h2 : List AO} {code' : List Op5} {g' : Sg} (cp1 : Dp h b rl m code g) (cp2 : Dp h2 b rl m code' g') (rs : Rs [b, rl, m] (h ++ l) h2) :
  ∃ h3, h2 = h3 ++ l ∧ Dp h3 b rl m code' g' ∧ Rs [b, rl, m] h h3 := by
 obtain ⟨hlb, hlr, hlt, _⟩ := cp1.mb
 have hsz : h2.length = h.length + l.length := by rw [rs.1]; simp
 have hdrop : h2.drop h.length = l := by
  apply List.ext_getElem?
  intro j
  rw [List.getElem?_drop]
  have hj : h.length + j ∉ [b, rl, m] := by simp; omega
  rw [rs.2 _ hj, List.getElem?_append_right (by omega), Nat.add_sub_cancel_left]
 have get : ∀ j, j < h.length → (h2.take h.length)[j]? = h2[j]? := fun j hj => by rw [List.getElem?_take_of_lt hj]
 have hl : (h2.take h.length).length = h.length := by simp [hsz]
 have rs3 : Rs [b, rl, m] h (h2.take h.length) := by
  refine ⟨hl, fun j hj => ?_⟩
  by_cases hjl : j < h.length
  ·rw [get j hjl, rs.2 j hj, List.getElem?_append_left hjl]
  ·rw [List.getElem?_eq_none (by omega), List.getElem?_eq_none (by omega)]
 refine ⟨h2.take h.length, by rw [← hdrop, List.take_append_drop], cp2.of ?_ ?_, rs3⟩
 ·intro j hj
  refine get j ?_
  simp only [List.mem_cons, List.not_mem_nil, or_false] at hj
  rcases hj with rfl | rfl | rfl <;> assumption
 ·refine rs3.below cp1.bel fun j hj o ho => ?_
  obtain ⟨v2, kk, ob, hm, hk⟩ := cp2.ex
  obtain ⟨ver, e1, e2⟩ := ob.ex
  simp only [List.mem_cons, List.not_mem_nil, or_false] at hj
  rcases hj with rfl | rfl | rfl
  ·rw [(get j hlb).trans e1] at ho; cases ho
   simp [AO.below, AV.below1, AV.below0, hl, hlr, hlt]
  ·rw [(get j hlr).trans e2] at ho; cases ho; rfl
  ·rw [(get j hlt).trans hm] at ho; cases ho; rfl
theorem Dp.layA (c : Dp h b rl m code g) (hn : code.length ≤ 900000) (l : List AO) (hl : l.all (AO.below (h ++ l).length) = true) (i : Op5) :
  ∃ h', callW F 62 [.ptr b 0, o5 i] (h ++ l) = some (.tup [], h' ++ l) ∧ Dp h' b rl m (code ++ [i]) g ∧ Rs [b, rl, m] h h' := by
 obtain ⟨h2, g1, cp2, rs2⟩ := (c.app hl).lay hn i
 obtain ⟨h3, e, cp3, rs3⟩ := c.part cp2 rs2
 exact ⟨h3, by rw [g1, e], cp3, rs3⟩
theorem Dp.tempA (c : Dp h b rl m code g) (hn : g.next ≤ 3000000) (l : List AO) (hl : l.all (AO.below (h ++ l).length) = true) :
  ∃ h', callW F 112 [.ptr b 0] (h ++ l) = some (.v (.int .i64 g.next), h' ++ l) ∧ Dp h' b rl m code { g with next := g.next + 1 } ∧ Rs [b, rl, m] h h' := by
 obtain ⟨h2, g1, cp2, rs2⟩ := (c.app hl).temp hn
 obtain ⟨h3, e, cp3, rs3⟩ := c.part cp2 rs2
 exact ⟨h3, by rw [g1, e], cp3, rs3⟩
theorem Dp.has (c : Dp h b rl m code g) (hm : g.met.length ≤ 1000000) (n : Int) (l : List AO) :
  ∃ M h', (∀ l : List AO, Q76 (h ++ l) false 1 (.ptr b 1) = some M) ∧ cf (callW F) 81 (h ++ l) [M, .v (.int .i64 n)] = some (.v (.bool (g.met.contains n)), h' ++ l) ∧ Dp h' b rl m code g ∧ Rs [b, rl, m] h h' ∧ (∀ l : List AO, Q76 (h' ++ l) false 1 (.ptr b 1) = some M) := by
 obtain ⟨hlb, hlr, hlt, n1, n2, n3⟩ := c.mb
 have hc := c
 obtain ⟨v2, kk, ob, hr, hk⟩ := c.ex
 obtain ⟨ver, h1, h2⟩ := ob.ex
 have hra : ∀ l, rowAt (h ++ l) 1 m v2 (0 + g.met.length) = some (g.met.map iv, kk) := fun l => row_at (his_get hr) (by simp)
 have hrt : ∀ l, rowT (h ++ l) m = 2 := fun l => by simp only [rowT, his_get hr]
 have hrs : Rs [b, rl, m] h (h.set m (.row 2 1 v2 (g.met.map iv) (max kk (0 + g.met.length)))) := Rs.set (by simp)
 have hmm : (h.set m (.row 2 1 v2 (g.met.map iv) (max kk (0 + g.met.length))))[m]? = some (.row 2 1 v2 (g.met.map iv) (max kk (0 + g.met.length))) := by simp [hlt]
 have hbb : (h.set m (.row 2 1 v2 (g.met.map iv) (max kk (0 + g.met.length))))[b]? = some (.box 97 [.own 5 rl ver 0 code.length, .own 1 m v2 0 g.met.length, .v (.int .i64 g.next)]) := by
  rw [List.getElem?_set_ne n1]; exact h1
 refine ⟨.own 1 m v2 0 g.met.length, h.set m (.row 2 1 v2 (g.met.map iv) (max kk (0 + g.met.length))), fun l => by rw [bx_ld (his_get h1)]; simp [Q77], ?_, ⟨⟨v2, _, ob.of (List.getElem?_set_ne n1) (List.getElem?_set_ne n2), hmm, by omega⟩, ?_⟩, hrs, fun l => by rw [bx_ld (his_get hbb)]; simp [Q77]⟩
 ·refine cf_of (vs := [.slc 1 false false (g.met.map iv), .v (.int .i64 n)]) ?_ ?_ (has_ok (.slc false false _) hm n)
  ·simp only [List.foldl_cons, List.foldl_nil, raise1, raise0, raise, hra l, hrt l]
   rw [set_app hlt]
  ·have : AV.snap1 (h.set m (.row 2 1 v2 (g.met.map iv) (max kk (0 + g.met.length))) ++ l) (.own 1 m v2 0 g.met.length) = some (.slc 1 false false (g.met.map iv)) := by
    simp only [AV.snap1, AV.snap0, row_at (his_get hmm) (show 0 + g.met.length ≤ (g.met.map iv).length by simp)]
    rw [if_pos (Nat.le_max_right _ _), List.drop_zero, List.take_of_length_le (by simp)]
   simp only [List.mapM_cons, List.mapM_nil, this, snap_int, Option.pure_def, Option.bind_eq_bind, Option.bind_some]
 ·refine hrs.below c.bel fun j hj o ho => ?_
  simp only [List.mem_cons, List.not_mem_nil, or_false] at hj
  have hb := List.all_eq_true.1 c.bel
  rw [hrs.1]
  rcases hj with rfl | rfl | rfl
  ·rw [List.getElem?_set_ne n1] at ho; exact hb o (List.mem_of_getElem? ho)
  ·rw [List.getElem?_set_ne n2] at ho; exact hb o (List.mem_of_getElem? ho)
  ·rw [hmm] at ho; cases ho; rfl
theorem Dp.name (c : Dp h b rl m code g) (hl : g.met.length ≤ 900000) (n : Int) {M : AV} (hM : ∀ l : List AO, Q76 (h ++ l) false 1 (.ptr b 1) = some M) :
  ∃ M' h1 h2, (∀ l : List AO, evAppend (h ++ l) 2 1 8 M (.slc 1 true true [.v (.int .i64 n)]) = some (M', h1 ++ l)) ∧ (∀ l : List AO, Q113 (h1 ++ l) 1 (.ptr b 1) M' = some (h2 ++ l)) ∧ Dp h2 b rl m code { g with met := g.met ++ [n] } ∧ Rs [b, rl, m] h h2 := by
 obtain ⟨hlb, hlr, hlt, n1, n2, n3⟩ := c.mb
 obtain ⟨v2, kk, ob, hr, hk⟩ := c.ex
 obtain ⟨ver, h1, h2⟩ := ob.ex
 have hMe : M = .own 1 m v2 0 g.met.length := by
  have := hM []
  rw [bx_ld (his_get h1)] at this
  simpa [Q77] using this.symm
 subst hMe
 have hra : ∀ l, rowAt (h ++ l) 1 m v2 (0 + g.met.length) = some (g.met.map iv, kk) := fun l => row_at (his_get hr) (by simp)
 have hrt : ∀ l, rowT (h ++ l) m = 2 := fun l => by simp only [rowT, his_get hr]
 have fit : fits (g.met.length + 1) 8 = true := fits_small (by omega) (by omega)
 obtain ⟨k1, hk1⟩ : ∃ k1, h.set m (.row 2 1 (v2 + 1) ((g.met ++ [n]).map iv) kk) = k1 := ⟨_, rfl⟩
 have hl1 : k1.length = h.length := by rw [← hk1]; simp
 have hb1 : k1[b]? = some (.box 97 [.own 5 rl ver 0 code.length, .own 1 m v2 0 g.met.length, .v (.int .i64 g.next)]) := by rw [← hk1, List.getElem?_set_ne n1]; exact h1
 obtain ⟨k2, hk2⟩ : ∃ k2, k1.set b (.box 97 [.own 5 rl ver 0 code.length, .own 1 m (v2 + 1) 0 (g.met.length + 1), .v (.int .i64 g.next)]) = k2 := ⟨_, rfl⟩
 have hrs : Rs [b, rl, m] h k2 := by
  rw [← hk2, ← hk1]
  exact (Rs.set (by simp)).trans (Rs.set (by simp))
 have hm2 : k2[m]? = some (.row 2 1 (v2 + 1) ((g.met ++ [n]).map iv) kk) := by rw [← hk2, List.getElem?_set_ne (Ne.symm n1), ← hk1]; simp [hlt]
 have hb2 : k2[b]? = some (.box 97 [.own 5 rl ver 0 code.length, .own 1 m (v2 + 1) 0 (g.met.length + 1), .v (.int .i64 g.next)]) := by rw [← hk2]; simp [hl1, hlb]
 have hr2 : k2[rl]? = some (.row 58 5 ver (code.map o5) 0) := by rw [← hk2, List.getElem?_set_ne n3, ← hk1, List.getElem?_set_ne n2]; exact h2
 refine ⟨.own 1 m (v2 + 1) 0 (g.met.length + 1), k1, k2, fun l => ?_, fun l => ?_, ⟨⟨v2 + 1, kk, ⟨ver, ?_, hr2⟩, hm2, by simp; omega⟩, ?_⟩, hrs⟩
 ·have e : ((g.met.map iv).drop 0).take g.met.length = g.met.map iv := by rw [List.drop_zero, List.take_of_length_le (by simp)]
  rw [evAppend, elems_one]
  simp only [evAppendL, if_true, hra l, hrt l, show kk ≤ 0 + g.met.length by omega, and_self]
  rw [if_neg (by simp), if_pos (by simpa using fit), e, set_app hlt, ← hk1, List.map_append]
  rfl
 ·rw [bx_st (his_get hb1) (n := 1) (xs := [.own 1 m (v2 + 1) 0 (g.met.length + 1)]) rfl rfl (by simp), set_app (by omega), ← hk2]
  rfl
 ·rw [hb2, List.length_append]; rfl
 ·refine hrs.below c.bel fun j hj o ho => ?_
  rw [hrs.1]
  simp only [List.mem_cons, List.not_mem_nil, or_false] at hj
  rcases hj with rfl | rfl | rfl
  ·rw [hb2] at ho; cases ho
   simp [AO.below, AV.below1, AV.below0, hlr, hlt]
  ·rw [hr2] at ho; cases ho; rfl
  ·rw [hm2] at ho; cases ho; rfl
theorem bxl {H : List AO} {cs : List AV} {bt : TypeId} : (H ++ [AO.box bt cs])[H.length]? = some (.box bt cs) := by simp
theorem var_ok (c : Dp h b rl m code g) (hn : code.length ≤ 900000) (hl : g.met.length ≤ 900000) {e : AV} {t : Tm} (ht : IsT e t) (hk : t.k = 1) {op op2 a : Int} (hop : op2 = op + 1) :
  ∃ h', callW F 88 [.ptr b 0, .v (.int .i64 op), .v (.int .i64 op2), .v (.int .i64 a), e] h = some (.tup [], h') ∧ Dp h' b rl m (code ++ [pIns op a g t]) (pSg g t) ∧ Rs [b, rl, m] h h' := by
 subst hop
 have hbe : AO.below 0 (.box 24 e.cells) = true := ht.bel
 have hf := ht.facts
 cases ht with
 | mk k s n cc l hc =>
 simp only [Tm.k] at hk
 subst hk
 obtain ⟨M, h1, ldM, cf1, c1, rs1, ldM1⟩ := c.has (by omega) n [.box 24 [.v (.int .i64 1), .v (.string s), .v (.int .i64 n), cc]]
 have bxt : bx h 24 (some [.v (.int .i64 1), .v (.string s), .v (.int .i64 n), cc]) = some (.ptr h.length 0, h ++ [.box 24 [.v (.int .i64 1), .v (.string s), .v (.int .i64 n), cc]]) := rfl
 have cl := hf.2.2.2.2
 simp only [AV.cells] at cl hbe
 have ldn : ∀ H : List AO, H.length = h.length → Q76 (H ++ [.box 24 [.v (.int .i64 1), .v (.string s), .v (.int .i64 n), cc]]) false 1 (.ptr h.length 2) = some (.v (.int .i64 n)) := by
  intro H hH
  rw [← hH, bx_ld bxl]; rfl
 have ldM0 := ldM [.box 24 [.v (.int .i64 1), .v (.string s), .v (.int .i64 n), cc]]
 have ldM1' := ldM1 [.box 24 [.v (.int .i64 1), .v (.string s), .v (.int .i64 n), cc]]
 have ldn0 := ldn h rfl
 have ldn1 := ldn h1 rs1.1
 have hbl : ∀ N, ([AO.box 24 [.v (.int .i64 1), .v (.string s), .v (.int .i64 n), cc]] : List AO).all (AO.below N) = true := fun N => by simp [below_mono (Nat.zero_le _) _ hbe]
 have bld : ∀ (vars env : List AV) (o : Int) (x : AV), evBuild vars (.v (.int .i64 n) :: x :: .v (.int .i64 a) :: .v (.int .i64 o) :: env) [.v (.int .i64 0), .v (.int .i64 0), .v (.int .i64 0), .v (.string ⟨#[]⟩), .v (.int .i64 0)] [(0, 1, (.loc 3)), (1, 1, (.loc 2)), (2, 1, (.loc 0))] = some [.v (.int .i64 o), .v (.int .i64 a), .v (.int .i64 n), .v (.string ⟨#[]⟩), .v (.int .i64 0)] := fun _ _ _ _ => rfl
 have b1 : ∀ H : List AO, bs1 H 1 (some (.v (.int .i64 n))) = some (.slc 1 true true [.v (.int .i64 n)], H) := fun H => bs1_some rfl rfl
 by_cases hmem : n ∈ g.met
 ·have hct : g.met.contains n = true := by simpa using hmem
  rw [hct] at cf1
  obtain ⟨h3, g3, c3, rs3⟩ := c1.layA hn [.box 24 [.v (.int .i64 1), .v (.string s), .v (.int .i64 n), cc]] (hbl _) ⟨op + 1, a, n, nos, 0⟩
  have rs := rs1.trans rs3
  refine ⟨h3, callW_own (c := c88) rfl rfl 0 ?_, by simp only [pIns, pSg, if_true, if_pos hmem]; exact c3, rs⟩
  have lvv : leave h.length c88 (some (.normal, [.ptr b 0, .v (.int .i64 op), .v (.int .i64 (op + 1)), .v (.int .i64 a), .agg [.v (.int .i64 1), .v (.string s), .v (.int .i64 n), cc], .ptr h.length 0, .v (.int .i64 (op + 1)), .v (.bool false)], h3 ++ [.box 24 [.v (.int .i64 1), .v (.string s), .v (.int .i64 n), cc]])) = some (.tup [], h3) := leaveN _ (.inr rfl) rfl rs.1 (by rw [← rs.1]; exact c3.bel)
  rw [← lvv]
  congr 1
  simp only [o5, nos] at g3
  simp only [c88, start, List.replicate, List.append_nil, c88_0, c88_1, c88_2, c88_5, bxt, cl, ldM0, ldn0, ldn1, cf1, e_callf, bld, g3, Q106, Q107, toL, e_callh, List.map_cons, List.map_nil, Q0, Q1, Q2, Q3, Q4, Q5, Q6, Q7, Q8, Q9, Q10, Q11, Q12, Q13, Q14, Q15, Q16, Q17, Q18, Q19, Q20, Q21, Q22, Q23, Q24, Q25, Q26, Q27, Q28, Q29, Q30, Q31, Q32, Q33, Q35, Q36, Q37, Q38, Q39, Q40, Q41, Q42, Q43, Q44, Q45, Q46, Q47, Q48, Q49, Q50, Q51, Q52, Q53, Q54, Q55, Q56, Q57, Q58, Q59, Q60, Q61, Q62, Q63, Q64, Q65, Q66, Q67, Q68, Q69, Q70, Q71, Q72, Q73, Q99, Q100, Q101, Q102, Q103, Q74, Q75, Q77, Q78, Q79, Q80, Q81, Q82, Q83, Q84, clr, List.length_nil, List.length_cons, List.getElem?_cons_zero, List.getElem?_cons_succ, Nat.reduceAdd, Nat.zero_add, Nat.add_zero, Nat.reduceLeDiff, Nat.reduceSub, ↓reduceIte, List.drop_succ_cons, List.drop_zero, List.take_succ_cons, List.take_zero, Bool.false_eq_true, List.nil_append, List.cons_append, Bool.not_true, Bool.not_false, cond_true, cond_false, bne, Q85, Q86, Q87, Q88, Q89, Q90, Q91, Q92, Q93, Q94, Q95, Q96, Q97, Q98, Q110, Q111, Q116, Q117, Q118, Q119, Q120, Q121, Q122, Q123, Option.map_some, Option.map_none]
 ·have hct : g.met.contains n = false := by simpa using hmem
  rw [hct] at cf1
  obtain ⟨M', h2a, h2, ap2, st2, c2, rs2⟩ := c1.name hl n ldM1
  obtain ⟨h3, g3, c3, rs3⟩ := c2.layA hn [.box 24 [.v (.int .i64 1), .v (.string s), .v (.int .i64 n), cc]] (hbl _) ⟨op, a, n, nos, 0⟩
  have rs := (rs1.trans rs2).trans rs3
  have ldn2 := ldn h2 (rs2.1.trans rs1.1)
  have ap2' := ap2 [.box 24 [.v (.int .i64 1), .v (.string s), .v (.int .i64 n), cc]]
  have st2' := st2 [.box 24 [.v (.int .i64 1), .v (.string s), .v (.int .i64 n), cc]]
  refine ⟨h3, callW_own (c := c88) rfl rfl 0 ?_, by simp only [pIns, pSg, if_true, if_neg hmem]; exact c3, rs⟩
  have lvv : leave h.length c88 (some (.normal, [.ptr b 0, .v (.int .i64 op), .v (.int .i64 (op + 1)), .v (.int .i64 a), .agg [.v (.int .i64 1), .v (.string s), .v (.int .i64 n), cc], .ptr h.length 0, .v (.int .i64 op), .v (.bool true)], h3 ++ [.box 24 [.v (.int .i64 1), .v (.string s), .v (.int .i64 n), cc]])) = some (.tup [], h3) := leaveN _ (.inr rfl) rfl rs.1 (by rw [← rs.1]; exact c3.bel)
  rw [← lvv]
  congr 1
  simp only [o5, nos] at g3
  simp only [c88, start, List.replicate, List.append_nil, c88_0, c88_1, c88_2, c88_3, c88_4, c88_5, bxt, cl, ldM0, ldM1', ldn0, ldn1, ldn2, cf1, e_callf, b1, snap_int, Q104, e_append, ap2', st2', bld, g3, Q106, Q107, toL, e_callh, List.map_cons, List.map_nil, Q0, Q1, Q2, Q3, Q4, Q5, Q6, Q7, Q8, Q9, Q10, Q11, Q12, Q13, Q14, Q15, Q16, Q17, Q18, Q19, Q20, Q21, Q22, Q23, Q24, Q25, Q26, Q27, Q28, Q29, Q30, Q31, Q32, Q33, Q35, Q36, Q37, Q38, Q39, Q40, Q41, Q42, Q43, Q44, Q45, Q46, Q47, Q48, Q49, Q50, Q51, Q52, Q53, Q54, Q55, Q56, Q57, Q58, Q59, Q60, Q61, Q62, Q63, Q64, Q65, Q66, Q67, Q68, Q69, Q70, Q71, Q72, Q73, Q99, Q100, Q101, Q102, Q103, Q74, Q75, Q77, Q78, Q79, Q80, Q81, Q82, Q83, Q84, clr, List.length_nil, List.length_cons, List.getElem?_cons_zero, List.getElem?_cons_succ, Nat.reduceAdd, Nat.zero_add, Nat.add_zero, Nat.reduceLeDiff, Nat.reduceSub, ↓reduceIte, List.drop_succ_cons, List.drop_zero, List.take_succ_cons, List.take_zero, Bool.false_eq_true, List.nil_append, List.cons_append, Bool.not_true, Bool.not_false, cond_true, cond_false, bne, Q85, Q86, Q87, Q88, Q89, Q90, Q91, Q92, Q93, Q94, Q95, Q96, Q97, Q98, Q110, Q111, Q116, Q117, Q118, Q119, Q120, Q121, Q122, Q123, Option.map_some, Option.map_none]
end
end Go.AE.YtinhjhkmpknbbaaDoor
end

section
namespace Go.AE.YtinhjhkmpknbbaaDoor
open Go Go.AE Go.Proofs.YtinhjhkmpknbbaaDoor

section
variable {rt : TypeId} {h H : List AO} {B b rl m : Nat} {code : List Op5} {g : Sg} {Q : AV} {es ys : List AV}
theorem Dp.obj {H' : List AO} {o : AO} (c : Dp H b rl m code g) (rs : Rs [b, rl, m] (H ++ [o]) H') : H'[H.length]? = some o := by
 rw [rs.2 H.length (c.nin (Nat.le_refl _))]; simp
theorem Dp.pre {code' : List Op5} {g' : Sg} (c : Dp h b rl m code g) (c2 : Dp H b rl m code' g') (gb : Gb h.length [b, rl, m] h H) : ∃ h3 l, H = h3 ++ l ∧ Dp h3 b rl m code' g' ∧ Rs [b, rl, m] h h3 := by
 obtain ⟨hlb, hlr, hlt, _⟩ := c.mb
 have hle := gb.1
 have get : ∀ j, j < h.length → (H.take h.length)[j]? = H[j]? := fun j hj => by rw [List.getElem?_take_of_lt hj]
 have hl : (H.take h.length).length = h.length := by simp [hle]
 have rs3 : Rs [b, rl, m] h (H.take h.length) := by
  refine ⟨hl, fun j hj => ?_⟩
  by_cases hjl : j < h.length
  ·rw [get j hjl, gb.2 j hjl hj]
  ·rw [List.getElem?_eq_none (by omega), List.getElem?_eq_none (by omega)]
 refine ⟨H.take h.length, H.drop h.length, (List.take_append_drop _ _).symm, c2.of ?_ ?_, rs3⟩
 ·intro j hj
  refine get j ?_
  simp only [List.mem_cons, List.not_mem_nil, or_false] at hj
  rcases hj with rfl | rfl | rfl <;> assumption
 ·refine rs3.below c.bel fun j hj o ho => ?_
  obtain ⟨v2, kk, ob, hm, hk⟩ := c2.ex
  obtain ⟨ver, e1, e2⟩ := ob.ex
  simp only [List.mem_cons, List.not_mem_nil, or_false] at hj
  rcases hj with rfl | rfl | rfl
  ·rw [(get j hlb).trans e1] at ho; cases ho
   simp [AO.below, AV.below1, AV.below0, hl, hlr, hlt]
  ·rw [(get j hlr).trans e2] at ho; cases ho; rfl
  ·rw [(get j hlt).trans hm] at ho; cases ho; rfl
def Hd (x : AV) (es : List AV) : Prop := (x = .v (.slice none 0 0) ∧ es = []) ∨ ∃ ex, x = .slc 5 ex ex es
theorem Hd.elems {x : AV} (a : Hd x es) (H : List AO) : elemsOf H 5 x = some es := by
 rcases a with ⟨rfl, rfl⟩ | ⟨ex, rfl⟩ <;> rfl
theorem Dp.addQ (c : Dp H b rl m code g) (q : Qr rt H B Q es) (hB : B ≤ H.length) (hb : b < B) (hr : rl < B) (hm : m < B) {x : AV} (hx : elemsOf H 5 x = some ys) (hf : es.length + ys.length ≤ 950000) :
  ∃ Q' H', evAppend H rt 5 64 Q x = some (Q', H') ∧ Dp H' b rl m code g ∧ Qr rt H' B Q' (es ++ ys) ∧ Gb B [b, rl, m] H H' := by
 have fit : fits (es.length + ys.length) 64 = true := fits_small (by omega) (by omega)
 rw [evAppend, hx]
 by_cases hy : ys = []
 ·subst hy
  refine ⟨Q, H, ?_, c, by simpa using q, .refl H⟩
  cases q with
  | nil => rfl
  | slc es => simp [evAppendL]
  | own id ver off L es hr hd ho hBi =>
   have ht : rowT H id = rt := by simp only [rowT, hr]
   simp only [evAppendL, if_true, row_at hr (show off + es.length ≤ L.length by omega), ht, Nat.zero_le, and_self]
 ·have hbr : ∀ L v k, (AO.row rt 5 v L k).below 0 = true := fun _ _ _ => rfl
  cases q with
  | nil =>
   refine ⟨.own 5 H.length 0 0 ys.length, H ++ [.row rt 5 0 ys 0], ?_, c.app (by rfl), Qr.own (rt := rt) (H := H ++ [.row rt 5 0 ys 0]) (B := B) H.length 0 0 ys ys (by simp) (by simp) (by simp) hB, Gb.app hB _⟩
   have fit' : fits ys.length 64 = true := by simpa using fit
   simp [evAppendL, hy, fit']
  | slc es =>
   refine ⟨.own 5 H.length 0 0 (es.length + ys.length), H ++ [.row rt 5 0 (es ++ ys) 0], ?_, c.app (by rfl), ?_, Gb.app hB _⟩
   ·simp [evAppendL, hy, fit]
   ·have := Qr.own (rt := rt) (H := H ++ [.row rt 5 0 (es ++ ys) 0]) (B := B) H.length 0 0 (es ++ ys) (es ++ ys) (by simp) (by simp) (by simp) hB
    rwa [List.length_append] at this
  | own id ver off L es hr' hd ho hBi =>
   have hlt := (List.getElem?_eq_some_iff.1 hr').1
   have ht : rowT H id = rt := by simp only [rowT, hr']
   have htk : (L.drop off).take es.length = es := by rw [hd, List.take_of_length_le (Nat.le_refl _)]
   have rs : ∀ j, j ≠ id → (H.set id (.row rt 5 (ver + 1) (es ++ ys) 0))[j]? = H[j]? := fun j hj => List.getElem?_set_ne (Ne.symm hj)
   refine ⟨.own 5 id (ver + 1) 0 (es.length + ys.length), H.set id (.row rt 5 (ver + 1) (es ++ ys) 0), ?_, c.of ?_ ?_, ?_, ⟨by simp, fun j h1 h2 => rs j (by omega)⟩⟩
   ·simp only [evAppendL, if_true, row_at hr' (show off + es.length ≤ L.length by omega), ht, Nat.zero_le, and_self, htk]
    rw [if_neg hy, if_pos fit]
    simp
   ·intro j hj
    simp only [List.mem_cons, List.not_mem_nil, or_false] at hj
    exact rs j (by omega)
   ·have hb := c.bel
    rw [List.all_eq_true] at hb ⊢
    intro o ho
    rw [List.length_set]
    rcases List.mem_or_eq_of_mem_set ho with h' | rfl
    ·exact hb o h'
    ·rfl
   ·have := Qr.own (rt := rt) (H := H.set id (.row rt 5 (ver + 1) (es ++ ys) 0)) (B := B) id (ver + 1) 0 (es ++ ys) (es ++ ys) (by simp [hlt]) (by simp) (by simp) hBi
    rwa [List.length_append] at this
theorem Qr.rsB {H' : List AO} (q : Qr rt H B Q es) (hb : b < B) (hr : rl < B) (hm : m < B) (rs : Rs [b, rl, m] H H') : Qr rt H' B Q es :=
 q.of fun id hB _ => rs.2 id (by simp; omega)
theorem Qr.frz (q : Qr rt H B Q es) : ∃ R, Q.frz2 B H = some R ∧ (R = .v (.slice none 0 0) ∧ es = [] ∨ ∃ ex nn, R = .slc 5 ex nn es) := by
 cases q with
 | nil => exact ⟨_, rfl, .inl ⟨rfl, rfl⟩⟩
 | slc es => exact ⟨_, rfl, .inr ⟨_, _, rfl⟩⟩
 | own id ver off L es hr hd ho hB =>
  refine ⟨.slc 5 false false es, ?_, .inr ⟨_, _, rfl⟩⟩
  simp only [AV.frz2, AV.frz1, AV.frz0, Nat.not_lt.2 hB, if_false, row_at hr (show off + es.length ≤ L.length by omega), hd]
  rw [List.take_of_length_le (Nat.le_refl _)]
end
def K89 : List Bool := [true, false, false, false, false, true, false, false, true, true, true, false, false, false, false, false]
def V89 (b n : Nat) (c : AV) (i : Int) (Q x6 x7 x11 x12 x13 x14 x15 : AV) : List AV := [.ptr b 0, .junk, .junk, .junk, .junk, Q, x6, x7, c, .v (.int .i64 n), .v (.int .i64 i), x11, x12, x13, x14, x15]
theorem pSg_len (g : Sg) (t : Tm) : (pSg g t).met.length ≤ g.met.length + 1 := by
 cases t with | mk k s n l =>
 simp only [pSg]
 split
 ·split <;> simp
 ·omega
theorem within2_loop {K b rl m B : Nat} (hbB : b < B) (hrB : rl < B) (hmB : m < B) {c : AV} {es : List AV} {l : List Tm} (hs : Sl 4 c es) (hes : All2 es l) (hwf : wfL l) (hm : es.length ≤ 900000) :
  ∀ (l' : List Tm) (i : Nat) (H : List AO) (code : List Op5) (g : Sg) (Q : AV) (ws : List AV) (q : List (Nat × Tm)) (vars : List AV), i + l'.length = es.length → l' = l.drop i → Dp H b rl m code g → Qr 134 H B Q ws → AllR Wt ws q → B ≤ H.length →
   code.length + l'.length ≤ 900000 → g.next + l'.length ≤ 3000000 → g.met.length + l'.length ≤ 900000 → ws.length + l'.length ≤ 900000 → clr K89 vars = V89 b es.length c i Q .junk .junk .junk .junk .junk .junk .junk →
   ∃ H' Q' ws', loopN (exec (callW F) K c89_17) K89 (l'.length + 1) vars H = some (.exit 0, V89 b es.length c es.length Q' .junk .junk (.v (.bool false)) .junk .junk .junk .junk, H') ∧
    Dp H' b rl m (code ++ (wArgs l' g).1) (wArgs l' g).2.2 ∧ Qr 134 H' B Q' ws' ∧ AllR Wt ws' (q ++ (wArgs l' g).2.1) ∧ Gb B [b, rl, m] H H' := by
 have hll := hes.length
 intro l'
 induction l' with
 | nil =>
  intro i H code g Q ws q vars hil _ cp hQ hW hB _ _ _ _ hv
  have hil : i = es.length := by simpa using hil
  subst hil
  have hlt := lt_f (n := es.length)
  refine ⟨H, Q, ws, ?_, by simpa [wArgs] using cp, hQ, by simpa [wArgs] using hW, .refl H⟩
  rw [List.length_nil, Nat.zero_add]
  refine loop_exit ?_
  rw [hv]
  simp only [V89, c89_17, c89_4, hlt, Q0, Q1, Q2, Q3, Q4, Q5, Q6, Q7, Q8, Q9, Q10, Q11, Q12, Q13, Q14, Q15, Q16, Q17, Q18, Q19, Q20, Q21, Q22, Q23, Q24, Q25, Q26, Q27, Q28, Q29, Q30, Q31, Q32, Q33, Q35, Q36, Q37, Q38, Q39, Q40, Q41, Q42, Q43, Q44, Q45, Q46, Q47, Q48, Q49, Q50, Q51, Q52, Q53, Q54, Q55, Q56, Q57, Q58, Q59, Q60, Q61, Q62, Q63, Q64, Q65, Q66, Q67, Q68, Q69, Q70, Q71, Q72, Q73, Q99, Q100, Q101, Q102, Q103, Q74, Q75, Q77, Q78, Q79, Q80, Q81, Q82, Q83, Q84, clr, List.length_nil, List.length_cons, List.getElem?_cons_zero, List.getElem?_cons_succ, Nat.reduceAdd, Nat.zero_add, Nat.add_zero, Nat.reduceLeDiff, Nat.reduceSub, ↓reduceIte, List.drop_succ_cons, List.drop_zero, List.take_succ_cons, List.take_zero, Bool.false_eq_true, List.nil_append, List.cons_append, Bool.not_true, Bool.not_false, cond_true, cond_false, bne, Q85, Q86, Q87, Q88, Q89, Q90, Q91, Q92, Q93, Q94, Q95, Q96, Q97, Q98, Q110, Q111, Q116, Q117, Q118, Q119, Q120, Q121, Q122, Q123, Option.map_some, Option.map_none, Q34]
 | cons t l' ih =>
  intro i H code g Q ws q vars hil hd cp hQ hW hB hcl hnx hml hwl hv
  have hil' : i < es.length := by simp at hil; omega
  have hll' : i < l.length := by omega
  have hti : l[i] = t := by
   have h1 := List.drop_eq_getElem_cons hll'
   rw [← hd] at h1
   exact (List.cons.inj h1).1.symm
  have hd' : l' = l.drop (i + 1) := by
   have h1 := List.drop_eq_getElem_cons hll'
   rw [← hd] at h1
   exact (List.cons.inj h1).2
  have hT := hes.at hil' hll'
  rw [hti] at hT
  have htm : t ∈ l := by rw [← hti]; exact List.getElem_mem hll'
  have he : es[i]? = some es[i] := List.getElem?_eq_getElem hil'
  generalize es[i] = e at hT he
  have hf := hT.facts
  have q1 := fun h : List AO => hs.ia he h
  have hlt := lt_t hil'
  have hw := wrap_succ hil' (small_maxM hm)
  have q9 : ∀ h : List AO, bx h 24 (ofVal (.agg #[(.int .i64 0), (.string ⟨#[]⟩), (.int .i64 0), (.slice none 0 0)])).cl = some (.ptr h.length 0, h ++ [.box 24 [.v (.int .i64 0), .v (.string ⟨#[]⟩), .v (.int .i64 0), .v (.slice none 0 0)]]) := fun h => by rw [q9z]; rfl
  rw [show (t :: l').length + 1 = (l'.length + 1) + 1 from rfl]
  simp only [List.length_cons] at hcl hil hnx hwl hml
  have hbe : AO.below 0 (.box 24 e.cells) = true := hT.bel
  have cpa := cp.app (l := [.box 24 e.cells]) (by simp [below_mono (Nat.zero_le _) _ hbe])
  have hwt := wfL_mem hwf t htm
  have hQa := hQ.app [.box 24 e.cells]
  have gba : Gb B [b, rl, m] H (H ++ [.box 24 e.cells]) := Gb.app hB _
  cases hc : isC t with
  | false =>
   -- an instruction of its own
   suffices step : ∃ H2 vs2, exec (callW F) K c89_17 (V89 b es.length c i Q .junk .junk .junk .junk .junk .junk .junk) H = some (.normal, vs2, H2) ∧
     clr K89 vs2 = V89 b es.length c ((i + 1 : Nat) : Int) Q .junk .junk .junk .junk .junk .junk .junk ∧ Dp H2 b rl m (code ++ [pIns 6 0 g t]) (pSg g t) ∧ Rs [b, rl, m] (H ++ [.box 24 e.cells]) H2 by
    obtain ⟨H2, vs2, st, hv2, cp2, rs2⟩ := step
    rw [loop_normal (by rw [hv]; exact st)]
    have hl2 : H2.length = H.length + 1 := by rw [rs2.1]; simp
    have hp := pSg_len g t
    obtain ⟨H', Q', ws', k1, k2, k3, k4, k5⟩ := ih (i + 1) H2 _ _ Q ws q vs2 (by omega) hd' cp2 (hQa.rsB hbB hrB hmB rs2) hW (by omega) (by rw [List.length_append, List.length_singleton]; omega) (by rw [pSg_next]; omega) (by omega) (by omega) hv2
    have hp : wArgs (t :: l') g = (pIns 6 0 g t :: (wArgs l' (pSg g t)).1, (wArgs l' (pSg g t)).2.1, (wArgs l' (pSg g t)).2.2) := by
     rw [wArgs]; simp only [hc, Bool.false_eq_true, if_false]
    rw [hp]
    rw [List.append_assoc, List.singleton_append] at k2
    exact ⟨H', Q', ws', k1, k2, k3, k4, (gba.trans rs2.gb).trans k5⟩
   have hk := wf_k hwt hc
   have ldt : Q76 (H ++ [.box 24 e.cells]) true 4 (.ptr H.length 0) = some e := hf.2.2.2.1 H 24
   cases hT with
   | mk k s n cc l2 hcc =>
   have hob : (H ++ [AO.box 24 [.v (.int .i64 k), .v (.string s), .v (.int .i64 n), cc]])[H.length]? = some (.box 24 [.v (.int .i64 k), .v (.string s), .v (.int .i64 n), cc]) := bxl
   have o0 := tm_ld0 hob
   have o1 := tm_ld1 hob
   have o2 : Q76 (H ++ [AO.box 24 [.v (.int .i64 k), .v (.string s), .v (.int .i64 n), cc]]) false 1 (.ptr H.length 2) = some (.v (.int .i64 n)) := by rw [bx_ld hob]; rfl
   simp only [Tm.k] at hk
   simp only [AV.cells] at hf cpa ldt
   rcases hk with rfl | rfl | rfl
   ·obtain ⟨H2, g1, cp2, rs2⟩ := var_ok cpa (by omega) (by omega) (.mk 1 s n cc l2 hcc) rfl (op := 6) (op2 := 7) (a := 0) rfl
    refine ⟨H2, V89 b es.length c ((i + 1 : Nat) : Int) Q (.ptr H.length 0) .junk (.v (.bool true)) (.v (.int .i64 1)) (.v (.bool true)) .junk .junk, ?_, rfl, cp2, rs2⟩
    have e1 : ((1 : Int) == 1) = true := rfl
    simp only [V89, c89_17, c89_4, c89_5, c89_6, c89_7, c89_8, c89_16, hlt, hw, q1, hf, q9, o0, ldt, e1, g1, e_callh, List.map_cons, List.map_nil, Q0, Q1, Q2, Q3, Q4, Q5, Q6, Q7, Q8, Q9, Q10, Q11, Q12, Q13, Q14, Q15, Q16, Q17, Q18, Q19, Q20, Q21, Q22, Q23, Q24, Q25, Q26, Q27, Q28, Q29, Q30, Q31, Q32, Q33, Q35, Q36, Q37, Q38, Q39, Q40, Q41, Q42, Q43, Q44, Q45, Q46, Q47, Q48, Q49, Q50, Q51, Q52, Q53, Q54, Q55, Q56, Q57, Q58, Q59, Q60, Q61, Q62, Q63, Q64, Q65, Q66, Q67, Q68, Q69, Q70, Q71, Q72, Q73, Q99, Q100, Q101, Q102, Q103, Q74, Q75, Q77, Q78, Q79, Q80, Q81, Q82, Q83, Q84, clr, List.length_nil, List.length_cons, List.getElem?_cons_zero, List.getElem?_cons_succ, Nat.reduceAdd, Nat.zero_add, Nat.add_zero, Nat.reduceLeDiff, Nat.reduceSub, ↓reduceIte, List.drop_succ_cons, List.drop_zero, List.take_succ_cons, List.take_zero, Bool.false_eq_true, List.nil_append, List.cons_append, Bool.not_true, Bool.not_false, cond_true, cond_false, bne, Q85, Q86, Q87, Q88, Q89, Q90, Q91, Q92, Q93, Q94, Q95, Q96, Q97, Q98, Q110, Q111, Q116, Q117, Q118, Q119, Q120, Q121, Q122, Q123, Option.map_some, Option.map_none]
   ·obtain ⟨H2, g1, cp2, rs2⟩ := cpa.lay (by omega) ⟨8, 0, 0, s, 0⟩
    have bld : ∀ (vars env : List AV), evBuild vars (.v (.string s) :: env) [.v (.int .i64 0), .v (.int .i64 0), .v (.int .i64 0), .v (.string ⟨#[]⟩), .v (.int .i64 0)] [(0, 1, (.k (.int .i64 8))), (3, 1, (.loc 0))] = some [.v (.int .i64 8), .v (.int .i64 0), .v (.int .i64 0), .v (.string s), .v (.int .i64 0)] := fun _ _ => rfl
    refine ⟨H2, V89 b es.length c ((i + 1 : Nat) : Int) Q (.ptr H.length 0) .junk (.v (.bool true)) (.v (.int .i64 2)) (.v (.bool false)) (.v (.bool true)) .junk, ?_, rfl, cp2, rs2⟩
    have e1 : ((2 : Int) == 1) = false := rfl
    have e2 : ((2 : Int) == 2) = true := rfl
    simp only [o5] at g1
    simp only [V89, c89_17, c89_4, c89_5, c89_6, c89_7, c89_9, c89_10, c89_16, hlt, hw, q1, hf, q9, o0, o1, bld, Q106, Q107, toL, e1, e2, g1, e_callh, List.map_cons, List.map_nil, Q0, Q1, Q2, Q3, Q4, Q5, Q6, Q7, Q8, Q9, Q10, Q11, Q12, Q13, Q14, Q15, Q16, Q17, Q18, Q19, Q20, Q21, Q22, Q23, Q24, Q25, Q26, Q27, Q28, Q29, Q30, Q31, Q32, Q33, Q35, Q36, Q37, Q38, Q39, Q40, Q41, Q42, Q43, Q44, Q45, Q46, Q47, Q48, Q49, Q50, Q51, Q52, Q53, Q54, Q55, Q56, Q57, Q58, Q59, Q60, Q61, Q62, Q63, Q64, Q65, Q66, Q67, Q68, Q69, Q70, Q71, Q72, Q73, Q99, Q100, Q101, Q102, Q103, Q74, Q75, Q77, Q78, Q79, Q80, Q81, Q82, Q83, Q84, clr, List.length_nil, List.length_cons, List.getElem?_cons_zero, List.getElem?_cons_succ, Nat.reduceAdd, Nat.zero_add, Nat.add_zero, Nat.reduceLeDiff, Nat.reduceSub, ↓reduceIte, List.drop_succ_cons, List.drop_zero, List.take_succ_cons, List.take_zero, Bool.false_eq_true, List.nil_append, List.cons_append, Bool.not_true, Bool.not_false, cond_true, cond_false, bne, Q85, Q86, Q87, Q88, Q89, Q90, Q91, Q92, Q93, Q94, Q95, Q96, Q97, Q98, Q110, Q111, Q116, Q117, Q118, Q119, Q120, Q121, Q122, Q123, Option.map_some, Option.map_none]
   ·obtain ⟨H2, g1, cp2, rs2⟩ := cpa.lay (by omega) ⟨9, 0, 0, nos, n⟩
    have bld : ∀ (vars env : List AV), evBuild vars (.v (.int .i64 n) :: env) [.v (.int .i64 0), .v (.int .i64 0), .v (.int .i64 0), .v (.string ⟨#[]⟩), .v (.int .i64 0)] [(0, 1, (.k (.int .i64 9))), (4, 1, (.loc 0))] = some [.v (.int .i64 9), .v (.int .i64 0), .v (.int .i64 0), .v (.string ⟨#[]⟩), .v (.int .i64 n)] := fun _ _ => rfl
    refine ⟨H2, V89 b es.length c ((i + 1 : Nat) : Int) Q (.ptr H.length 0) .junk (.v (.bool true)) (.v (.int .i64 3)) (.v (.bool false)) (.v (.bool false)) (.v (.bool true)), ?_, rfl, cp2, rs2⟩
    have e1 : ((3 : Int) == 1) = false := rfl
    have e2 : ((3 : Int) == 2) = false := rfl
    have e3 : ((3 : Int) == 3) = true := rfl
    simp only [o5, nos] at g1
    simp only [V89, c89_17, c89_4, c89_5, c89_6, c89_7, c89_9, c89_11, c89_12, c89_16, hlt, hw, q1, hf, q9, o0, o2, bld, Q106, Q107, toL, e1, e2, e3, g1, e_callh, List.map_cons, List.map_nil, Q0, Q1, Q2, Q3, Q4, Q5, Q6, Q7, Q8, Q9, Q10, Q11, Q12, Q13, Q14, Q15, Q16, Q17, Q18, Q19, Q20, Q21, Q22, Q23, Q24, Q25, Q26, Q27, Q28, Q29, Q30, Q31, Q32, Q33, Q35, Q36, Q37, Q38, Q39, Q40, Q41, Q42, Q43, Q44, Q45, Q46, Q47, Q48, Q49, Q50, Q51, Q52, Q53, Q54, Q55, Q56, Q57, Q58, Q59, Q60, Q61, Q62, Q63, Q64, Q65, Q66, Q67, Q68, Q69, Q70, Q71, Q72, Q73, Q99, Q100, Q101, Q102, Q103, Q74, Q75, Q77, Q78, Q79, Q80, Q81, Q82, Q83, Q84, clr, List.length_nil, List.length_cons, List.getElem?_cons_zero, List.getElem?_cons_succ, Nat.reduceAdd, Nat.zero_add, Nat.add_zero, Nat.reduceLeDiff, Nat.reduceSub, ↓reduceIte, List.drop_succ_cons, List.drop_zero, List.take_succ_cons, List.take_zero, Bool.false_eq_true, List.nil_append, List.cons_append, Bool.not_true, Bool.not_false, cond_true, cond_false, bne, Q85, Q86, Q87, Q88, Q89, Q90, Q91, Q92, Q93, Q94, Q95, Q96, Q97, Q98, Q110, Q111, Q116, Q117, Q118, Q119, Q120, Q121, Q122, Q123, Option.map_some, Option.map_none]
  | true =>
   -- it waits
   have hk4 : t.k = 4 := of_decide_eq_true hc
   obtain ⟨H1, t1, cp1, rs1⟩ := cpa.temp (by omega)
   obtain ⟨H2, g2, cp2, rs2⟩ := cp1.lay (by omega) ⟨10, 0, g.next, nos, 0⟩
   have rsT := rs1.trans rs2
   have hQ2 := hQa.rsB hbB hrB hmB rsT
   have hbox := cp.obj rsT
   have hwt' : Wt (.agg (.v (.int .i64 (g.next : Int)) :: e.cells)) (g.next, t) := ⟨e, hT, rfl⟩
   have hlen2 : H2.length = H.length + 1 := by rw [rsT.1]; simp
   obtain ⟨Qz3, H3, a3, cp3, hQ3, gb3⟩ := cp2.addQ hQ2 (by omega) hbB hrB hmB (x := .slc 5 true true [.agg (.v (.int .i64 (g.next : Int)) :: e.cells)]) rfl (by simp only [List.length_singleton]; omega)
   have lda : Q76 H2 true 4 (.ptr H.length 0) = some e := by
    rw [bx_ld hbox, if_pos (by have := hT.cl.2; omega), List.drop_zero]; exact hT.asEl
   have b5 := fun H => bs5 hwt'.elm H
   have sw := fun H => hwt'.elm.snap H
   have bd5 := fun vars env => bd5_ok hT g.next vars env
   have o0 : Q76 (H ++ [AO.box 24 e.cells]) false 1 (.ptr H.length 0) = some (.v (.int .i64 4)) := by rw [box_k hT, hk4]
   have st : exec (callW F) K c89_17 (V89 b es.length c i Q .junk .junk .junk .junk .junk .junk .junk) H = some (.normal, V89 b es.length c ((i + 1 : Nat) : Int) Qz3 (.ptr H.length 0) (.v (.int .i64 g.next)) (.v (.bool true)) (.v (.int .i64 4)) (.v (.bool false)) (.v (.bool false)) (.v (.bool false)), H3) := by
    simp only [o5, nos] at g2
    have bdI : ∀ (vars env : List AV), evBuild vars (.v (.int .i64 (g.next : Int)) :: env) [.v (.int .i64 0), .v (.int .i64 0), .v (.int .i64 0), .v (.string ⟨#[]⟩), .v (.int .i64 0)] [(0, 1, (.k (.int .i64 10))), (2, 1, (.loc 0))] = some [.v (.int .i64 10), .v (.int .i64 0), .v (.int .i64 (g.next : Int)), .v (.string ⟨#[]⟩), .v (.int .i64 0)] := fun _ _ => rfl
    have e1 : ((4 : Int) == 1) = false := rfl
    have e2 : ((4 : Int) == 2) = false := rfl
    have e3 : ((4 : Int) == 3) = false := rfl
    generalize hG : H ++ [AO.box 24 e.cells] = G at *
    simp only [V89, c89_17, c89_4, c89_5, c89_6, c89_7, c89_9, c89_11, c89_13, c89_14, c89_15, c89_16, hlt, hw, q1, hf, q9, hG, t1, g2, o0, e1, e2, e3, lda, a3, bd5, b5, sw, bdI, Q104, e_append, e_callh, List.map_cons, List.map_nil, Q106, Q107, toL, and_self, Q0, Q1, Q2, Q3, Q4, Q5, Q6, Q7, Q8, Q9, Q10, Q11, Q12, Q13, Q14, Q15, Q16, Q17, Q18, Q19, Q20, Q21, Q22, Q23, Q24, Q25, Q26, Q27, Q28, Q29, Q30, Q31, Q32, Q33, Q35, Q36, Q37, Q38, Q39, Q40, Q41, Q42, Q43, Q44, Q45, Q46, Q47, Q48, Q49, Q50, Q51, Q52, Q53, Q54, Q55, Q56, Q57, Q58, Q59, Q60, Q61, Q62, Q63, Q64, Q65, Q66, Q67, Q68, Q69, Q70, Q71, Q72, Q73, Q99, Q100, Q101, Q102, Q103, Q74, Q75, Q77, Q78, Q79, Q80, Q81, Q82, Q83, Q84, clr, List.length_nil, List.length_cons, List.getElem?_cons_zero, List.getElem?_cons_succ, Nat.reduceAdd, Nat.zero_add, Nat.add_zero, Nat.reduceLeDiff, Nat.reduceSub, ↓reduceIte, List.drop_succ_cons, List.drop_zero, List.take_succ_cons, List.take_zero, Bool.false_eq_true, List.nil_append, List.cons_append, Bool.not_true, Bool.not_false, cond_true, cond_false, bne, Q85, Q86, Q87, Q88, Q89, Q90, Q91, Q92, Q93, Q94, Q95, Q96, Q97, Q98, Q110, Q111, Q116, Q117, Q118, Q119, Q120, Q121, Q122, Q123, Option.map_some, Option.map_none]
   rw [loop_normal (by rw [hv]; exact st)]
   obtain ⟨H', Q', ws', k1, k2, k3, k4, k5⟩ := ih (i + 1) H3 _ _ Qz3 (ws ++ [.agg (.v (.int .i64 (g.next : Int)) :: e.cells)]) (q ++ [(g.next, t)]) (V89 b es.length c ((i + 1 : Nat) : Int) Qz3 (.ptr H.length 0) (.v (.int .i64 g.next)) (.v (.bool true)) (.v (.int .i64 4)) (.v (.bool false)) (.v (.bool false)) (.v (.bool false))) (by omega) hd' cp3 hQ3 (AllR.app hW (.one hwt')) (by have := gb3.1; omega) (by rw [List.length_append, List.length_singleton]; omega) (by simp only; omega) (by simp only; omega) (by rw [List.length_append, List.length_singleton]; omega) rfl
   have hp : wArgs (t :: l') g = (⟨10, 0, g.next, nos, 0⟩ :: (wArgs l' { g with next := g.next + 1 }).1, (g.next, t) :: (wArgs l' { g with next := g.next + 1 }).2.1, (wArgs l' { g with next := g.next + 1 }).2.2) := by
    rw [wArgs]; simp only [hc, if_true]
   rw [hp]
   rw [List.append_assoc, List.singleton_append] at k2 k4
   exact ⟨H', Q', ws', k1, k2, k3, k4, (gba.trans rsT.gb).trans (gb3.trans k5)⟩
end Go.AE.YtinhjhkmpknbbaaDoor
end

section
namespace Go.AE.YtinhjhkmpknbbaaDoor
open Go Go.AE Go.Proofs.YtinhjhkmpknbbaaDoor

section
variable {h : List AO} {b rl m : Nat} {code : List Op5} {g : Sg}
theorem within_ok (c : Dp h b rl m code g) {e : AV} {t : Tm} (ht : IsT e t) (hw : wfT t) (hct : isC t = true) (r : Int) (hcl : code.length + 1 + t.l.length ≤ 900000) (hnx : g.next + t.l.length ≤ 3000000) (hml : g.met.length + t.l.length ≤ 900000) :
  ∃ h' R ws, callW F 89 [.ptr b 0, .v (.int .i64 r), e] h = some (R, h') ∧ Dp h' b rl m (code ++ ⟨5, r, 0, t.s, t.l.length⟩ :: (wArgs t.l g).1) (wArgs t.l g).2.2 ∧ (∀ H : List AO, elemsOf H 5 R = some ws) ∧ AllR Wt ws (wArgs t.l g).2.1 ∧ Rs [b, rl, m] h h' := by
 obtain ⟨hlb, hlr, hlt, _⟩ := c.mb
 have hbe : AO.below 0 (.box 24 e.cells) = true := ht.bel
 have hf := ht.facts
 cases ht with
 | mk k s n cc l hc =>
 have wl := hw.l
 simp only [Tm.l, Tm.s] at wl hcl hnx hml ⊢
 obtain ⟨es, hs, hes, hm⟩ := hc.sl
 have hll := hes.length
 have bxt : bx h 24 (some [.v (.int .i64 k), .v (.string s), .v (.int .i64 n), cc]) = some (.ptr h.length 0, h ++ [.box 24 [.v (.int .i64 k), .v (.string s), .v (.int .i64 n), cc]]) := rfl
 simp only [AV.cells] at hf hbe
 have cl := hf.2.2.2.2
 have cpa := c.app (l := [.box 24 [.v (.int .i64 k), .v (.string s), .v (.int .i64 n), cc]]) (by simp [below_mono (Nat.zero_le _) _ hbe])
 have o1 := tm_ld1 (H := h ++ [.box 24 [.v (.int .i64 k), .v (.string s), .v (.int .i64 n), cc]]) bxl
 have o3 := tm_ld3 (H := h ++ [.box 24 [.v (.int .i64 k), .v (.string s), .v (.int .i64 n), cc]]) bxl
 obtain ⟨H1, g1, cp1, rs1⟩ := cpa.lay (by omega) ⟨5, r, 0, s, l.length⟩
 have p3 := tm_ld3 (c.obj rs1)
 have hl1 : H1.length = h.length + 1 := by rw [rs1.1]; simp
 obtain ⟨H', Q', ws', k1, cp2, hQ2, hW2, gb2⟩ := within2_loop (K := l.length + 1) (B := h.length) hlb hlr hlt hs hes wl (by omega) l 0 H1 _ g (.v (.slice none 0 0)) [] []
  [.ptr b 0, .v (.int .i64 r), .agg [.v (.int .i64 k), .v (.string s), .v (.int .i64 n), cc], .ptr h.length 0, .v (.slice none 0 0), .v (.slice none 0 0), .v undef, .v undef, cc, .v (.int .i64 es.length), .v (.int .i64 0), .v undef, .v undef, .v undef, .v undef, .v undef] (by omega) (by simp) cp1 .nil .nil (by omega) (by rw [List.length_append, List.length_singleton]; omega) (by omega) (by omega) (by simp only [List.length_nil]; omega) rfl
 have gb : Gb h.length [b, rl, m] h H' := ((Gb.app (Nat.le_refl _) _).trans rs1.gb).trans gb2
 obtain ⟨h3, L, he, cp3, rs3⟩ := c.pre cp2 gb
 obtain ⟨R, hR, hR2⟩ := hQ2.frz
 have hRe : ∀ H : List AO, elemsOf H 5 R = some ws' := by
  intro H
  rcases hR2 with ⟨rfl, rfl⟩ | ⟨ex, nn, rfl⟩ <;> rfl
 refine ⟨h3, R, ws', callW_own (c := c89) rfl rfl (l.length + 1) ?_, ?_, hRe, by simpa using hW2, rs3⟩
 ·have lvv : leave h.length c89 (some (.ret, [.ptr b 0, .junk, .junk, .junk, Q', Q', .junk, .junk, cc, .v (.int .i64 es.length), .v (.int .i64 es.length), .v (.bool false), .junk, .junk, .junk, .junk], h3 ++ L)) = some (R, h3) := by
   rw [leave_own rs3.1 (by rw [← rs3.1]; exact cp3.bel)]
   have : (c89.res.mapM (resOf [.ptr b 0, .junk, .junk, .junk, Q', Q', .junk, .junk, cc, .v (.int .i64 es.length), .v (.int .i64 es.length), .v (.bool false), .junk, .junk, .junk, .junk] (h3 ++ L))) = some [Q'] := rfl
   rw [this]
   exact lvo_one (by rw [← he]; exact hR)
  rw [← lvv]
  congr 1
  rw [← he]
  simp only [o5, ← hll] at g1
  have q1 := fun H : List AO => hs.len H
  have bld : ∀ (vars env : List AV) (x1 x2 x4 : AV), evBuild vars (.v (.int .i64 es.length) :: x1 :: x2 :: .v (.string s) :: x4 :: .v (.int .i64 r) :: env) [.v (.int .i64 0), .v (.int .i64 0), .v (.int .i64 0), .v (.string ⟨#[]⟩), .v (.int .i64 0)] [(0, 1, (.k (.int .i64 5))), (1, 1, (.loc 5)), (3, 1, (.loc 3)), (4, 1, (.loc 0))] = some [.v (.int .i64 5), .v (.int .i64 r), .v (.int .i64 0), .v (.string s), .v (.int .i64 es.length)] := fun _ _ _ _ _ => rfl
  rw [show c89.body = (.seq (.region [] [] c89_0) (.seq (.region [] [] c89_1) (.seq (.region [] [] c89_2) (.seq (.seq (.region [] [] c89_3) (.block 0 (.loop K89 [] c89_17))) (.seq (.region [] [] c89_18) .ret))))) from rfl]
  generalize c89_17 = bb1 at k1 ⊢
  simp only [c89, start, List.replicate, List.append_nil, c89_0, c89_1, c89_2, c89_3, c89_18, bxt, cl, o1, o3, p3, q1, bld, g1, Q106, Q107, toL, e_callh, List.map_cons, List.map_nil, k1, V89, Q0, Q1, Q2, Q3, Q4, Q5, Q6, Q7, Q8, Q9, Q10, Q11, Q12, Q13, Q14, Q15, Q16, Q17, Q18, Q19, Q20, Q21, Q22, Q23, Q24, Q25, Q26, Q27, Q28, Q29, Q30, Q31, Q32, Q33, Q35, Q36, Q37, Q38, Q39, Q40, Q41, Q42, Q43, Q44, Q45, Q46, Q47, Q48, Q49, Q50, Q51, Q52, Q53, Q54, Q55, Q56, Q57, Q58, Q59, Q60, Q61, Q62, Q63, Q64, Q65, Q66, Q67, Q68, Q69, Q70, Q71, Q72, Q73, Q99, Q100, Q101, Q102, Q103, Q74, Q75, Q77, Q78, Q79, Q80, Q81, Q82, Q83, Q84, clr, List.length_nil, List.length_cons, List.getElem?_cons_zero, List.getElem?_cons_succ, Nat.reduceAdd, Nat.zero_add, Nat.add_zero, Nat.reduceLeDiff, Nat.reduceSub, ↓reduceIte, List.drop_succ_cons, List.drop_zero, List.take_succ_cons, List.take_zero, Bool.false_eq_true, List.nil_append, List.cons_append, Bool.not_true, Bool.not_false, cond_true, cond_false, bne, Q85, Q86, Q87, Q88, Q89, Q90, Q91, Q92, Q93, Q94, Q95, Q96, Q97, Q98, Q110, Q111, Q116, Q117, Q118, Q119, Q120, Q121, Q122, Q123, Option.map_some, Option.map_none]
 ·rw [List.append_assoc, List.singleton_append] at cp2
  obtain ⟨h3', L', he', cp3', rs3'⟩ := c.pre cp2 gb
  have e1 : h3' = h3 := by
   have a1 : h3' = H'.take h.length := by rw [he', ← rs3'.1, List.take_left]
   have a2 : h3 = H'.take h.length := by rw [he, ← rs3.1, List.take_left]
   rw [a1, a2]
  rw [← e1]; exact cp3'
def Kg61 : List Bool := [true, false, false, false, true, false, false, false, false, false, false, false]
def Vg61 (b : Nat) (Q x5 x11 : AV) : List AV := [.ptr b 0, .junk, .junk, .junk, Q, x5, .junk, .junk, .junk, .junk, .junk, x11]
theorem wArgs_met : ∀ (l : List Tm) (g : Sg), (wArgs l g).2.2.met.length ≤ g.met.length + l.length
 | [], g => by simp [wArgs]
 | t :: l, g => by
  rw [wArgs]
  split
  ·have := wArgs_met l { g with next := g.next + 1 }
   simp only [List.length_cons] at this ⊢; omega
  ·have := wArgs_met l (pSg g t)
   have := pSg_len g t
   simp only [List.length_cons]; omega
theorem wt5 {H : List AO} {id : Nat} {r : Int} {e : AV} {t : Tm} (ht : IsT e t) (h : H[id]? = some (.box 134 (.v (.int .i64 r) :: e.cells))) : Q76 H false 1 (.ptr id 0) = some (.v (.int .i64 r)) ∧ Q76 H true 4 (.ptr id 1) = some e := by
 rw [bx_ld h, bx_ld h]
 cases ht with
 | mk k s n c l hc => exact ⟨rfl, rfl⟩
theorem q2_loop {B K : Nat} (hbB : b < B) (hrB : rl < B) (hmB : m < B) : ∀ (n : Nat) (q : List (Nat × Tm)) (H : List AO) (code : List Op5) (g : Sg) (Q : AV) (ws : List AV) (vars : List AV), qC q = n → (∀ p ∈ q, wfT p.2 ∧ isC p.2 = true) → Dp H b rl m code g → Qr 134 H B Q ws → AllR Wt ws q → B ≤ H.length →
  code.length + (q.map fun p => kT p.2).sum ≤ 900000 → g.next + n ≤ 1900000 + q.length → g.met.length + (q.map fun p => kT p.2).sum ≤ 890000 → clr Kg61 vars = Vg61 b Q .junk .junk →
  ∃ H' vs', loopN (exec (callW F) K c61_13) Kg61 (n + 1) vars H = some (.exit 1, vs', H') ∧ Dp H' b rl m (code ++ (getQ n q g).1) (getQ n q g).2 ∧ Gb B [b, rl, m] H H' := by
 intro n
 induction n with
 | zero =>
  intro q H code g Q ws vars hn hq cp hQ hW hB _ _ _ hv
  cases hW with
  | cons a x es xs h hs =>
   have := cT_comp (hq x (by simp)).2
   simp [qC] at hn; omega
  | nil =>
  refine ⟨H, Vg61 b Q .junk (.v (.bool false)), ?_, by simpa [getQ] using cp, .refl H⟩
  refine loop_exit ?_
  rw [hv]
  have ln := hQ.len H
  simp only [Vg61, c61_13, c61_10, ln, List.length_nil, gtr0_0, Q0, Q1, Q2, Q3, Q4, Q5, Q6, Q7, Q8, Q9, Q10, Q11, Q12, Q13, Q14, Q15, Q16, Q17, Q18, Q19, Q20, Q21, Q22, Q23, Q24, Q25, Q26, Q27, Q28, Q29, Q30, Q31, Q32, Q33, Q35, Q36, Q37, Q38, Q39, Q40, Q41, Q42, Q43, Q44, Q45, Q46, Q47, Q48, Q49, Q50, Q51, Q52, Q53, Q54, Q55, Q56, Q57, Q58, Q59, Q60, Q61, Q62, Q63, Q64, Q65, Q66, Q67, Q68, Q69, Q70, Q71, Q72, Q73, Q99, Q100, Q101, Q102, Q103, Q74, Q75, Q77, Q78, Q79, Q80, Q81, Q82, Q83, Q84, clr, List.length_nil, List.length_cons, List.getElem?_cons_zero, List.getElem?_cons_succ, Nat.reduceAdd, Nat.zero_add, Nat.add_zero, Nat.reduceLeDiff, Nat.reduceSub, ↓reduceIte, List.drop_succ_cons, List.drop_zero, List.take_succ_cons, List.take_zero, Bool.false_eq_true, List.nil_append, List.cons_append, Bool.not_true, Bool.not_false, cond_true, cond_false, bne, Q85, Q86, Q87, Q88, Q89, Q90, Q91, Q92, Q93, Q94, Q95, Q96, Q97, Q98, Q110, Q111, Q116, Q117, Q118, Q119, Q120, Q121, Q122, Q123, Option.map_some, Option.map_none]
 | succ n ih =>
  intro q H code g Q ws vars hn hq cp hQ hW hB hcl hnx hml hv
  cases hW with
  | nil => simp [qC] at hn
  | cons W p ws q hw hW =>
  obtain ⟨r, t⟩ := p
  have hwt := hq (r, t) (by simp)
  have hq' : ∀ p ∈ q, wfT p.2 ∧ isC p.2 = true := fun p hp => hq p (by simp [hp])
  obtain ⟨a, ha, hWe⟩ := hw
  simp only at ha hWe hwt
  have hwe : Wt W (r, t) := ⟨a, ha, hWe⟩
  obtain ⟨x, hx1, hx2⟩ := hQ.head hwe
  have hk := kT_comp hwt.1 hwt.2
  have hct := cT_comp hwt.2
  have wl := hwt.1.l
  have hq1 : q.length ≤ (q.map fun p => kT p.2).sum := sum_ge q fun p hp => by have := kT_comp (hq' p hp).1 (hq' p hp).2; omega
  have hq2 : q.length ≤ qC q := sum_ge q fun p hp => by have := cT_comp (hq' p hp).2; omega
  simp only [List.map_cons, List.sum_cons, List.length_cons] at hcl hnx hml
  have hqn : cT t + qC q = n + 1 := by rw [← hn]; simp [qC]
  -- its box
  have hWcl : W.cl = some (.v (.int .i64 r) :: a.cells) := by rw [hWe]; rfl
  have hacl := ha.cl.2
  have hbel : AO.below 0 (.box 134 (.v (.int .i64 r) :: a.cells)) = true := by
   have : AO.below 0 (.box 24 a.cells) = true := ha.bel
   simpa [AO.below, AV.below1, AV.below0] using this
  have bz : bx H 134 (ofVal (.agg #[(.int .i64 0), (.int .i64 0), (.string ⟨#[]⟩), (.int .i64 0), (.slice none 0 0)])).cl = some (.ptr H.length 0, H ++ [.box 134 [.v (.int .i64 0), .v (.int .i64 0), .v (.string ⟨#[]⟩), .v (.int .i64 0), .v (.slice none 0 0)]]) := by
   simp [ofVal, AV.cl, Value.oneCell', bx]
  have stz : Q113 (H ++ [.box 134 [.v (.int .i64 0), .v (.int .i64 0), .v (.string ⟨#[]⟩), .v (.int .i64 0), .v (.slice none 0 0)]]) 5 (.ptr H.length 0) W = some (H ++ [.box 134 (.v (.int .i64 r) :: a.cells)]) := st_new hWcl (by simp [hacl]) rfl
  have cpa := cp.app (l := [.box 134 (.v (.int .i64 r) :: a.cells)]) (by simp [below_mono (Nat.zero_le _) _ hbel])
  obtain ⟨Qz1, sl1, hQ1⟩ := (hQ.app [.box 134 (.v (.int .i64 r) :: a.cells)]).tail
  obtain ⟨l0, l1⟩ := wt5 (H := H ++ [.box 134 (.v (.int .i64 r) :: a.cells)]) (id := H.length) ha bxl
  obtain ⟨H1, R, ws1, g1, cp1, hR, hW1, rs1⟩ := within_ok cpa ha hwt.1 hwt.2 r (by omega) (by omega) (by omega)
  have hQ1' := hQ1.rsB hbB hrB hmB rs1
  have hl1 : H1.length = H.length + 1 := by rw [rs1.1]; simp
  have wlen := hW1.length
  have hwl := wArgs_len t.l g
  have hwm := wArgs_met t.l g
  have hn1 : (wArgs t.l g).2.1.length ≤ t.l.length := by
   have : (wArgs t.l g).2.1.length = (comps t.l).length := by rw [← wArgs_ws t.l g, List.length_map]
   rw [this]; exact List.length_filter_le _ _
  obtain ⟨Qz2, H2, a2, cp2, hQ2, gb2⟩ := cp1.addQ hQ1' (by omega) hbB hrB hmB (x := R) (ys := ws1) (hR _) (by have := hW.length; omega)
  have ln := hQ.len H
  have st : exec (callW F) K c61_13 (Vg61 b Q .junk .junk) H = some (.normal, Vg61 b Qz2 (.ptr H.length 0) (.v (.bool true)), H2) := by
   simp only [Vg61, c61_13, c61_10, c61_11, c61_12, ln, gtr0_1, List.length_cons, hx1, hx2, bz, stz, sl1, l0, l1, g1, a2, e_append, nat_0, nat_1, e_callh, List.map_cons, List.map_nil, Q0, Q1, Q2, Q3, Q4, Q5, Q6, Q7, Q8, Q9, Q10, Q11, Q12, Q13, Q14, Q15, Q16, Q17, Q18, Q19, Q20, Q21, Q22, Q23, Q24, Q25, Q26, Q27, Q28, Q29, Q30, Q31, Q32, Q33, Q35, Q36, Q37, Q38, Q39, Q40, Q41, Q42, Q43, Q44, Q45, Q46, Q47, Q48, Q49, Q50, Q51, Q52, Q53, Q54, Q55, Q56, Q57, Q58, Q59, Q60, Q61, Q62, Q63, Q64, Q65, Q66, Q67, Q68, Q69, Q70, Q71, Q72, Q73, Q99, Q100, Q101, Q102, Q103, Q74, Q75, Q77, Q78, Q79, Q80, Q81, Q82, Q83, Q84, clr, List.length_nil, List.length_cons, List.getElem?_cons_zero, List.getElem?_cons_succ, Nat.reduceAdd, Nat.zero_add, Nat.add_zero, Nat.reduceLeDiff, Nat.reduceSub, ↓reduceIte, List.drop_succ_cons, List.drop_zero, List.take_succ_cons, List.take_zero, Bool.false_eq_true, List.nil_append, List.cons_append, Bool.not_true, Bool.not_false, cond_true, cond_false, bne, Q85, Q86, Q87, Q88, Q89, Q90, Q91, Q92, Q93, Q94, Q95, Q96, Q97, Q98, Q110, Q111, Q116, Q117, Q118, Q119, Q120, Q121, Q122, Q123, Option.map_some, Option.map_none]
  have e1 : ((wArgs t.l g).2.1.map fun p => kT p.2).sum = ((comps t.l).map kT).sum := by
   rw [← wArgs_ws t.l g, List.map_map]; rfl
  rw [loop_normal (by rw [hv]; exact st)]
  obtain ⟨H', vs', j1, j2, j3⟩ := ih (q ++ (wArgs t.l g).2.1) H2 _ _ Qz2 (ws ++ ws1) (Vg61 b Qz2 (.ptr H.length 0) (.v (.bool true))) (by
    rw [qC_app]
    have : qC (wArgs t.l g).2.1 = cL t.l := hwl.2.2
    omega)
   (fun p hp => by
    rcases List.mem_append.1 hp with hp | hp
    ·exact hq' p hp
    ·have : p.2 ∈ comps t.l := by rw [← wArgs_ws t.l g]; exact List.mem_map.2 ⟨p, hp, rfl⟩
     have := List.mem_filter.1 this
     exact ⟨wfL_mem wl _ this.1, this.2⟩)
   cp2 hQ2 (AllR.app hW hW1) (by have := gb2.1; omega)
   (by rw [List.length_append, List.length_cons, List.map_append, List.sum_append, e1, hwl.1]; omega)
   (by rw [hwl.2.1, List.length_append]; omega) (by rw [List.map_append, List.sum_append, e1]; omega) rfl
  refine ⟨H', vs', j1, ?_, ((Gb.app hB _).trans (rs1.gb.trans gb2)).trans j3⟩
  rw [getQ]
  simp only
  rw [List.append_assoc] at j2
  exact j2
theorem getQ_met : ∀ (n : Nat) (q : List (Nat × Tm)) (g : Sg), qC q ≤ n → (∀ p ∈ q, wfT p.2 ∧ isC p.2 = true) → (getQ n q g).2.met.length ≤ g.met.length + (q.map fun p => kT p.2).sum
 | 0, [], g, _, _ => by simp [getQ]
 | 0, p :: q, g, hn, hq => by
  have := cT_comp (hq p (by simp)).2
  simp [qC] at hn; omega
 | n + 1, [], g, _, _ => by simp [getQ]
 | n + 1, (r, t) :: q, g, hn, hq => by
  have h1 := hq (r, t) (by simp)
  simp only at h1
  have h2 := cT_comp h1.2
  have hk := kT_comp h1.1 h1.2
  obtain ⟨w1, w2, w3⟩ := wArgs_len t.l g
  have wm := wArgs_met t.l g
  have e1 : qC ((r, t) :: q) = cT t + qC q := by simp [qC]
  have e2 : qC (wArgs t.l g).2.1 = cL t.l := w3
  have e3 : ((wArgs t.l g).2.1.map fun p => kT p.2).sum = ((comps t.l).map kT).sum := by
   rw [← wArgs_ws t.l g, List.map_map]; rfl
  have ih := getQ_met n (q ++ (wArgs t.l g).2.1) (wArgs t.l g).2.2
   (by rw [qC_app]; omega)
   (fun p hp => by
    rcases List.mem_append.1 hp with hp | hp
    ·exact hq p (by simp [hp])
    ·have : p.2 ∈ comps t.l := by rw [← wArgs_ws t.l g]; exact List.mem_map.2 ⟨p, hp, rfl⟩
     have := List.mem_filter.1 this
     exact ⟨wfL_mem h1.1.l _ this.1, this.2⟩)
  rw [List.map_append, List.sum_append, e3] at ih
  simp only [getQ, List.map_cons, List.sum_cons]
  omega
theorem getT_met {t : Tm} (h : wfT t) (r : Nat) (g : Sg) : (getT r g t).2.met.length ≤ g.met.length + kT t := by
 cases hc : isC t with
 | true =>
  have := getQ_met (cT t) [(r, t)] g (by simp [qC]) (by simp [h, hc])
  rw [getT, if_pos hc]
  simpa using this
 | false =>
  have := pSg_len g t
  have hz : 1 ≤ kT t := by cases t; rw [kT, zT]; omega
  rw [getT, if_neg (by simp [hc])]
  simp only; omega
theorem getT2_ok (c : Dp h b rl m code g) {a : AV} {t : Tm} (ha : IsT a t) (hw : wfT t) {r : Nat} (hcl : code.length + kT t ≤ 900000) (hnx : g.next + cT t ≤ 1900000) (hml : g.met.length + kT t ≤ 890000) :
  ∃ h', callW F 61 [.ptr b 0, .v (.int .i64 r), a] h = some (.tup [], h') ∧ Dp h' b rl m (code ++ (getT r g t).1) (getT r g t).2 ∧ Rs [b, rl, m] h h' := by
 obtain ⟨hlb, hlr, hlt, _⟩ := c.mb
 have hbe : AO.below 0 (.box 24 a.cells) = true := ha.bel
 have hf := ha.facts
 have hz : 1 ≤ kT t := by cases t; rw [kT, zT]; omega
 have cpa := c.app (l := [.box 24 a.cells]) (by simp [below_mono (Nat.zero_le _) _ hbe])
 have gba : Gb h.length [b, rl, m] h (h ++ [.box 24 a.cells]) := Gb.app (Nat.le_refl _) _
 have bxt : bx h 24 (some a.cells) = some (.ptr h.length 0, h ++ [.box 24 a.cells]) := rfl
 have ldt : Q76 (h ++ [.box 24 a.cells]) true 4 (.ptr h.length 0) = some a := hf.2.2.2.1 h 24
 have cl := hf.2.2.2.2
 -- what is to be shown
 suffices step : ∃ vs H', exec (callW F) (900001 + cT t) c61.body (start c61 [.ptr b 0, .v (.int .i64 r), a]) (h ++ []) = some (.normal, vs, H') ∧ Dp H' b rl m (code ++ (getT r g t).1) (getT r g t).2 ∧ Gb h.length [b, rl, m] h H' by
  obtain ⟨vs, H', st, cp2, gb⟩ := step
  obtain ⟨h3, L, he, cp3, rs3⟩ := c.pre cp2 gb
  refine ⟨h3, callW_own (c := c61) rfl rfl (900001 + cT t) ?_, cp3, rs3⟩
  rw [st, he]
  exact leaveN _ (.inr rfl) rfl rs3.1 (by rw [← rs3.1]; exact cp3.bel)
 rw [List.append_nil, show c61.body = (.seq (.region [] [] c61_0) (.seq (.region [] [] c61_1) (.block 0 (.seq (.region [] [] c61_2) (.cond (.var 7) (.region [] [] c61_3) (.seq (.region [] [] c61_4) (.cond (.var 8) (.region [] [] c61_5) (.seq (.region [] [] c61_6) (.cond (.var 9) (.region [] [] c61_7) (.seq (.region [] [] c61_8) (.cond (.var 10) (.seq (.region [] [] c61_9) (.block 1 (.loop Kg61 [] c61_13))) .skip))))))))))) from rfl]
 cases hc : isC t with
 | false =>
  have hk := wf_k hw hc
  have hgt : getT r g t = ([pIns 1 r g t], pSg g t) := by rw [getT, if_neg (by simp [hc])]
  rw [hgt]
  cases ha with
  | mk k s n cc l2 hcc =>
  have hob : (h ++ [AO.box 24 [.v (.int .i64 k), .v (.string s), .v (.int .i64 n), cc]])[h.length]? = some (.box 24 [.v (.int .i64 k), .v (.string s), .v (.int .i64 n), cc]) := bxl
  have o0 := tm_ld0 hob
  have o1 := tm_ld1 hob
  have o2 : Q76 (h ++ [AO.box 24 [.v (.int .i64 k), .v (.string s), .v (.int .i64 n), cc]]) false 1 (.ptr h.length 2) = some (.v (.int .i64 n)) := by rw [bx_ld hob]; rfl
  simp only [Tm.k] at hk
  simp only [AV.cells] at cpa ldt bxt cl gba
  generalize c61_13 = bb1
  rcases hk with rfl | rfl | rfl
  ·obtain ⟨H2, g1, cp2, rs2⟩ := var_ok cpa (by omega) (by omega) (.mk 1 s n cc l2 hcc) rfl (op := 1) (op2 := 2) (a := r) rfl
   refine ⟨[.ptr b 0, .v (.int .i64 r), .agg [.v (.int .i64 1), .v (.string s), .v (.int .i64 n), cc], .ptr h.length 0, .v undef, .v undef, .v (.int .i64 1), .v (.bool true), .v undef, .v undef, .v undef, .v undef], H2, ?_, cp2, gba.trans rs2.gb⟩
   have e1 : ((1 : Int) == 1) = true := rfl
   simp only [c61, start, List.replicate, c61_0, c61_1, c61_2, c61_3, bxt, cl, o0, ldt, e1, g1, e_callh, List.map_cons, List.map_nil, Q0, Q1, Q2, Q3, Q4, Q5, Q6, Q7, Q8, Q9, Q10, Q11, Q12, Q13, Q14, Q15, Q16, Q17, Q18, Q19, Q20, Q21, Q22, Q23, Q24, Q25, Q26, Q27, Q28, Q29, Q30, Q31, Q32, Q33, Q35, Q36, Q37, Q38, Q39, Q40, Q41, Q42, Q43, Q44, Q45, Q46, Q47, Q48, Q49, Q50, Q51, Q52, Q53, Q54, Q55, Q56, Q57, Q58, Q59, Q60, Q61, Q62, Q63, Q64, Q65, Q66, Q67, Q68, Q69, Q70, Q71, Q72, Q73, Q99, Q100, Q101, Q102, Q103, Q74, Q75, Q77, Q78, Q79, Q80, Q81, Q82, Q83, Q84, clr, List.length_nil, List.length_cons, List.getElem?_cons_zero, List.getElem?_cons_succ, Nat.reduceAdd, Nat.zero_add, Nat.add_zero, Nat.reduceLeDiff, Nat.reduceSub, ↓reduceIte, List.drop_succ_cons, List.drop_zero, List.take_succ_cons, List.take_zero, Bool.false_eq_true, List.nil_append, List.cons_append, Bool.not_true, Bool.not_false, cond_true, cond_false, bne, Q85, Q86, Q87, Q88, Q89, Q90, Q91, Q92, Q93, Q94, Q95, Q96, Q97, Q98, Q110, Q111, Q116, Q117, Q118, Q119, Q120, Q121, Q122, Q123, Option.map_some, Option.map_none]
  ·obtain ⟨H2, g1, cp2, rs2⟩ := cpa.lay (by omega) ⟨3, r, 0, s, 0⟩
   have bld : ∀ (vars env : List AV) (x : AV), evBuild vars (.v (.string s) :: x :: .v (.int .i64 r) :: env) [.v (.int .i64 0), .v (.int .i64 0), .v (.int .i64 0), .v (.string ⟨#[]⟩), .v (.int .i64 0)] [(0, 1, (.k (.int .i64 3))), (1, 1, (.loc 2)), (3, 1, (.loc 0))] = some [.v (.int .i64 3), .v (.int .i64 r), .v (.int .i64 0), .v (.string s), .v (.int .i64 0)] := fun _ _ _ => rfl
   refine ⟨[.ptr b 0, .v (.int .i64 r), .agg [.v (.int .i64 2), .v (.string s), .v (.int .i64 n), cc], .ptr h.length 0, .v undef, .v undef, .v (.int .i64 2), .v (.bool false), .v (.bool true), .v undef, .v undef, .v undef], H2, ?_, cp2, gba.trans rs2.gb⟩
   have e1 : ((2 : Int) == 1) = false := rfl
   have e2 : ((2 : Int) == 2) = true := rfl
   simp only [o5] at g1
   simp only [c61, start, List.replicate, c61_0, c61_1, c61_2, c61_4, c61_5, bxt, cl, o0, o1, e1, e2, bld, Q106, Q107, toL, g1, e_callh, List.map_cons, List.map_nil, Q0, Q1, Q2, Q3, Q4, Q5, Q6, Q7, Q8, Q9, Q10, Q11, Q12, Q13, Q14, Q15, Q16, Q17, Q18, Q19, Q20, Q21, Q22, Q23, Q24, Q25, Q26, Q27, Q28, Q29, Q30, Q31, Q32, Q33, Q35, Q36, Q37, Q38, Q39, Q40, Q41, Q42, Q43, Q44, Q45, Q46, Q47, Q48, Q49, Q50, Q51, Q52, Q53, Q54, Q55, Q56, Q57, Q58, Q59, Q60, Q61, Q62, Q63, Q64, Q65, Q66, Q67, Q68, Q69, Q70, Q71, Q72, Q73, Q99, Q100, Q101, Q102, Q103, Q74, Q75, Q77, Q78, Q79, Q80, Q81, Q82, Q83, Q84, clr, List.length_nil, List.length_cons, List.getElem?_cons_zero, List.getElem?_cons_succ, Nat.reduceAdd, Nat.zero_add, Nat.add_zero, Nat.reduceLeDiff, Nat.reduceSub, ↓reduceIte, List.drop_succ_cons, List.drop_zero, List.take_succ_cons, List.take_zero, Bool.false_eq_true, List.nil_append, List.cons_append, Bool.not_true, Bool.not_false, cond_true, cond_false, bne, Q85, Q86, Q87, Q88, Q89, Q90, Q91, Q92, Q93, Q94, Q95, Q96, Q97, Q98, Q110, Q111, Q116, Q117, Q118, Q119, Q120, Q121, Q122, Q123, Option.map_some, Option.map_none]
  ·obtain ⟨H2, g1, cp2, rs2⟩ := cpa.lay (by omega) ⟨4, r, 0, nos, n⟩
   have bld : ∀ (vars env : List AV) (x : AV), evBuild vars (.v (.int .i64 n) :: x :: .v (.int .i64 r) :: env) [.v (.int .i64 0), .v (.int .i64 0), .v (.int .i64 0), .v (.string ⟨#[]⟩), .v (.int .i64 0)] [(0, 1, (.k (.int .i64 4))), (1, 1, (.loc 2)), (4, 1, (.loc 0))] = some [.v (.int .i64 4), .v (.int .i64 r), .v (.int .i64 0), .v (.string ⟨#[]⟩), .v (.int .i64 n)] := fun _ _ _ => rfl
   refine ⟨[.ptr b 0, .v (.int .i64 r), .agg [.v (.int .i64 3), .v (.string s), .v (.int .i64 n), cc], .ptr h.length 0, .v undef, .v undef, .v (.int .i64 3), .v (.bool false), .v (.bool false), .v (.bool true), .v undef, .v undef], H2, ?_, cp2, gba.trans rs2.gb⟩
   have e1 : ((3 : Int) == 1) = false := rfl
   have e2 : ((3 : Int) == 2) = false := rfl
   have e3 : ((3 : Int) == 3) = true := rfl
   simp only [o5, nos] at g1
   simp only [c61, start, List.replicate, c61_0, c61_1, c61_2, c61_4, c61_6, c61_7, bxt, cl, o0, o2, e1, e2, e3, bld, Q106, Q107, toL, g1, e_callh, List.map_cons, List.map_nil, Q0, Q1, Q2, Q3, Q4, Q5, Q6, Q7, Q8, Q9, Q10, Q11, Q12, Q13, Q14, Q15, Q16, Q17, Q18, Q19, Q20, Q21, Q22, Q23, Q24, Q25, Q26, Q27, Q28, Q29, Q30, Q31, Q32, Q33, Q35, Q36, Q37, Q38, Q39, Q40, Q41, Q42, Q43, Q44, Q45, Q46, Q47, Q48, Q49, Q50, Q51, Q52, Q53, Q54, Q55, Q56, Q57, Q58, Q59, Q60, Q61, Q62, Q63, Q64, Q65, Q66, Q67, Q68, Q69, Q70, Q71, Q72, Q73, Q99, Q100, Q101, Q102, Q103, Q74, Q75, Q77, Q78, Q79, Q80, Q81, Q82, Q83, Q84, clr, List.length_nil, List.length_cons, List.getElem?_cons_zero, List.getElem?_cons_succ, Nat.reduceAdd, Nat.zero_add, Nat.add_zero, Nat.reduceLeDiff, Nat.reduceSub, ↓reduceIte, List.drop_succ_cons, List.drop_zero, List.take_succ_cons, List.take_zero, Bool.false_eq_true, List.nil_append, List.cons_append, Bool.not_true, Bool.not_false, cond_true, cond_false, bne, Q85, Q86, Q87, Q88, Q89, Q90, Q91, Q92, Q93, Q94, Q95, Q96, Q97, Q98, Q110, Q111, Q116, Q117, Q118, Q119, Q120, Q121, Q122, Q123, Option.map_some, Option.map_none]
 | true =>
  have hk4 : t.k = 4 := of_decide_eq_true hc
  have hwt' : Wt (.agg (.v (.int .i64 (r : Int)) :: a.cells)) (r, t) := ⟨a, ha, rfl⟩
  have b5 := fun H => bs5 hwt'.elm H
  have sw := fun H => hwt'.elm.snap H
  have bd5 := fun vars env => bd5_ok ha r vars env
  have o0 : Q76 (h ++ [AO.box 24 a.cells]) false 1 (.ptr h.length 0) = some (.v (.int .i64 4)) := by rw [box_k ha, hk4]
  obtain ⟨H', vs', j1, j2, j3⟩ := q2_loop (b := b) (rl := rl) (m := m) (B := h.length) (K := 900001 + cT t) hlb hlr hlt (cT t) [(r, t)] (h ++ [.box 24 a.cells]) code g (.slc 5 true true [.agg (.v (.int .i64 (r : Int)) :: a.cells)]) [.agg (.v (.int .i64 (r : Int)) :: a.cells)]
   [.ptr b 0, .v (.int .i64 r), a, .ptr h.length 0, .slc 5 true true [.agg (.v (.int .i64 (r : Int)) :: a.cells)], .v undef, .v (.int .i64 4), .v (.bool false), .v (.bool false), .v (.bool false), .v (.bool true), .v undef] (by simp [qC]) (by simp [hw, hc]) cpa (.slc _) (.one hwt') (by simp) (by simpa using hcl) (by simp only [List.length_singleton]; omega) (by simpa using hml) rfl
  refine ⟨vs', H', ?_, by rw [getT, if_pos hc]; exact j2, gba.trans j3⟩
  have j1' := loop_more j1 (m := 900001 + cT t) (by omega)
  have e1 : ((4 : Int) == 1) = false := rfl
  have e2 : ((4 : Int) == 2) = false := rfl
  have e3 : ((4 : Int) == 3) = false := rfl
  have e4 : ((4 : Int) == 4) = true := rfl
  generalize c61_13 = bb1 at j1' ⊢
  simp only [c61, start, List.replicate, c61_0, c61_1, c61_2, c61_4, c61_6, c61_8, c61_9, bxt, cl, o0, ldt, e1, e2, e3, e4, bd5, b5, sw, Q104, Q106, Q107, toL, e_callh, List.map_cons, List.map_nil, j1', Q0, Q1, Q2, Q3, Q4, Q5, Q6, Q7, Q8, Q9, Q10, Q11, Q12, Q13, Q14, Q15, Q16, Q17, Q18, Q19, Q20, Q21, Q22, Q23, Q24, Q25, Q26, Q27, Q28, Q29, Q30, Q31, Q32, Q33, Q35, Q36, Q37, Q38, Q39, Q40, Q41, Q42, Q43, Q44, Q45, Q46, Q47, Q48, Q49, Q50, Q51, Q52, Q53, Q54, Q55, Q56, Q57, Q58, Q59, Q60, Q61, Q62, Q63, Q64, Q65, Q66, Q67, Q68, Q69, Q70, Q71, Q72, Q73, Q99, Q100, Q101, Q102, Q103, Q74, Q75, Q77, Q78, Q79, Q80, Q81, Q82, Q83, Q84, clr, List.length_nil, List.length_cons, List.getElem?_cons_zero, List.getElem?_cons_succ, Nat.reduceAdd, Nat.zero_add, Nat.add_zero, Nat.reduceLeDiff, Nat.reduceSub, ↓reduceIte, List.drop_succ_cons, List.drop_zero, List.take_succ_cons, List.take_zero, Bool.false_eq_true, List.nil_append, List.cons_append, Bool.not_true, Bool.not_false, cond_true, cond_false, bne, Q85, Q86, Q87, Q88, Q89, Q90, Q91, Q92, Q93, Q94, Q95, Q96, Q97, Q98, Q110, Q111, Q116, Q117, Q118, Q119, Q120, Q121, Q122, Q123, Option.map_some, Option.map_none]
end
end Go.AE.YtinhjhkmpknbbaaDoor
end

section
namespace Go.AE.YtinhjhkmpknbbaaDoor
open Go Go.AE Go.Proofs.YtinhjhkmpknbbaaDoor

theorem setA_met : ∀ (l : List Tm) (ks : List Nat) (g : Sg), (setA g l ks).2.met.length ≤ g.met.length + l.length
 | [], ks, g => by cases ks <;> simp [setA]
 | t :: l, [], g => by simp [setA]
 | t :: l, k :: ks, g => by
  rw [setA]
  split
  ·have := setA_met l ks g
   simp only [List.length_cons]; omega
  ·have := setA_met l ks (pSg g t)
   have := pSg_len g t
   simp only [List.length_cons]; omega
mutual
theorem putC_met : ∀ (t : Tm) (r : Nat) (g : Sg), (putC r g t).2.met.length ≤ g.met.length + zL t.l
 | .mk k s n l, r, g => by
  have h1 := putA_met l g
  have h2 := setA_met l (putA g l).2.1 (putA g l).2.2
  rw [putC]
  simp only [Tm.l]
  omega
theorem putA_met : ∀ (l : List Tm) (g : Sg), (putA g l).2.2.met.length + l.length ≤ g.met.length + zL l
 | [], g => by simp [putA]
 | .mk k s n m :: l, g => by
  rw [putA, zL, zT]
  by_cases hk : k = 4
  ·have h1 := putC_met (.mk k s n m) g.next { g with next := g.next + 1 }
   have h2 := putA_met l (putC g.next { g with next := g.next + 1 } (.mk k s n m)).2
   simp only [hk, if_true, Tm.l, List.length_cons] at h1 h2 ⊢
   omega
  ·have h2 := putA_met l g
   simp only [hk, if_false, List.length_cons] at h2 ⊢
   omega
end
inductive Ar (H : List AO) (B : Nat) : AV → List Nat → Prop
 | nil : Ar H B (.v (.slice none 0 0)) []
 | own (id ver : Nat) (ks : List Nat) (hr : H[id]? = some (.row 3 1 ver (ks.map fun k : Nat => iv k) 0)) (hB : B ≤ id) : Ar H B (.own 1 id ver 0 ks.length) ks
section
variable {h H : List AO} {B b rl m : Nat} {code : List Op5} {g : Sg} {x : AV} {ks : List Nat}
theorem Ar.of {H' : List AO} (q : Ar H B x ks) (e : ∀ id, B ≤ id → id < H.length → H'[id]? = H[id]?) : Ar H' B x ks := by
 cases q with
 | nil => exact .nil
 | own id ver ks hr hB => exact .own id ver ks ((e id hB (List.getElem?_eq_some_iff.1 hr).1).trans hr) hB
theorem Ar.app (q : Ar H B x ks) (l : List AO) : Ar (H ++ l) B x ks := q.of fun id _ h => List.getElem?_append_left h
theorem Ar.rsB {H' : List AO} (q : Ar H B x ks) (hb : b < B) (hr : rl < B) (hm : m < B) (rs : Rs [b, rl, m] H H') : Ar H' B x ks :=
 q.of fun id hB _ => rs.2 id (by simp; omega)
theorem Ar.el (q : Ar H B x ks) {i k : Nat} (hk : ks[i]? = some k) : ∃ y, iaV H 1 x (some i) = some y ∧ Q76 H false 1 y = some (iv k) := by
 cases q with
 | nil => simp at hk
 | own id ver ks hr hB =>
  have hi := (List.getElem?_eq_some_iff.1 hk).1
  refine ⟨.ep 1 id ver i 0, row_ia hr (by simp) hi, row_ld hr (i := i) (e := iv k) (by rw [List.getElem?_map, hk]; rfl) (el_iv k)⟩
theorem Dp.addA (c : Dp H b rl m code g) (q : Ar H B x ks) (hB : B ≤ H.length) (hb : b < B) (hr : rl < B) (hm : m < B) (k : Nat) (hf : ks.length ≤ 950000) :
  ∃ x' H', evAppend H 3 1 8 x (.slc 1 true true [.v (.int .i64 k)]) = some (x', H') ∧ Dp H' b rl m code g ∧ Ar H' B x' (ks ++ [k]) ∧ Gb B [b, rl, m] H H' := by
 have fit : fits (ks.length + 1) 8 = true := fits_small (by omega) (by omega)
 rw [evAppend, elems_one]
 cases q with
 | nil =>
  have fit' : fits 1 8 = true := by simpa using fit
  exact ⟨.own 1 H.length 0 0 1, H ++ [.row 3 1 0 [iv k] 0], by simp [evAppendL, fit', iv], c.app (by rfl), Ar.own (H := H ++ [.row 3 1 0 [iv k] 0]) (B := B) H.length 0 [k] (by simp) hB, Gb.app hB _⟩
 | own id ver ks hr' hBi =>
  have hlt := (List.getElem?_eq_some_iff.1 hr').1
  have ht : rowT H id = 3 := by simp only [rowT, hr']
  have rs : ∀ j, j ≠ id → (H.set id (.row 3 1 (ver + 1) ((ks ++ [k]).map fun k : Nat => iv k) 0))[j]? = H[j]? := fun j hj => List.getElem?_set_ne (Ne.symm hj)
  refine ⟨.own 1 id (ver + 1) 0 (ks.length + 1), H.set id (.row 3 1 (ver + 1) ((ks ++ [k]).map fun k : Nat => iv k) 0), ?_, c.of ?_ ?_, ?_, ⟨by simp, fun j h1 h2 => rs j (by omega)⟩⟩
  ·have e : ((ks.map fun k : Nat => iv k).drop 0).take ks.length = ks.map fun k : Nat => iv k := by rw [List.drop_zero, List.take_of_length_le (by simp)]
   simp only [evAppendL, if_true, row_at hr' (show 0 + ks.length ≤ (ks.map fun k : Nat => iv k).length by simp), ht, Nat.zero_le, and_self, e]
   rw [if_neg (by simp), if_pos (by simpa using fit), List.map_append]
   rfl
  ·intro j hj
   simp only [List.mem_cons, List.not_mem_nil, or_false] at hj
   exact rs j (by omega)
  ·have hb := c.bel
   rw [List.all_eq_true] at hb ⊢
   intro o ho
   rw [List.length_set]
   rcases List.mem_or_eq_of_mem_set ho with h' | rfl
   ·exact hb o h'
   ·rfl
  ·have := Ar.own (H := H.set id (.row 3 1 (ver + 1) ((ks ++ [k]).map fun k : Nat => iv k) 0)) (B := B) id (ver + 1) (ks ++ [k]) (by simp [hlt]) hBi
   rwa [List.length_append, List.length_singleton] at this
end
def K90 : List Bool := [true, true, false, true, true, false, false, false, false, true, true, true, false, false, false, false, false, false, false, false, false, false]
def V90 (b B n : Nat) (r : Int) (x : AV) (c : AV) (i : Int) (x5 x6 x12 x13 : AV) : List AV := [.ptr b 0, .v (.int .i64 r), .junk, .ptr B 0, x, x5, x6, .junk, .junk, c, .v (.int .i64 n), .v (.int .i64 i), x12, x13, .junk, .junk, .junk, .junk, .junk, .junk, .junk, .junk]
theorem comp1_loop {K b rl m B B' : Nat} (hbB : b < B) (hrB : rl < B) (hmB : m < B) {r : Int} {c : AV} {es : List AV} {l : List Tm} (hs : Sl 4 c es) (hes : All2 es l) (hwf : wfL l) (hm : es.length ≤ 900000)
  (hcall : ∀ t ∈ l, isC t = true → ∀ (e : AV) (H : List AO) (code : List Op5) (g : Sg) (k : Nat), IsT e t → Dp H b rl m code g → code.length + 2 * zT t ≤ 900000 → g.next + zT t ≤ 3000001 → g.met.length + zT t ≤ 900000 →
   ∃ H', callW F 90 [.ptr b 0, .v (.int .i64 k), e] H = some (.tup [], H') ∧ Dp H' b rl m (code ++ (putC k g t).1) (putC k g t).2 ∧ Rs [b, rl, m] H H') :
  ∀ (l' : List Tm) (i : Nat) (H : List AO) (code : List Op5) (g : Sg) (x : AV) (ks : List Nat) (vars : List AV), i + l'.length = es.length → l' = l.drop i → ks.length = i → Dp H b rl m code g → Ar H B x ks → B ≤ H.length →
   code.length + 2 * zL l' ≤ 900000 → g.next + zL l' ≤ 3000000 → g.met.length + zL l' ≤ 900000 → clr K90 vars = V90 b B' es.length r x c i .junk .junk .junk .junk →
   ∃ H' x', loopN (exec (callW F) K c90_11) K90 (l'.length + 1) vars H = some (.exit 0, V90 b B' es.length r x' c es.length .junk .junk (.v (.bool false)) .junk, H') ∧
    Dp H' b rl m (code ++ (putA g l').1) (putA g l').2.2 ∧ Ar H' B x' (ks ++ (putA g l').2.1) ∧ Gb B [b, rl, m] H H' := by
 have hll := hes.length
 intro l'
 induction l' with
 | nil =>
  intro i H code g x ks vars hil _ hks cp hA hB _ _ _ hv
  have hil : i = es.length := by simpa using hil
  subst hil
  have hlt := lt_f (n := es.length)
  refine ⟨H, x, ?_, by rw [putA]; simpa using cp, by rw [putA]; simpa using hA, .refl H⟩
  rw [List.length_nil, Nat.zero_add]
  refine loop_exit ?_
  rw [hv]
  simp only [V90, c90_11, c90_3, hlt, Q0, Q1, Q2, Q3, Q4, Q5, Q6, Q7, Q8, Q9, Q10, Q11, Q12, Q13, Q14, Q15, Q16, Q17, Q18, Q19, Q20, Q21, Q22, Q23, Q24, Q25, Q26, Q27, Q28, Q29, Q30, Q31, Q32, Q33, Q35, Q36, Q37, Q38, Q39, Q40, Q41, Q42, Q43, Q44, Q45, Q46, Q47, Q48, Q49, Q50, Q51, Q52, Q53, Q54, Q55, Q56, Q57, Q58, Q59, Q60, Q61, Q62, Q63, Q64, Q65, Q66, Q67, Q68, Q69, Q70, Q71, Q72, Q73, Q99, Q100, Q101, Q102, Q103, Q74, Q75, Q77, Q78, Q79, Q80, Q81, Q82, Q83, Q84, clr, List.length_nil, List.length_cons, List.getElem?_cons_zero, List.getElem?_cons_succ, Nat.reduceAdd, Nat.zero_add, Nat.add_zero, Nat.reduceLeDiff, Nat.reduceSub, ↓reduceIte, List.drop_succ_cons, List.drop_zero, List.take_succ_cons, List.take_zero, Bool.false_eq_true, List.nil_append, List.cons_append, Bool.not_true, Bool.not_false, cond_true, cond_false, bne, Q85, Q86, Q87, Q88, Q89, Q90, Q91, Q92, Q93, Q94, Q95, Q96, Q97, Q98, Q110, Q111, Q116, Q117, Q118, Q119, Q120, Q121, Q122, Q123, Option.map_some, Option.map_none, Q34]
 | cons t l' ih =>
  intro i H code g x ks vars hil hd hks cp hA hB hcl hnx hml hv
  have hil' : i < es.length := by simp at hil; omega
  have hll' : i < l.length := by omega
  have hti : l[i] = t := by
   have h1 := List.drop_eq_getElem_cons hll'
   rw [← hd] at h1
   exact (List.cons.inj h1).1.symm
  have hd' : l' = l.drop (i + 1) := by
   have h1 := List.drop_eq_getElem_cons hll'
   rw [← hd] at h1
   exact (List.cons.inj h1).2
  have hT := hes.at hil' hll'
  rw [hti] at hT
  have htm : t ∈ l := by rw [← hti]; exact List.getElem_mem hll'
  have he : es[i]? = some es[i] := List.getElem?_eq_getElem hil'
  generalize es[i] = e at hT he
  have hf := hT.facts
  have q1 := fun h : List AO => hs.ia he h
  have hlt := lt_t hil'
  have hw := wrap_succ hil' (small_maxM hm)
  have q9 : ∀ h : List AO, bx h 24 (ofVal (.agg #[(.int .i64 0), (.string ⟨#[]⟩), (.int .i64 0), (.slice none 0 0)])).cl = some (.ptr h.length 0, h ++ [.box 24 [.v (.int .i64 0), .v (.string ⟨#[]⟩), .v (.int .i64 0), .v (.slice none 0 0)]]) := fun h => by rw [q9z]; rfl
  rw [show (t :: l').length + 1 = (l'.length + 1) + 1 from rfl]
  simp only [zL] at hcl hnx hml
  simp only [List.length_cons] at hil
  have hbe : AO.below 0 (.box 24 e.cells) = true := hT.bel
  have cpa := cp.app (l := [.box 24 e.cells]) (by simp [below_mono (Nat.zero_le _) _ hbe])
  have gba : Gb B [b, rl, m] H (H ++ [.box 24 e.cells]) := Gb.app hB _
  have bk := box_k hT
  have b1 : ∀ (H : List AO) (k : Int), bs1 H 1 (some (.v (.int .i64 k))) = some (.slc 1 true true [.v (.int .i64 k)], H) := fun H k => bs1_some rfl rfl
  have hz1 : 1 ≤ zT t := by cases t; rw [zT]; omega
  cases hct : isC t with
  | false =>
   have hk4 : (t.k == 4) = false := by
    have : ¬ t.k = 4 := of_decide_eq_false hct
    simpa using this
   obtain ⟨x', H2, a2, cp2, hA2, gb2⟩ := cpa.addA (hA.app _) (by simp; omega) hbB hrB hmB 0 (by omega)
   have a2' : evAppend (H ++ [.box 24 e.cells]) 3 1 8 x (.slc 1 true true [.v (.int .i64 0)]) = some (x', H2) := a2
   have st : exec (callW F) K c90_11 (V90 b B' es.length r x c i .junk .junk .junk .junk) H = some (.normal, V90 b B' es.length r x' c ((i + 1 : Nat) : Int) (.ptr H.length 0) (.v (.int .i64 0)) (.v (.bool true)) (.v (.bool false)), H2) := by
    simp only [V90, c90_11, c90_3, c90_4, c90_5, c90_6, c90_9, c90_10, hlt, hw, q1, hf, bk, hk4, q9, b1, snap_int, Q104, e_append, a2', Q0, Q1, Q2, Q3, Q4, Q5, Q6, Q7, Q8, Q9, Q10, Q11, Q12, Q13, Q14, Q15, Q16, Q17, Q18, Q19, Q20, Q21, Q22, Q23, Q24, Q25, Q26, Q27, Q28, Q29, Q30, Q31, Q32, Q33, Q35, Q36, Q37, Q38, Q39, Q40, Q41, Q42, Q43, Q44, Q45, Q46, Q47, Q48, Q49, Q50, Q51, Q52, Q53, Q54, Q55, Q56, Q57, Q58, Q59, Q60, Q61, Q62, Q63, Q64, Q65, Q66, Q67, Q68, Q69, Q70, Q71, Q72, Q73, Q99, Q100, Q101, Q102, Q103, Q74, Q75, Q77, Q78, Q79, Q80, Q81, Q82, Q83, Q84, clr, List.length_nil, List.length_cons, List.getElem?_cons_zero, List.getElem?_cons_succ, Nat.reduceAdd, Nat.zero_add, Nat.add_zero, Nat.reduceLeDiff, Nat.reduceSub, ↓reduceIte, List.drop_succ_cons, List.drop_zero, List.take_succ_cons, List.take_zero, Bool.false_eq_true, List.nil_append, List.cons_append, Bool.not_true, Bool.not_false, cond_true, cond_false, bne, Q85, Q86, Q87, Q88, Q89, Q90, Q91, Q92, Q93, Q94, Q95, Q96, Q97, Q98, Q110, Q111, Q116, Q117, Q118, Q119, Q120, Q121, Q122, Q123, Option.map_some, Option.map_none]
   rw [loop_normal (by rw [hv]; exact st)]
   have hp : putA g (t :: l') = ((putA g l').1, 0 :: (putA g l').2.1, (putA g l').2.2) := by
    cases t with | mk k s n m' =>
    have : ¬ k = 4 := of_decide_eq_false hct
    rw [putA, if_neg this]
   obtain ⟨H', x'', k1, k2, k3, k4⟩ := ih (i + 1) H2 code g x' (ks ++ [0]) (V90 b B' es.length r x' c ((i + 1 : Nat) : Int) (.ptr H.length 0) (.v (.int .i64 0)) (.v (.bool true)) (.v (.bool false))) (by omega) hd' (by simp [hks]) cp2 hA2 (by have := gb2.1; simp at this; omega) (by omega) (by omega) (by omega) rfl
   rw [hp]
   rw [List.append_assoc, List.singleton_append] at k3
   exact ⟨H', x'', k1, k2, k3, (gba.trans gb2).trans k4⟩
  | true =>
   have hk4 : (t.k == 4) = true := by
    have : t.k = 4 := of_decide_eq_true hct
    simpa using this
   obtain ⟨H1, t1, cp1, rs1⟩ := cpa.temp (by omega)
   have b1' : code.length + 2 * zT t ≤ 900000 := by omega
   have b2' : ({ g with next := g.next + 1 } : Sg).next + zT t ≤ 3000001 := by show g.next + 1 + zT t ≤ 3000001; omega
   have b3' : ({ g with next := g.next + 1 } : Sg).met.length + zT t ≤ 900000 := by show g.met.length + zT t ≤ 900000; omega
   obtain ⟨H2, g2, cp2, rs2⟩ := hcall t htm hct e H1 code { g with next := g.next + 1 } g.next hT cp1 b1' b2' b3'
   have rsT := rs1.trans rs2
   have hl2 : H2.length = H.length + 1 := by rw [rsT.1]; simp
   obtain ⟨x', H3, a3, cp3, hA3, gb3⟩ := cp2.addA ((hA.app _).rsB hbB hrB hmB rsT) (by omega) hbB hrB hmB g.next (by omega)
   have lda : Q76 H1 true 4 (.ptr H.length 0) = some e := by
    rw [bx_ld (cp.obj rs1), if_pos (by have := hT.cl.2; omega), List.drop_zero]; exact hT.asEl
   have st : exec (callW F) K c90_11 (V90 b B' es.length r x c i .junk .junk .junk .junk) H = some (.normal, V90 b B' es.length r x' c ((i + 1 : Nat) : Int) (.ptr H.length 0) (.v (.int .i64 g.next)) (.v (.bool true)) (.v (.bool true)), H3) := by
    have bkH := bk H
    generalize hG : H ++ [AO.box 24 e.cells] = G at *
    simp only [V90, c90_11, c90_3, c90_4, c90_5, c90_6, c90_7, c90_8, c90_9, c90_10, hlt, hw, q1, hf, bkH, hk4, q9, hG, t1, lda, g2, b1, snap_int, Q104, e_append, a3, e_callh, List.map_cons, List.map_nil, Q0, Q1, Q2, Q3, Q4, Q5, Q6, Q7, Q8, Q9, Q10, Q11, Q12, Q13, Q14, Q15, Q16, Q17, Q18, Q19, Q20, Q21, Q22, Q23, Q24, Q25, Q26, Q27, Q28, Q29, Q30, Q31, Q32, Q33, Q35, Q36, Q37, Q38, Q39, Q40, Q41, Q42, Q43, Q44, Q45, Q46, Q47, Q48, Q49, Q50, Q51, Q52, Q53, Q54, Q55, Q56, Q57, Q58, Q59, Q60, Q61, Q62, Q63, Q64, Q65, Q66, Q67, Q68, Q69, Q70, Q71, Q72, Q73, Q99, Q100, Q101, Q102, Q103, Q74, Q75, Q77, Q78, Q79, Q80, Q81, Q82, Q83, Q84, clr, List.length_nil, List.length_cons, List.getElem?_cons_zero, List.getElem?_cons_succ, Nat.reduceAdd, Nat.zero_add, Nat.add_zero, Nat.reduceLeDiff, Nat.reduceSub, ↓reduceIte, List.drop_succ_cons, List.drop_zero, List.take_succ_cons, List.take_zero, Bool.false_eq_true, List.nil_append, List.cons_append, Bool.not_true, Bool.not_false, cond_true, cond_false, bne, Q85, Q86, Q87, Q88, Q89, Q90, Q91, Q92, Q93, Q94, Q95, Q96, Q97, Q98, Q110, Q111, Q116, Q117, Q118, Q119, Q120, Q121, Q122, Q123, Option.map_some, Option.map_none]
   rw [loop_normal (by rw [hv]; exact st)]
   have hp : putA g (t :: l') = ((putC g.next { g with next := g.next + 1 } t).1 ++ (putA (putC g.next { g with next := g.next + 1 } t).2 l').1, g.next :: (putA (putC g.next { g with next := g.next + 1 } t).2 l').2.1, (putA (putC g.next { g with next := g.next + 1 } t).2 l').2.2) := by
    cases t with | mk k s n m' =>
    have : k = 4 := of_decide_eq_true hct
    rw [putA, if_pos this]
   have hcl1 := putC_len g.next { g with next := g.next + 1 } (wfL_mem hwf t htm) hct
   have hkl := kT_le t
   have hnl := putC_next t g.next { g with next := g.next + 1 }
   have hml1 := putC_met t g.next { g with next := g.next + 1 }
   have hcz : cL t.l + 1 ≤ zT t := by
    cases t with | mk k s n m' =>
    have := cL_le m'
    rw [zT]; simp only [Tm.l]; omega
   have hcz2 : zL t.l ≤ zT t := by
    cases t with | mk k s n m' =>
    rw [zT]; simp only [Tm.l]; omega
   simp only at hml1
   obtain ⟨H', x'', k1, k2, k3, k4⟩ := ih (i + 1) H3 _ _ x' (ks ++ [g.next]) (V90 b B' es.length r x' c ((i + 1 : Nat) : Int) (.ptr H.length 0) (.v (.int .i64 g.next)) (.v (.bool true)) (.v (.bool true))) (by omega) hd' (by simp [hks]) cp3 hA3 (by have := gb3.1; omega) (by rw [List.length_append]; omega) (by rw [hnl]; simp only; omega) (by omega) rfl
   rw [hp]
   rw [List.append_assoc, List.singleton_append] at k3
   rw [List.append_assoc] at k2
   exact ⟨H', x'', k1, k2, k3, (gba.trans rsT.gb).trans (gb3.trans k4)⟩
end Go.AE.YtinhjhkmpknbbaaDoor
end

section
namespace Go.AE.YtinhjhkmpknbbaaDoor
open Go Go.AE Go.Proofs.YtinhjhkmpknbbaaDoor

def K90b : List Bool := [true, false, false, false, true, false, false, false, false, false, false, false, false, false, true, true, true, false, false, false, false, false]
def V90b (b n : Nat) (x : AV) (c : AV) (i : Int) (x7 x8 x17 x18 x19 x20 x21 : AV) : List AV := [.ptr b 0, .junk, .junk, .junk, x, .junk, .junk, x7, x8, .junk, .junk, .junk, .junk, .junk, c, .v (.int .i64 n), .v (.int .i64 i), x17, x18, x19, x20, x21]
theorem comp2_loop {K b rl m B : Nat} (hbB : b < B) (hrB : rl < B) (hmB : m < B) {x : AV} {ks : List Nat} {c : AV} {es : List AV} {l : List Tm} (hs : Sl 4 c es) (hes : All2 es l) (hwf : wfL l) (hm : es.length ≤ 900000) (hks : ks.length = es.length) :
  ∀ (l' : List Tm) (i : Nat) (H : List AO) (code : List Op5) (g : Sg) (vars : List AV), i + l'.length = es.length → l' = l.drop i → Dp H b rl m code g → Ar H B x ks → B ≤ H.length →
   code.length + l'.length ≤ 900000 → g.met.length + l'.length ≤ 900000 → clr K90b vars = V90b b es.length x c i .junk .junk .junk .junk .junk .junk .junk →
   ∃ H' , loopN (exec (callW F) K c90_25) K90b (l'.length + 1) vars H = some (.exit 2, V90b b es.length x c es.length .junk .junk (.v (.bool false)) .junk .junk .junk .junk, H') ∧
    Dp H' b rl m (code ++ (setA g l' (ks.drop i)).1) (setA g l' (ks.drop i)).2 ∧ Gb B [b, rl, m] H H' := by
 have hll := hes.length
 intro l'
 induction l' with
 | nil =>
  intro i H code g vars hil _ cp hA hB _ _ hv
  have hil : i = es.length := by simpa using hil
  subst hil
  have hlt := lt_f (n := es.length)
  have e : ∀ ks : List Nat, setA g [] ks = ([], g) := fun ks => by cases ks <;> rfl
  refine ⟨H, ?_, by rw [e]; simpa using cp, .refl H⟩
  rw [List.length_nil, Nat.zero_add]
  refine loop_exit ?_
  rw [hv]
  simp only [V90b, c90_25, c90_14, hlt, Q0, Q1, Q2, Q3, Q4, Q5, Q6, Q7, Q8, Q9, Q10, Q11, Q12, Q13, Q14, Q15, Q16, Q17, Q18, Q19, Q20, Q21, Q22, Q23, Q24, Q25, Q26, Q27, Q28, Q29, Q30, Q31, Q32, Q33, Q35, Q36, Q37, Q38, Q39, Q40, Q41, Q42, Q43, Q44, Q45, Q46, Q47, Q48, Q49, Q50, Q51, Q52, Q53, Q54, Q55, Q56, Q57, Q58, Q59, Q60, Q61, Q62, Q63, Q64, Q65, Q66, Q67, Q68, Q69, Q70, Q71, Q72, Q73, Q99, Q100, Q101, Q102, Q103, Q74, Q75, Q77, Q78, Q79, Q80, Q81, Q82, Q83, Q84, clr, List.length_nil, List.length_cons, List.getElem?_cons_zero, List.getElem?_cons_succ, Nat.reduceAdd, Nat.zero_add, Nat.add_zero, Nat.reduceLeDiff, Nat.reduceSub, ↓reduceIte, List.drop_succ_cons, List.drop_zero, List.take_succ_cons, List.take_zero, Bool.false_eq_true, List.nil_append, List.cons_append, Bool.not_true, Bool.not_false, cond_true, cond_false, bne, Q85, Q86, Q87, Q88, Q89, Q90, Q91, Q92, Q93, Q94, Q95, Q96, Q97, Q98, Q110, Q111, Q116, Q117, Q118, Q119, Q120, Q121, Q122, Q123, Option.map_some, Option.map_none, Q34]
 | cons t l' ih =>
  intro i H code g vars hil hd cp hA hB hcl hml hv
  have hil' : i < es.length := by simp at hil; omega
  have hll' : i < l.length := by omega
  have hti : l[i] = t := by
   have h1 := List.drop_eq_getElem_cons hll'
   rw [← hd] at h1
   exact (List.cons.inj h1).1.symm
  have hd' : l' = l.drop (i + 1) := by
   have h1 := List.drop_eq_getElem_cons hll'
   rw [← hd] at h1
   exact (List.cons.inj h1).2
  have hT := hes.at hil' hll'
  rw [hti] at hT
  have htm : t ∈ l := by rw [← hti]; exact List.getElem_mem hll'
  have he : es[i]? = some es[i] := List.getElem?_eq_getElem hil'
  generalize es[i] = e at hT he
  have hf := hT.facts
  have q1 := fun h : List AO => hs.ia he h
  have hlt := lt_t hil'
  have hw := wrap_succ hil' (small_maxM hm)
  have hik : i < ks.length := by omega
  have hkd : ks.drop i = ks[i] :: ks.drop (i + 1) := List.drop_eq_getElem_cons hik
  have q9 : ∀ h : List AO, bx h 24 (ofVal (.agg #[(.int .i64 0), (.string ⟨#[]⟩), (.int .i64 0), (.slice none 0 0)])).cl = some (.ptr h.length 0, h ++ [.box 24 [.v (.int .i64 0), .v (.string ⟨#[]⟩), .v (.int .i64 0), .v (.slice none 0 0)]]) := fun h => by rw [q9z]; rfl
  rw [show (t :: l').length + 1 = (l'.length + 1) + 1 from rfl]
  simp only [List.length_cons] at hcl hil hml
  have hbe : AO.below 0 (.box 24 e.cells) = true := hT.bel
  have cpa := cp.app (l := [.box 24 e.cells]) (by simp [below_mono (Nat.zero_le _) _ hbe])
  have hwt := wfL_mem hwf t htm
  have gba : Gb B [b, rl, m] H (H ++ [.box 24 e.cells]) := Gb.app hB _
  obtain ⟨cd, g', hcd⟩ : ∃ cd g', (if isC t then ((⟨20, 0, ks[i], nos, 0⟩ : Op5), g) else (pIns 16 0 g t, pSg g t)) = (cd, g') := ⟨_, _, rfl⟩
  have hset : setA g (t :: l') (ks.drop i) = (cd :: (setA g' l' (ks.drop (i + 1))).1, (setA g' l' (ks.drop (i + 1))).2) := by
   rw [hkd, setA]
   cases hc : isC t with
   | true => rw [hc] at hcd; simp only [if_true, Prod.mk.injEq] at hcd ⊢; obtain ⟨rfl, rfl⟩ := hcd; exact ⟨rfl, rfl⟩
   | false => rw [hc] at hcd; simp only [Bool.false_eq_true, if_false, Prod.mk.injEq] at hcd ⊢; obtain ⟨rfl, rfl⟩ := hcd; exact ⟨rfl, rfl⟩
  have hg' : g'.met.length ≤ g.met.length + 1 := by
   cases hc : isC t with
   | true => rw [hc] at hcd; simp only [if_true, Prod.mk.injEq] at hcd; obtain ⟨_, rfl⟩ := hcd; omega
   | false => rw [hc] at hcd; simp only [Bool.false_eq_true, if_false, Prod.mk.injEq] at hcd; obtain ⟨_, rfl⟩ := hcd; exact pSg_len g t
  suffices step : ∃ H2 vs2, exec (callW F) K c90_25 (V90b b es.length x c i .junk .junk .junk .junk .junk .junk .junk) H = some (.normal, vs2, H2) ∧
    clr K90b vs2 = V90b b es.length x c ((i + 1 : Nat) : Int) .junk .junk .junk .junk .junk .junk .junk ∧ Dp H2 b rl m (code ++ [cd]) g' ∧ Rs [b, rl, m] (H ++ [.box 24 e.cells]) H2 by
   obtain ⟨H2, vs2, st, hv2, cp2, rs2⟩ := step
   rw [loop_normal (by rw [hv]; exact st)]
   have hl2 : H2.length = H.length + 1 := by rw [rs2.1]; simp
   obtain ⟨H', k1, k2, k3⟩ := ih (i + 1) H2 _ _ vs2 (by omega) hd' cp2 ((hA.app _).rsB hbB hrB hmB rs2) (by omega) (by rw [List.length_append, List.length_singleton]; omega) (by omega) hv2
   rw [hset]
   rw [List.append_assoc, List.singleton_append] at k2
   exact ⟨H', k1, k2, (gba.trans rs2.gb).trans k3⟩
  cases hc : isC t with
  | false =>
   rw [hc] at hcd
   simp only [Bool.false_eq_true, if_false, Prod.mk.injEq] at hcd
   obtain ⟨rfl, rfl⟩ := hcd
   have hk := wf_k hwt hc
   have ldt : Q76 (H ++ [.box 24 e.cells]) true 4 (.ptr H.length 0) = some e := hf.2.2.2.1 H 24
   cases hT with
   | mk k s n cc l2 hcc =>
   have hob : (H ++ [AO.box 24 [.v (.int .i64 k), .v (.string s), .v (.int .i64 n), cc]])[H.length]? = some (.box 24 [.v (.int .i64 k), .v (.string s), .v (.int .i64 n), cc]) := bxl
   have o0 := tm_ld0 hob
   have o1 := tm_ld1 hob
   have o2 : Q76 (H ++ [AO.box 24 [.v (.int .i64 k), .v (.string s), .v (.int .i64 n), cc]]) false 1 (.ptr H.length 2) = some (.v (.int .i64 n)) := by rw [bx_ld hob]; rfl
   simp only [Tm.k] at hk
   simp only [AV.cells] at hf cpa ldt
   rcases hk with rfl | rfl | rfl
   ·obtain ⟨H2, g1, cp2, rs2⟩ := var_ok cpa (by omega) (by omega) (.mk 1 s n cc l2 hcc) rfl (op := 16) (op2 := 17) (a := 0) rfl
    refine ⟨H2, V90b b es.length x c ((i + 1 : Nat) : Int) (.v (.int .i64 i)) (.ptr H.length 0) (.v (.bool true)) (.v (.int .i64 1)) (.v (.bool true)) .junk .junk, ?_, rfl, cp2, rs2⟩
    have e1 : ((1 : Int) == 1) = true := rfl
    simp only [V90b, c90_25, c90_14, c90_15, c90_16, c90_17, c90_18, c90_24, hlt, hw, q1, hf, q9, o0, ldt, e1, g1, e_callh, List.map_cons, List.map_nil, Q0, Q1, Q2, Q3, Q4, Q5, Q6, Q7, Q8, Q9, Q10, Q11, Q12, Q13, Q14, Q15, Q16, Q17, Q18, Q19, Q20, Q21, Q22, Q23, Q24, Q25, Q26, Q27, Q28, Q29, Q30, Q31, Q32, Q33, Q35, Q36, Q37, Q38, Q39, Q40, Q41, Q42, Q43, Q44, Q45, Q46, Q47, Q48, Q49, Q50, Q51, Q52, Q53, Q54, Q55, Q56, Q57, Q58, Q59, Q60, Q61, Q62, Q63, Q64, Q65, Q66, Q67, Q68, Q69, Q70, Q71, Q72, Q73, Q99, Q100, Q101, Q102, Q103, Q74, Q75, Q77, Q78, Q79, Q80, Q81, Q82, Q83, Q84, clr, List.length_nil, List.length_cons, List.getElem?_cons_zero, List.getElem?_cons_succ, Nat.reduceAdd, Nat.zero_add, Nat.add_zero, Nat.reduceLeDiff, Nat.reduceSub, ↓reduceIte, List.drop_succ_cons, List.drop_zero, List.take_succ_cons, List.take_zero, Bool.false_eq_true, List.nil_append, List.cons_append, Bool.not_true, Bool.not_false, cond_true, cond_false, bne, Q85, Q86, Q87, Q88, Q89, Q90, Q91, Q92, Q93, Q94, Q95, Q96, Q97, Q98, Q110, Q111, Q116, Q117, Q118, Q119, Q120, Q121, Q122, Q123, Option.map_some, Option.map_none]
   ·obtain ⟨H2, g1, cp2, rs2⟩ := cpa.lay (by omega) ⟨18, 0, 0, s, 0⟩
    have bld : ∀ (vars env : List AV), evBuild vars (.v (.string s) :: env) [.v (.int .i64 0), .v (.int .i64 0), .v (.int .i64 0), .v (.string ⟨#[]⟩), .v (.int .i64 0)] [(0, 1, (.k (.int .i64 18))), (3, 1, (.loc 0))] = some [.v (.int .i64 18), .v (.int .i64 0), .v (.int .i64 0), .v (.string s), .v (.int .i64 0)] := fun _ _ => rfl
    refine ⟨H2, V90b b es.length x c ((i + 1 : Nat) : Int) (.v (.int .i64 i)) (.ptr H.length 0) (.v (.bool true)) (.v (.int .i64 2)) (.v (.bool false)) (.v (.bool true)) .junk, ?_, rfl, cp2, rs2⟩
    have e1 : ((2 : Int) == 1) = false := rfl
    have e2 : ((2 : Int) == 2) = true := rfl
    simp only [o5] at g1
    simp only [V90b, c90_25, c90_14, c90_15, c90_16, c90_17, c90_19, c90_20, c90_24, hlt, hw, q1, hf, q9, o0, o1, bld, Q106, Q107, toL, e1, e2, g1, e_callh, List.map_cons, List.map_nil, Q0, Q1, Q2, Q3, Q4, Q5, Q6, Q7, Q8, Q9, Q10, Q11, Q12, Q13, Q14, Q15, Q16, Q17, Q18, Q19, Q20, Q21, Q22, Q23, Q24, Q25, Q26, Q27, Q28, Q29, Q30, Q31, Q32, Q33, Q35, Q36, Q37, Q38, Q39, Q40, Q41, Q42, Q43, Q44, Q45, Q46, Q47, Q48, Q49, Q50, Q51, Q52, Q53, Q54, Q55, Q56, Q57, Q58, Q59, Q60, Q61, Q62, Q63, Q64, Q65, Q66, Q67, Q68, Q69, Q70, Q71, Q72, Q73, Q99, Q100, Q101, Q102, Q103, Q74, Q75, Q77, Q78, Q79, Q80, Q81, Q82, Q83, Q84, clr, List.length_nil, List.length_cons, List.getElem?_cons_zero, List.getElem?_cons_succ, Nat.reduceAdd, Nat.zero_add, Nat.add_zero, Nat.reduceLeDiff, Nat.reduceSub, ↓reduceIte, List.drop_succ_cons, List.drop_zero, List.take_succ_cons, List.take_zero, Bool.false_eq_true, List.nil_append, List.cons_append, Bool.not_true, Bool.not_false, cond_true, cond_false, bne, Q85, Q86, Q87, Q88, Q89, Q90, Q91, Q92, Q93, Q94, Q95, Q96, Q97, Q98, Q110, Q111, Q116, Q117, Q118, Q119, Q120, Q121, Q122, Q123, Option.map_some, Option.map_none]
   ·obtain ⟨H2, g1, cp2, rs2⟩ := cpa.lay (by omega) ⟨19, 0, 0, nos, n⟩
    have bld : ∀ (vars env : List AV), evBuild vars (.v (.int .i64 n) :: env) [.v (.int .i64 0), .v (.int .i64 0), .v (.int .i64 0), .v (.string ⟨#[]⟩), .v (.int .i64 0)] [(0, 1, (.k (.int .i64 19))), (4, 1, (.loc 0))] = some [.v (.int .i64 19), .v (.int .i64 0), .v (.int .i64 0), .v (.string ⟨#[]⟩), .v (.int .i64 n)] := fun _ _ => rfl
    refine ⟨H2, V90b b es.length x c ((i + 1 : Nat) : Int) (.v (.int .i64 i)) (.ptr H.length 0) (.v (.bool true)) (.v (.int .i64 3)) (.v (.bool false)) (.v (.bool false)) (.v (.bool true)), ?_, rfl, cp2, rs2⟩
    have e1 : ((3 : Int) == 1) = false := rfl
    have e2 : ((3 : Int) == 2) = false := rfl
    have e3 : ((3 : Int) == 3) = true := rfl
    simp only [o5, nos] at g1
    simp only [V90b, c90_25, c90_14, c90_15, c90_16, c90_17, c90_19, c90_21, c90_22, c90_24, hlt, hw, q1, hf, q9, o0, o2, bld, Q106, Q107, toL, e1, e2, e3, g1, e_callh, List.map_cons, List.map_nil, Q0, Q1, Q2, Q3, Q4, Q5, Q6, Q7, Q8, Q9, Q10, Q11, Q12, Q13, Q14, Q15, Q16, Q17, Q18, Q19, Q20, Q21, Q22, Q23, Q24, Q25, Q26, Q27, Q28, Q29, Q30, Q31, Q32, Q33, Q35, Q36, Q37, Q38, Q39, Q40, Q41, Q42, Q43, Q44, Q45, Q46, Q47, Q48, Q49, Q50, Q51, Q52, Q53, Q54, Q55, Q56, Q57, Q58, Q59, Q60, Q61, Q62, Q63, Q64, Q65, Q66, Q67, Q68, Q69, Q70, Q71, Q72, Q73, Q99, Q100, Q101, Q102, Q103, Q74, Q75, Q77, Q78, Q79, Q80, Q81, Q82, Q83, Q84, clr, List.length_nil, List.length_cons, List.getElem?_cons_zero, List.getElem?_cons_succ, Nat.reduceAdd, Nat.zero_add, Nat.add_zero, Nat.reduceLeDiff, Nat.reduceSub, ↓reduceIte, List.drop_succ_cons, List.drop_zero, List.take_succ_cons, List.take_zero, Bool.false_eq_true, List.nil_append, List.cons_append, Bool.not_true, Bool.not_false, cond_true, cond_false, bne, Q85, Q86, Q87, Q88, Q89, Q90, Q91, Q92, Q93, Q94, Q95, Q96, Q97, Q98, Q110, Q111, Q116, Q117, Q118, Q119, Q120, Q121, Q122, Q123, Option.map_some, Option.map_none]
  | true =>
   rw [hc] at hcd
   simp only [if_true, Prod.mk.injEq] at hcd
   obtain ⟨rfl, rfl⟩ := hcd
   have hk4 : t.k = 4 := of_decide_eq_true hc
   obtain ⟨H2, g1, cp2, rs2⟩ := cpa.lay (by omega) ⟨20, 0, ks[i], nos, 0⟩
   obtain ⟨y, y1, y2⟩ := (hA.app [.box 24 e.cells]).el (i := i) (k := ks[i]) (List.getElem?_eq_getElem hik)
   have o0 : Q76 (H ++ [AO.box 24 e.cells]) false 1 (.ptr H.length 0) = some (.v (.int .i64 4)) := by rw [box_k hT, hk4]
   refine ⟨H2, V90b b es.length x c ((i + 1 : Nat) : Int) (.v (.int .i64 i)) (.ptr H.length 0) (.v (.bool true)) (.v (.int .i64 4)) (.v (.bool false)) (.v (.bool false)) (.v (.bool false)), ?_, rfl, cp2, rs2⟩
   have e1 : ((4 : Int) == 1) = false := rfl
   have e2 : ((4 : Int) == 2) = false := rfl
   have e3 : ((4 : Int) == 3) = false := rfl
   have bld : ∀ (vars env : List AV), evBuild vars (.v (.int .i64 (ks[i] : Nat)) :: env) [.v (.int .i64 0), .v (.int .i64 0), .v (.int .i64 0), .v (.string ⟨#[]⟩), .v (.int .i64 0)] [(0, 1, (.k (.int .i64 20))), (2, 1, (.loc 0))] = some [.v (.int .i64 20), .v (.int .i64 0), .v (.int .i64 (ks[i] : Nat)), .v (.string ⟨#[]⟩), .v (.int .i64 0)] := fun _ _ => rfl
   simp only [o5, nos] at g1
   simp only [iv] at y2
   generalize ks[i] = kk at *
   generalize hG : H ++ [AO.box 24 e.cells] = G at *
   simp only [V90b, c90_25, c90_14, c90_15, c90_16, c90_17, c90_19, c90_21, c90_23, c90_24, hlt, hw, q1, hf, q9, hG, o0, y1, y2, bld, Q106, Q107, toL, e1, e2, e3, g1, e_callh, List.map_cons, List.map_nil, Q0, Q1, Q2, Q3, Q4, Q5, Q6, Q7, Q8, Q9, Q10, Q11, Q12, Q13, Q14, Q15, Q16, Q17, Q18, Q19, Q20, Q21, Q22, Q23, Q24, Q25, Q26, Q27, Q28, Q29, Q30, Q31, Q32, Q33, Q35, Q36, Q37, Q38, Q39, Q40, Q41, Q42, Q43, Q44, Q45, Q46, Q47, Q48, Q49, Q50, Q51, Q52, Q53, Q54, Q55, Q56, Q57, Q58, Q59, Q60, Q61, Q62, Q63, Q64, Q65, Q66, Q67, Q68, Q69, Q70, Q71, Q72, Q73, Q99, Q100, Q101, Q102, Q103, Q74, Q75, Q77, Q78, Q79, Q80, Q81, Q82, Q83, Q84, clr, List.length_nil, List.length_cons, List.getElem?_cons_zero, List.getElem?_cons_succ, Nat.reduceAdd, Nat.zero_add, Nat.add_zero, Nat.reduceLeDiff, Nat.reduceSub, ↓reduceIte, List.drop_succ_cons, List.drop_zero, List.take_succ_cons, List.take_zero, Bool.false_eq_true, List.nil_append, List.cons_append, Bool.not_true, Bool.not_false, cond_true, cond_false, bne, Q85, Q86, Q87, Q88, Q89, Q90, Q91, Q92, Q93, Q94, Q95, Q96, Q97, Q98, Q110, Q111, Q116, Q117, Q118, Q119, Q120, Q121, Q122, Q123, Option.map_some, Option.map_none]
theorem comp_ok {b rl m : Nat} : ∀ (N : Nat) (t : Tm), SizeOf.sizeOf t < N → wfT t → isC t = true → ∀ (a : AV) (h : List AO) (code : List Op5) (g : Sg) (r : Nat), IsT a t → Dp h b rl m code g → code.length + 2 * zT t ≤ 900000 → g.next + zT t ≤ 3000001 → g.met.length + zT t ≤ 900000 →
   ∃ h', callW F 90 [.ptr b 0, .v (.int .i64 r), a] h = some (.tup [], h') ∧ Dp h' b rl m (code ++ (putC r g t).1) (putC r g t).2 ∧ Rs [b, rl, m] h h' := by
 intro N
 induction N with
 | zero => intro t h; omega
 | succ N ih =>
  intro t hN hwf hct a h code g r ha cp hcl hnx hml
  obtain ⟨hlb, hlr, hlt, _⟩ := cp.mb
  have hbe : AO.below 0 (.box 24 a.cells) = true := ha.bel
  have hf := ha.facts
  cases ha with
  | mk k s n c l hc =>
  have wl := hwf.l
  simp only [Tm.l] at wl
  obtain ⟨es, hs, hes, hm⟩ := hc.sl
  have hll := hes.length
  have hzl := zL_len l
  rw [zT] at hcl hnx hml
  have hmm : es.length ≤ 900000 := by omega
  have bxt : bx h 24 (some [.v (.int .i64 k), .v (.string s), .v (.int .i64 n), c]) = some (.ptr h.length 0, h ++ [.box 24 [.v (.int .i64 k), .v (.string s), .v (.int .i64 n), c]]) := rfl
  simp only [AV.cells] at hf hbe
  have cl := hf.2.2.2.2
  have cpa := cp.app (l := [.box 24 [.v (.int .i64 k), .v (.string s), .v (.int .i64 n), c]]) (by simp [below_mono (Nat.zero_le _) _ hbe])
  have gba : Gb h.length [b, rl, m] h (h ++ [.box 24 [.v (.int .i64 k), .v (.string s), .v (.int .i64 n), c]]) := Gb.app (Nat.le_refl _) _
  have o3 := tm_ld3 (H := h ++ [.box 24 [.v (.int .i64 k), .v (.string s), .v (.int .i64 n), c]]) bxl
  have hsz : ∀ t ∈ l, SizeOf.sizeOf t < N := by
   intro t ht
   have h1 := List.sizeOf_lt_of_mem ht
   have h2 := Tm.mk.sizeOf_spec k s n l
   omega
  have hl0 : (h ++ [AO.box 24 [.v (.int .i64 k), .v (.string s), .v (.int .i64 n), c]]).length = h.length + 1 := by simp
  obtain ⟨H1, x1, k1, cp1, hA1, gb1⟩ := comp1_loop (K := l.length + 1) (b := b) (rl := rl) (m := m) (B := h.length + 1) (B' := h.length) (r := (r : Int)) (by omega) (by omega) (by omega) hs hes wl hmm
   (fun t ht hc a H code g k hT hcp b1 b2 b3 => ih t (hsz t ht) (wfL_mem wl t ht) hc a H code g k hT hcp b1 b2 b3)
   l 0 _ code g (.v (.slice none 0 0)) [] [.ptr b 0, .v (.int .i64 r), .agg [.v (.int .i64 k), .v (.string s), .v (.int .i64 n), c], .ptr h.length 0, .v (.slice none 0 0), .v undef, .v undef, .v undef, .v undef, c, .v (.int .i64 es.length), .v (.int .i64 0), .v undef, .v undef, .v undef, .v undef, .v undef, .v undef, .v undef, .v undef, .v undef, .v undef] (by omega) (by simp) rfl cpa .nil (by omega) (by omega) (by omega) (by omega) rfl
  have hob1 : H1[h.length]? = some (.box 24 [.v (.int .i64 k), .v (.string s), .v (.int .i64 n), c]) := by
   rw [gb1.2 _ (by omega) (cp.nin (Nat.le_refl _))]; exact bxl
  have p1 := tm_ld1 hob1
  have p3 := tm_ld3 hob1
  have hal := putA_sum g wl
  have ham := putA_met l g
  have hkl : ((comps l).map kT).sum + l.length = zL l + innL l := by have := kL wl; omega
  have hil := innL_le l
  obtain ⟨H2, g2, cp2, rs2⟩ := cp1.lay (by rw [List.length_append]; omega) ⟨15, r, 0, s, l.length⟩
  have hob2 : H2[h.length]? = some (.box 24 [.v (.int .i64 k), .v (.string s), .v (.int .i64 n), c]) := by
   rw [rs2.2 _ (cp.nin (Nat.le_refl _))]; exact hob1
  have r3 := tm_ld3 hob2
  have hl1 := gb1.1
  have hA2 := hA1.rsB (by omega) (by omega) (by omega) rs2
  simp only [List.nil_append] at hA2
  obtain ⟨H3, k3, cp3, gb3⟩ := comp2_loop (K := l.length + 1) (b := b) (rl := rl) (m := m) (B := h.length + 1) (x := x1) (by omega) (by omega) (by omega) hs hes wl hmm (by rw [putA_len, hll]) l 0 H2 _ _
   [.ptr b 0, .v (.int .i64 r), .junk, .ptr h.length 0, x1, .junk, .junk, .junk, .junk, c, .v (.int .i64 es.length), .v (.int .i64 es.length), .v (.bool false), .junk, c, .v (.int .i64 es.length), .v (.int .i64 0), .junk, .junk, .junk, .junk, .junk] (by omega) (by simp) cp2 hA2 (by rw [rs2.1]; omega) (by rw [List.length_append, List.length_append, List.length_singleton]; omega) (by omega) rfl
  rw [List.drop_zero] at cp3
  have gb : Gb h.length [b, rl, m] h H3 := by
   have e : Gb h.length [b, rl, m] (h ++ [AO.box 24 [.v (.int .i64 k), .v (.string s), .v (.int .i64 n), c]]) H3 := by
    have := (gb1.trans rs2.gb).trans gb3
    exact ⟨this.1, fun j h1 h2 => this.2 j (by omega) h2⟩
   exact gba.trans e
  have cp3' : Dp H3 b rl m (code ++ (putC r g (.mk k s n l)).1) (putC r g (.mk k s n l)).2 := by
   rw [putC]
   simp only
   have e : ∀ (A Z : List Op5) (P : Op5), code ++ (A ++ P :: Z) = code ++ A ++ [P] ++ Z := fun A Z P => by simp
   rw [e]
   exact cp3
  obtain ⟨h3, L, he, cp4, rs4⟩ := cp.pre cp3' gb
  refine ⟨h3, callW_own (c := c90) rfl rfl (l.length + 1) ?_, cp4, rs4⟩
  have lvv : leave h.length c90 (some (.normal, V90b b es.length x1 c es.length .junk .junk (.v (.bool false)) .junk .junk .junk .junk, h3 ++ L)) = some (.tup [], h3) := leaveN _ (.inr rfl) rfl rs4.1 (by rw [← rs4.1]; exact cp4.bel)
  rw [← lvv]
  congr 1
  rw [← he]
  have q1 := fun H : List AO => hs.len H
  have bld : ∀ (vars env : List AV) (x1 x2 x4 : AV), evBuild vars (.v (.int .i64 es.length) :: x1 :: x2 :: .v (.string s) :: x4 :: .v (.int .i64 r) :: env) [.v (.int .i64 0), .v (.int .i64 0), .v (.int .i64 0), .v (.string ⟨#[]⟩), .v (.int .i64 0)] [(0, 1, (.k (.int .i64 15))), (1, 1, (.loc 5)), (3, 1, (.loc 3)), (4, 1, (.loc 0))] = some [.v (.int .i64 15), .v (.int .i64 r), .v (.int .i64 0), .v (.string s), .v (.int .i64 es.length)] := fun _ _ _ _ _ => rfl
  simp only [o5, ← hll] at g2
  rw [show c90.body = (.seq (.region [] [] c90_0) (.seq (.region [] [] c90_1) (.seq (.seq (.region [] [] c90_2) (.block 0 (.loop K90 [] c90_11))) (.seq (.region [] [] c90_12) (.seq (.region [] [] c90_13) (.block 2 (.loop K90b [] c90_25))))))) from rfl]
  generalize c90_11 = bb1 at k1 ⊢
  generalize c90_25 = bb2 at k3 ⊢
  simp only [V90, V90b] at k1 k3 ⊢
  simp only [c90, start, List.replicate, List.append_nil, c90_0, c90_1, c90_2, c90_12, c90_13, bxt, cl, o3, p1, p3, r3, q1, k1, bld, g2, Q106, Q107, toL, e_callh, List.map_cons, List.map_nil, k3, Q0, Q1, Q2, Q3, Q4, Q5, Q6, Q7, Q8, Q9, Q10, Q11, Q12, Q13, Q14, Q15, Q16, Q17, Q18, Q19, Q20, Q21, Q22, Q23, Q24, Q25, Q26, Q27, Q28, Q29, Q30, Q31, Q32, Q33, Q35, Q36, Q37, Q38, Q39, Q40, Q41, Q42, Q43, Q44, Q45, Q46, Q47, Q48, Q49, Q50, Q51, Q52, Q53, Q54, Q55, Q56, Q57, Q58, Q59, Q60, Q61, Q62, Q63, Q64, Q65, Q66, Q67, Q68, Q69, Q70, Q71, Q72, Q73, Q99, Q100, Q101, Q102, Q103, Q74, Q75, Q77, Q78, Q79, Q80, Q81, Q82, Q83, Q84, clr, List.length_nil, List.length_cons, List.getElem?_cons_zero, List.getElem?_cons_succ, Nat.reduceAdd, Nat.zero_add, Nat.add_zero, Nat.reduceLeDiff, Nat.reduceSub, ↓reduceIte, List.drop_succ_cons, List.drop_zero, List.take_succ_cons, List.take_zero, Bool.false_eq_true, List.nil_append, List.cons_append, Bool.not_true, Bool.not_false, cond_true, cond_false, bne, Q85, Q86, Q87, Q88, Q89, Q90, Q91, Q92, Q93, Q94, Q95, Q96, Q97, Q98, Q110, Q111, Q116, Q117, Q118, Q119, Q120, Q121, Q122, Q123, Option.map_some, Option.map_none]
end Go.AE.YtinhjhkmpknbbaaDoor
end
