/- Texts of this claim, put together. -/
import Derived.Test.YtgcbaefclkfnoaaDoorPart2
import Derived.Test.YtgcbaefclkfnoaaDoorEval3
import Derived.Test.YtgcbaefclkfnoaaDoorRows
import Derived.WalkKit
import Derived.ProofKit
import Derived.OpenShut
import Derived.ShutString
import Derived.ChangeOld
import Derived.Below
import Derived.SizedLaws
import Derived.KernelRfl
import Derived.Test.YtgcbaefclkfnoaaDoorTie
import Derived.Test.YtgcbaefclkfnoaaDoorCards
import Derived.Lib.LaidIn
import Derived.Lib.LaidU8T
import Derived.Handed
import Derived.SevenTiedAt
/-! Fresh, of the program and of the document: both shift the numbers of all Vars. -/
section
set_option linter.unusedVariables false
set_option linter.unusedSimpArgs false
namespace Go.AE.YtgcbaefclkfnoaaDoor
open Go Go.AE Go.Proofs.YtgcbaefclkfnoaaDoor

mutual
def shiftT (by' : Int) : Tm → Tm
  | .mk k s n l => .mk k s (if k = 1 then IntKind.i64.wrap (n + by') else n) (shiftL by' l)
def shiftL (by' : Int) : List Tm → List Tm
  | [] => []
  | t :: l => shiftT by' t :: shiftL by' l
end
/-! ### The document's -/
def K35 : List Bool := [false, true, true, true, true, false, false, true, true, true, false]
def L35 (x : Int) (acc c : AV) (len i : Int) : List AV := [.junk, .v (.int .i64 x), .ptr 0 0, .ptr 1 0, acc, .junk, .junk, c, .v (.int .i64 len), .v (.int .i64 i), .junk]

theorem shift_loop {K : Nat} {c : AV} {es : List AV} (hs : Sl 4 c es) (hm : es.length ≤ 100000) (x : Int) :
    ∀ (l : List Tm) (i : Nat) (acc : AV) (ds : List AV) (dl : List Tm) (h : List AO) (vars : List AV), i + l.length = es.length → ds.length = i → All2 (es.drop i) l → All2 ds dl → (∀ t ∈ l, ∀ (e : AV), IsT e t → ∃ r, IsT r (shiftT x t) ∧ callW F 30 [e, .v (.int .i64 x)] [] = some (r, [])) →
      Acc 24 4 h acc ds → clr K35 vars = L35 x acc c es.length i →
      ∃ acc' ds' h' x5 x6 x10, loopN (exec (callW F) K c30_9) K35 (l.length + 1) vars h = some (.exit 0, [.junk, .v (.int .i64 x), .ptr 0 0, .ptr 1 0, acc', x5, x6, c, .v (.int .i64 es.length), .v (.int .i64 es.length), x10], h') ∧ Acc 24 4 h' acc' ds' ∧ All2 ds' (dl ++ shiftL x l) ∧ ds'.length = es.length ∧ Keeps h h' := by
  intro l
  induction l with
  | nil =>
    intro i acc ds dl h vars hi hds _ hall _ ha hv
    have hil : i = es.length := by simpa using hi
    subst hil
    have hlt : decide ((es.length : Int) < (es.length : Int)) = false := by simp
    refine ⟨acc, ds, h, .junk, .junk, .v (.bool false), loop_exit ?_, ha, by simpa [shiftL] using hall, hds, .refl h⟩
    rw [hv]
    simp only [L35, c30_9, c30_5, hlt, Q104, Q105, bs1, bs2, Q106, Q107, Q108, Q109, bd1, Q110, Q111, toL, List.map_cons, List.map_nil, Q112, List.set_cons_zero, List.set_cons_succ, and_self, Nat.le_refl, Q114, Q115, Q116, Q0, Q1, Q2, Q3, Q4, Q5, Q6, Q7, Q8, Q9, Q10, Q11, Q12, Q13, Q14, Q15, Q16, Q17, Q18, Q19, Q20, Q21, Q22, Q23, Q24, Q25, Q26, Q27, Q28, Q29, Q30, Q31, Q32, Q33, Q34, Q35, Q36, Q37, Q38, Q39, Q40, Q41, Q42, Q43, Q44, Q45, Q46, Q47, Q48, Q49, Q50, Q51, Q52, Q53, Q54, Q55, Q56, Q57, Q58, Q59, Q60, Q61, Q62, Q63, Q64, Q65, Q66, Q67, Q68, Q69, Q70, Q71, Q72, Q73, Q99, Q100, Q101, Q102, Q103, Q74, Q75, Q77, Q78, Q79, Q80, Q81, Q82, Q83, Q84, clr, List.length_nil, List.length_cons, List.getElem?_cons_zero, List.getElem?_cons_succ, Nat.reduceAdd, Nat.zero_add, Nat.add_zero, Nat.reduceLeDiff, Nat.reduceSub, ↓reduceIte, List.drop_succ_cons, List.drop_zero, List.take_succ_cons, List.take_zero, Bool.false_eq_true, List.nil_append, List.cons_append, Bool.not_true, Bool.not_false, cond_true, cond_false, bne, Q85, Q86, Q87, Q88, Q89, Q90, Q91, Q92, Q93, Q94, Q95, Q96, Q97, Q98]
  | cons t l ih =>
    intro i acc ds dl h vars hi hds hes hall hcall ha hv
    have hil : i < es.length := by simp at hi; omega
    have he : es[i]? = some (es[i]'hil) := List.getElem?_eq_getElem _
    have hd : es.drop i = es[i] :: es.drop (i + 1) := List.drop_eq_getElem_cons hil
    rw [hd] at hes
    cases hes with
    | cons _ _ _ _ hT hs' =>
    obtain ⟨r, hr, hc⟩ := hcall t (by simp) _ hT
    obtain ⟨acc', h2, h3, h4, h5⟩ := (ha.app (.box 24 (es[i]).cells)).add (x := .slc 4 true true [r]) (ys := [r]) (bytes := 56) elems_one (by
      have : room = 140737488355328 := rfl
      simp only [fits, List.length_cons, List.length_nil, decide_eq_true_eq]; omega)
    have hlt : (decide ((i : Int) < (es.length : Int))) = true := by simp; omega
    have q1 := hs.ia he
    have q3 : ∀ h : List AO, Q76 h true 4 (.ip (es[i]).cells) = some es[i] := fun h => hT.load
    have q5 : ∀ h : List AO, (es[i]).snap1 h = some es[i] := fun h => hT.snap
    have q6 : ∀ h : List AO, r.snap1 h = some r := fun h => hr.snap
    have q7 : r.cl = some r.cells := hr.cl.1
    have q8 : r.cells.length = 4 := hr.cl.2
    have st : exec (callW F) K c30_9 (L35 x acc c es.length i) h = some (.normal, [.junk, .v (.int .i64 x), .ptr 0 0, .ptr 1 0, acc', .ptr h.length 0, .junk, c, .v (.int .i64 es.length), .v (.int .i64 ((i + 1 : Nat) : Int)), .v (.bool true)], h2) := by
      have hz : ([.v (.int .i64 0), .v (.string ⟨#[]⟩), .v (.int .i64 0), .v (.slice none 0 0)] : List AV).length = 4 := rfl
      simp only [L35, c30_9, c30_5, c30_6, c30_7, c30_8, hlt, wrap_succ hil (small_max hm), q1, q3, q5, q6, q7, q8, hc, h3, hT.st _ _ hz, hT.ld, snap_int, q9z, e_append, bs1_some q7 q8, Q104, Q105, bs1, bs2, Q106, Q107, Q108, Q109, bd1, Q110, Q111, toL, List.map_cons, List.map_nil, Q112, List.set_cons_zero, List.set_cons_succ, and_self, Nat.le_refl, Q114, Q115, Q116, Q0, Q1, Q2, Q3, Q4, Q5, Q6, Q7, Q8, Q9, Q10, Q11, Q12, Q13, Q14, Q15, Q16, Q17, Q18, Q19, Q20, Q21, Q22, Q23, Q24, Q25, Q26, Q27, Q28, Q29, Q30, Q31, Q32, Q33, Q34, Q35, Q36, Q37, Q38, Q39, Q40, Q41, Q42, Q43, Q44, Q45, Q46, Q47, Q48, Q49, Q50, Q51, Q52, Q53, Q54, Q55, Q56, Q57, Q58, Q59, Q60, Q61, Q62, Q63, Q64, Q65, Q66, Q67, Q68, Q69, Q70, Q71, Q72, Q73, Q99, Q100, Q101, Q102, Q103, Q74, Q75, Q77, Q78, Q79, Q80, Q81, Q82, Q83, Q84, clr, List.length_nil, List.length_cons, List.getElem?_cons_zero, List.getElem?_cons_succ, Nat.reduceAdd, Nat.zero_add, Nat.add_zero, Nat.reduceLeDiff, Nat.reduceSub, ↓reduceIte, List.drop_succ_cons, List.drop_zero, List.take_succ_cons, List.take_zero, Bool.false_eq_true, List.nil_append, List.cons_append, Bool.not_true, Bool.not_false, cond_true, cond_false, bne, Q85, Q86, Q87, Q88, Q89, Q90, Q91, Q92, Q93, Q94, Q95, Q96, Q97, Q98]
    rw [show (t :: l).length + 1 = (l.length + 1) + 1 from rfl, loop_normal (by rw [hv]; exact st)]
    obtain ⟨acc'', ds', h', x5, x6, x10, g1, g2, g3, g4, g5⟩ := ih (i + 1) acc' (ds ++ [r]) (dl ++ [shiftT x t]) h2 [.junk, .v (.int .i64 x), .ptr 0 0, .ptr 1 0, acc', .ptr h.length 0, .junk, c, .v (.int .i64 es.length), .v (.int .i64 ((i + 1 : Nat) : Int)), .v (.bool true)] (by simp at hi; omega) (by simp [hds]) hs' (hall.app (.one hr)) (fun t ht => hcall t (by simp [ht])) h4 rfl
    refine ⟨acc'', ds', h', x5, x6, x10, g1, g2, ?_, g4, ((Keeps.app _ _).trans h5).trans g5⟩
    rw [shiftL]
    simpa using g3

theorem shift35 (x : Int) : ∀ (N : Nat) (t : Tm) (a : AV), SizeOf.sizeOf t < N → size t ≤ 100000 → IsT a t → ∃ r, IsT r (shiftT x t) ∧ callW F 30 [a, .v (.int .i64 x)] [] = some (r, []) := by
  intro N
  induction N with
  | zero => intro t a h; omega
  | succ N ih =>
    intro t a hN hsz ha
    cases ha with
    | mk k s n c l hc =>
    have h5 := Tm.mk.sizeOf_spec k s n l
    simp only [size] at hsz
    have hll := sizeL_len l
    have hcall : ∀ t ∈ l, ∀ (e : AV), IsT e t → ∃ r, IsT r (shiftT x t) ∧ callW F 30 [e, .v (.int .i64 x)] [] = some (r, []) := by
      intro t ht e hT
      have h6 := List.sizeOf_lt_of_mem ht
      have h7 := size_mem ht
      exact ih t e (by omega) (by omega) hT
    obtain ⟨es, hs, hes, hm⟩ := hc.sl
    have e1 := hes.length
    have key : ∀ n' : Int, ∃ acc' ds' h' x5 x6 x10, loopN (exec (callW F) (l.length + 1) c30_9) K35 (l.length + 1) (L35 x (.v (.slice none 0 0)) c es.length 0) [.box 24 [.v (.int .i64 k), .v (.string s), .v (.int .i64 n'), c], .box 24 zeroC] = some (.exit 0, [.junk, .v (.int .i64 x), .ptr 0 0, .ptr 1 0, acc', x5, x6, c, .v (.int .i64 es.length), .v (.int .i64 es.length), x10], h') ∧ Acc 24 4 h' acc' ds' ∧ All2 ds' (shiftL x l) ∧ ds'.length = es.length ∧ Keeps [.box 24 [.v (.int .i64 k), .v (.string s), .v (.int .i64 n'), c], .box 24 zeroC] h' := by
      intro n'
      exact shift_loop (K := l.length + 1) hs (by omega) x l 0 (.v (.slice none 0 0)) [] [] _ (L35 x (.v (.slice none 0 0)) c es.length 0) (by omega) rfl (by simpa using hes) .nil hcall .nil rfl
    have last : ∀ (n' : Int) (acc' x5 x6 x10 : AV) (ds' : List AV) (h' : List AO), Acc 24 4 h' acc' ds' → All2 ds' (shiftL x l) → ds'.length = es.length → Keeps [.box 24 [.v (.int .i64 k), .v (.string s), .v (.int .i64 n'), c], .box 24 zeroC] h' →
        ∃ r, IsT r (.mk k s n' (shiftL x l)) ∧ lv [.cell 3 true 4] (exec (callW F) (l.length + 1) (.seq (.region [] [] c30_10) (.seq (.region [] [] c30_11) .ret)) [.junk, .v (.int .i64 x), .ptr 0 0, .ptr 1 0, acc', x5, x6, c, .v (.int .i64 es.length), .v (.int .i64 es.length), x10] h') = some (r, []) := by
      intro n' acc' x5 x6 x10 ds' h' ha hall hlen hk
      have b0 := hk.2 0 _ _ rfl
      have b1 := hk.2 1 _ _ rfl
      have hlt0 : 0 < h'.length := (List.getElem?_eq_some_iff.1 b0).1
      have hlt1 : 1 < h'.length := (List.getElem?_eq_some_iff.1 b1).1
      have s1 := bx_st (n := 1) (o := 3) (xs := [acc']) (x := acc') b0 ha.cl rfl (by simp)
      simp only [Q112, List.set_cons_succ, List.set_cons_zero] at s1
      have b0' : (h'.set 0 (.box 24 [.v (.int .i64 k), .v (.string s), .v (.int .i64 n'), acc']))[0]? = some (.box 24 [.v (.int .i64 k), .v (.string s), .v (.int .i64 n'), acc']) := by simp [hlt0]
      have b1' : (h'.set 0 (.box 24 [.v (.int .i64 k), .v (.string s), .v (.int .i64 n'), acc']))[1]? = some (.box 24 zeroC) := by simp [b1]
      have s2 := bx_st (n := 4) (o := 0) (x := .agg [.v (.int .i64 k), .v (.string s), .v (.int .i64 n'), acc']) b1' Q110 rfl (by simp [zeroC])
      simp only [Q112, zeroC, List.set_cons_succ, List.set_cons_zero, Nat.zero_add, Nat.reduceAdd] at s2
      have b1'' : ((h'.set 0 (.box 24 [.v (.int .i64 k), .v (.string s), .v (.int .i64 n'), acc'])).set 1 (.box 24 [.v (.int .i64 k), .v (.string s), .v (.int .i64 n'), acc']))[1]? = some (.box 24 [.v (.int .i64 k), .v (.string s), .v (.int .i64 n'), acc']) := by simp [hlt1]
      have l1 := bx_ld b0' (a := true) (n := 4) (o := 0)
      have l2 := bx_ld b1'' (a := true) (n := 4) (o := 0)
      have ha' : Acc 24 4 ((h'.set 0 (.box 24 [.v (.int .i64 k), .v (.string s), .v (.int .i64 n'), acc'])).set 1 (.box 24 [.v (.int .i64 k), .v (.string s), .v (.int .i64 n'), acc'])) acc' ds' := by
        cases ha with
        | nil => exact .nil
        | own id ver k es hr hk hne =>
          refine .own id ver k ds' ?_ hk hne
          have n0 : 0 ≠ id := fun e => by subst e; rw [b0] at hr; cases hr
          have n1 : 1 ≠ id := fun e => by subst e; rw [b1] at hr; cases hr
          rw [List.getElem?_set_ne n1, List.getElem?_set_ne n0]; exact hr
      obtain ⟨c', f1, f2⟩ := ha'.frz0
      refine ⟨.agg [.v (.int .i64 k), .v (.string s), .v (.int .i64 n'), c'], .mk k s n' c' _ (Sl.isL f2 hall (by omega)), ?_⟩
      have lf : lvf ((h'.set 0 (.box 24 [.v (.int .i64 k), .v (.string s), .v (.int .i64 n'), acc'])).set 1 (.box 24 [.v (.int .i64 k), .v (.string s), .v (.int .i64 n'), acc'])) (.agg [.v (.int .i64 k), .v (.string s), .v (.int .i64 n'), acc']) = some (.agg [.v (.int .i64 k), .v (.string s), .v (.int .i64 n'), c'], []) := by
        have fz : ∀ (x : Value) (h : List AO), (AV.v x).frz0 0 h = some (.v x) := fun _ _ => rfl
        simp [lvf, AV.frz2, AV.frz1, fz, f1]
      simp only [c30_10, c30_11, s1, s2, l1, l2, lf, Q104, Q105, bs1, bs2, Q106, Q107, Q108, Q109, bd1, Q110, Q111, toL, List.map_cons, List.map_nil, Q112, List.set_cons_zero, List.set_cons_succ, and_self, Nat.le_refl, Q114, Q115, Q116, Q0, Q1, Q2, Q3, Q4, Q5, Q6, Q7, Q8, Q9, Q10, Q11, Q12, Q13, Q14, Q15, Q16, Q17, Q18, Q19, Q20, Q21, Q22, Q23, Q24, Q25, Q26, Q27, Q28, Q29, Q30, Q31, Q32, Q33, Q34, Q35, Q36, Q37, Q38, Q39, Q40, Q41, Q42, Q43, Q44, Q45, Q46, Q47, Q48, Q49, Q50, Q51, Q52, Q53, Q54, Q55, Q56, Q57, Q58, Q59, Q60, Q61, Q62, Q63, Q64, Q65, Q66, Q67, Q68, Q69, Q70, Q71, Q72, Q73, Q99, Q100, Q101, Q102, Q103, Q74, Q75, Q77, Q78, Q79, Q80, Q81, Q82, Q83, Q84, clr, List.length_nil, List.length_cons, List.getElem?_cons_zero, List.getElem?_cons_succ, Nat.reduceAdd, Nat.zero_add, Nat.add_zero, Nat.reduceLeDiff, Nat.reduceSub, ↓reduceIte, List.drop_succ_cons, List.drop_zero, List.take_succ_cons, List.take_zero, Bool.false_eq_true, List.nil_append, List.cons_append, Bool.not_true, Bool.not_false, cond_true, cond_false, bne, Q85, Q86, Q87, Q88, Q89, Q90, Q91, Q92, Q93, Q94, Q95, Q96, Q97, Q98]
    by_cases hk : k = 1
    · have h1 : (k == 1) = true := by simpa using hk
      obtain ⟨acc', ds', h', x5, x6, x10, g1, g2, g3, g4, g5⟩ := key (IntKind.i64.wrap (n + x))
      obtain ⟨r, hr, hlv⟩ := last _ acc' x5 x6 x10 ds' h' g2 g3 g4 g5
      refine ⟨r, by rw [shiftT, if_pos hk]; exact hr, callW_pure (c := c30) rfl rfl (l.length + 1) ?_⟩
      rw [← hlv]
      show lv [.cell 3 true 4] (exec (callW F) (l.length + 1) (.seq (.region [] [] c30_0) (.seq (.seq (.region [] [] c30_1) (.cond (.var 6) (.region [] [] c30_2) .skip)) (.seq (.region [] [] c30_3) (.seq (.seq (.region [] [] c30_4) (.block 0 (.loop K35 [] c30_9))) (.seq (.region [] [] c30_10) (.seq (.region [] [] c30_11) .ret)))))) _ _) = _
      generalize (CC.seq (.region [] [] c30_10) (.seq (.region [] [] c30_11) .ret)) = rest
      simp only [zeroC] at g1
      simp only [c30, start, List.replicate, c30_0, c30_1, c30_2, c30_3, c30_4, h1, hs.len, q9z, Q113, Q104, Q105, bs1, bs2, Q106, Q107, Q108, Q109, bd1, Q110, Q111, toL, List.map_cons, List.map_nil, Q112, List.set_cons_zero, List.set_cons_succ, and_self, Nat.le_refl, Q113, Q114, Q115, Q116, Q0, Q1, Q2, Q3, Q4, Q5, Q6, Q7, Q8, Q9, Q10, Q11, Q12, Q13, Q14, Q15, Q16, Q17, Q18, Q19, Q20, Q21, Q22, Q23, Q24, Q25, Q26, Q27, Q28, Q29, Q30, Q31, Q32, Q33, Q34, Q35, Q36, Q37, Q38, Q39, Q40, Q41, Q42, Q43, Q44, Q45, Q46, Q47, Q48, Q49, Q50, Q51, Q52, Q53, Q54, Q55, Q56, Q57, Q58, Q59, Q60, Q61, Q62, Q63, Q64, Q65, Q66, Q67, Q68, Q69, Q70, Q71, Q72, Q73, Q99, Q100, Q101, Q102, Q103, Q74, Q75, Q76, Q77, Q78, Q79, Q80, Q81, Q82, Q83, Q84, clr, List.length_nil, List.length_cons, List.getElem?_cons_zero, List.getElem?_cons_succ, Nat.reduceAdd, Nat.zero_add, Nat.add_zero, Nat.reduceLeDiff, Nat.reduceSub, ↓reduceIte, List.drop_succ_cons, List.drop_zero, List.take_succ_cons, List.take_zero, Bool.false_eq_true, List.nil_append, List.cons_append, Bool.not_true, Bool.not_false, cond_true, cond_false, bne, Q85, Q86, Q87, Q88, Q89, Q90, Q91, Q92, Q93, Q94, Q95, Q96, Q97, Q98]
      rw [loop_cong (v2 := L35 x (.v (.slice none 0 0)) c es.length 0) (by rfl), g1]
      simp only [Q19, Q12]
    · have h1 : (k == 1) = false := by simpa using hk
      obtain ⟨acc', ds', h', x5, x6, x10, g1, g2, g3, g4, g5⟩ := key n
      obtain ⟨r, hr, hlv⟩ := last _ acc' x5 x6 x10 ds' h' g2 g3 g4 g5
      refine ⟨r, by rw [shiftT, if_neg hk]; exact hr, callW_pure (c := c30) rfl rfl (l.length + 1) ?_⟩
      rw [← hlv]
      show lv [.cell 3 true 4] (exec (callW F) (l.length + 1) (.seq (.region [] [] c30_0) (.seq (.seq (.region [] [] c30_1) (.cond (.var 6) (.region [] [] c30_2) .skip)) (.seq (.region [] [] c30_3) (.seq (.seq (.region [] [] c30_4) (.block 0 (.loop K35 [] c30_9))) (.seq (.region [] [] c30_10) (.seq (.region [] [] c30_11) .ret)))))) _ _) = _
      generalize (CC.seq (.region [] [] c30_10) (.seq (.region [] [] c30_11) .ret)) = rest
      simp only [zeroC] at g1
      simp only [c30, start, List.replicate, c30_0, c30_1, c30_3, c30_4, h1, hs.len, q9z, Q113, Q104, Q105, bs1, bs2, Q106, Q107, Q108, Q109, bd1, Q110, Q111, toL, List.map_cons, List.map_nil, Q112, List.set_cons_zero, List.set_cons_succ, and_self, Nat.le_refl, Q113, Q114, Q115, Q116, Q0, Q1, Q2, Q3, Q4, Q5, Q6, Q7, Q8, Q9, Q10, Q11, Q12, Q13, Q14, Q15, Q16, Q17, Q18, Q19, Q20, Q21, Q22, Q23, Q24, Q25, Q26, Q27, Q28, Q29, Q30, Q31, Q32, Q33, Q34, Q35, Q36, Q37, Q38, Q39, Q40, Q41, Q42, Q43, Q44, Q45, Q46, Q47, Q48, Q49, Q50, Q51, Q52, Q53, Q54, Q55, Q56, Q57, Q58, Q59, Q60, Q61, Q62, Q63, Q64, Q65, Q66, Q67, Q68, Q69, Q70, Q71, Q72, Q73, Q99, Q100, Q101, Q102, Q103, Q74, Q75, Q76, Q77, Q78, Q79, Q80, Q81, Q82, Q83, Q84, clr, List.length_nil, List.length_cons, List.getElem?_cons_zero, List.getElem?_cons_succ, Nat.reduceAdd, Nat.zero_add, Nat.add_zero, Nat.reduceLeDiff, Nat.reduceSub, ↓reduceIte, List.drop_succ_cons, List.drop_zero, List.take_succ_cons, List.take_zero, Bool.false_eq_true, List.nil_append, List.cons_append, Bool.not_true, Bool.not_false, cond_true, cond_false, bne, Q85, Q86, Q87, Q88, Q89, Q90, Q91, Q92, Q93, Q94, Q95, Q96, Q97, Q98]
      rw [loop_cong (v2 := L35 x (.v (.slice none 0 0)) c es.length 0) (by rfl), g1]
      simp only [Q19, Q12]
end Go.AE.YtgcbaefclkfnoaaDoor
end

/-! Vars, and whether a number is among some. -/
section
set_option linter.unusedVariables false
set_option linter.unusedSimpArgs false
namespace Go.AE.YtgcbaefclkfnoaaDoor
open Go Go.AE Go.Proofs.YtgcbaefclkfnoaaDoor

def iv (n : Int) : AV := .v (.int .i64 n)
mutual
def placesT : Tm → List Int
  | .mk k _ n l => (if k = 1 then [n] else []) ++ placesL l
def placesL : List Tm → List Int
  | [] => []
  | t :: l => placesT t ++ placesL l
end
mutual
theorem places_len : ∀ t : Tm, (placesT t).length ≤ size t
  | .mk k s n l => by
    have := placesL_len l
    simp only [placesT, size, List.length_append]
    split <;> simp <;> omega
theorem placesL_len : ∀ l : List Tm, (placesL l).length ≤ sizeL l
  | [] => by simp [placesL, sizeL]
  | t :: l => by
    have := places_len t
    have := placesL_len l
    simp only [placesL, sizeL, List.length_append]; omega
end

/-! ### Has -/
def K38 : List Bool := [false, true, false, false, true, true, true, false, false]
def L38 (n : Int) (c : AV) (len i : Int) : List AV := [.junk, .v (.int .i64 n), .junk, .junk, c, .v (.int .i64 len), .v (.int .i64 i), .junk, .junk]
theorem has_loop {K : Nat} {c : AV} {es : List AV} (hs : Sl 1 c es) (hm : es.length ≤ 1000000) (n : Int) :
    ∀ (l : List Int) (i : Nat) (h : List AO) (vars : List AV), i + l.length = es.length → es.drop i = l.map iv → clr K38 vars = L38 n c es.length i →
      (l.contains n = true ∧ ∃ vs, loopN (exec (callW F) K c59_7) K38 (l.length + 1) vars h = some (.ret, vs, h) ∧ getO vs [] (.var 2) = .v (.bool true)) ∨ (l.contains n = false ∧ ∃ vs, loopN (exec (callW F) K c59_7) K38 (l.length + 1) vars h = some (.exit 0, vs, h) ∧ vs.length = 9) := by
  intro l
  induction l with
  | nil =>
    intro i h vars hi _ hv
    have hil : i = es.length := by simpa using hi
    subst hil
    have hlt : decide ((es.length : Int) < (es.length : Int)) = false := by simp
    refine .inr ⟨rfl, [.junk, .v (.int .i64 n), .junk, .junk, c, .v (.int .i64 es.length), .v (.int .i64 es.length), .v (.bool false), .junk], loop_exit ?_, rfl⟩
    rw [hv]
    simp only [L38, c59_7, c59_2, hlt, Q104, Q105, bs1, bs2, Q106, Q107, Q108, Q109, bd1, Q110, Q111, toL, List.map_cons, List.map_nil, Q112, List.set_cons_zero, List.set_cons_succ, and_self, Nat.le_refl, Q114, Q115, Q116, Q0, Q1, Q2, Q3, Q4, Q5, Q6, Q7, Q8, Q9, Q10, Q11, Q12, Q13, Q14, Q15, Q16, Q17, Q18, Q19, Q20, Q21, Q22, Q23, Q24, Q25, Q26, Q27, Q28, Q29, Q30, Q31, Q32, Q33, Q34, Q35, Q36, Q37, Q38, Q39, Q40, Q41, Q42, Q43, Q44, Q45, Q46, Q47, Q48, Q49, Q50, Q51, Q52, Q53, Q54, Q55, Q56, Q57, Q58, Q59, Q60, Q61, Q62, Q63, Q64, Q65, Q66, Q67, Q68, Q69, Q70, Q71, Q72, Q73, AV.cl, Q74, Q75, Q76, Q77, Q78, Q79, Q80, Q81, Q82, Q83, Q84, clr, List.length_nil, List.length_cons, List.getElem?_cons_zero, List.getElem?_cons_succ, Nat.reduceAdd, Nat.zero_add, Nat.add_zero, Nat.reduceLeDiff, Nat.reduceSub, ↓reduceIte, List.drop_succ_cons, List.drop_zero, List.take_succ_cons, List.take_zero, Bool.false_eq_true, List.nil_append, List.cons_append, Bool.not_true, Bool.not_false, cond_true, cond_false, bne, Q85, Q86, Q87, Q88, Q89, Q90, Q91, Q92, Q93, Q94, Q95, Q96, Q97, Q98]
  | cons k l ih =>
    intro i h vars hi hes hv
    have hil : i < es.length := by simp at hi; omega
    have he : es[i]? = some (iv k) := by
      have : (es.drop i)[0]? = some (iv k) := by rw [hes]; rfl
      simpa using this
    have hd : es.drop (i + 1) = l.map iv := by
      have h2 := congrArg List.tail hes
      simpa using h2
    have hlt : (decide ((i : Int) < (es.length : Int))) = true := by simp; omega
    have q1 := hs.ia he
    by_cases hk : n = k
    · left
      subst hk
      have he : ((n == n) : Bool) = true := by simp
      refine ⟨by simp, [.junk, .v (.int .i64 n), .v (.bool true), .v (.int .i64 n), c, .v (.int .i64 es.length), .v (.int .i64 i), .v (.bool true), .v (.bool true)], loop_ret ?_, rfl⟩
      rw [hv]
      simp only [L38, iv, AV.cells, c59_7, c59_2, c59_3, c59_4, c59_5, hlt, he, q1, Q104, Q105, bs1, bs2, Q106, Q107, Q108, Q109, bd1, Q110, Q111, toL, List.map_cons, List.map_nil, Q112, List.set_cons_zero, List.set_cons_succ, and_self, Nat.le_refl, Q114, Q115, Q116, Q0, Q1, Q2, Q3, Q4, Q5, Q6, Q7, Q8, Q9, Q10, Q11, Q12, Q13, Q14, Q15, Q16, Q17, Q18, Q19, Q20, Q21, Q22, Q23, Q24, Q25, Q26, Q27, Q28, Q29, Q30, Q31, Q32, Q33, Q34, Q35, Q36, Q37, Q38, Q39, Q40, Q41, Q42, Q43, Q44, Q45, Q46, Q47, Q48, Q49, Q50, Q51, Q52, Q53, Q54, Q55, Q56, Q57, Q58, Q59, Q60, Q61, Q62, Q63, Q64, Q65, Q66, Q67, Q68, Q69, Q70, Q71, Q72, Q73, AV.cl, Q74, Q75, Q76, Q77, Q78, Q79, Q80, Q81, Q82, Q83, Q84, clr, List.length_nil, List.length_cons, List.getElem?_cons_zero, List.getElem?_cons_succ, Nat.reduceAdd, Nat.zero_add, Nat.add_zero, Nat.reduceLeDiff, Nat.reduceSub, ↓reduceIte, List.drop_succ_cons, List.drop_zero, List.take_succ_cons, List.take_zero, Bool.false_eq_true, List.nil_append, List.cons_append, Bool.not_true, Bool.not_false, cond_true, cond_false, bne, Q85, Q86, Q87, Q88, Q89, Q90, Q91, Q92, Q93, Q94, Q95, Q96, Q97, Q98]
    · have he : ((k == n) : Bool) = false := by simpa using fun e => hk e.symm
      have st : exec (callW F) K c59_7 (L38 n c es.length i) h = some (.normal, [.junk, .v (.int .i64 n), .junk, .v (.int .i64 k), c, .v (.int .i64 es.length), .v (.int .i64 ((i + 1 : Nat) : Int)), .v (.bool true), .v (.bool false)], h) := by
        have : maxLen = 9223372036854775807 := rfl
        simp only [L38, iv, AV.cells, c59_7, c59_2, c59_3, c59_4, c59_6, hlt, he, wrap_succ hil (by omega), q1, Q104, Q105, bs1, bs2, Q106, Q107, Q108, Q109, bd1, Q110, Q111, toL, List.map_cons, List.map_nil, Q112, List.set_cons_zero, List.set_cons_succ, and_self, Nat.le_refl, Q114, Q115, Q116, Q0, Q1, Q2, Q3, Q4, Q5, Q6, Q7, Q8, Q9, Q10, Q11, Q12, Q13, Q14, Q15, Q16, Q17, Q18, Q19, Q20, Q21, Q22, Q23, Q24, Q25, Q26, Q27, Q28, Q29, Q30, Q31, Q32, Q33, Q34, Q35, Q36, Q37, Q38, Q39, Q40, Q41, Q42, Q43, Q44, Q45, Q46, Q47, Q48, Q49, Q50, Q51, Q52, Q53, Q54, Q55, Q56, Q57, Q58, Q59, Q60, Q61, Q62, Q63, Q64, Q65, Q66, Q67, Q68, Q69, Q70, Q71, Q72, Q73, AV.cl, Q74, Q75, Q76, Q77, Q78, Q79, Q80, Q81, Q82, Q83, Q84, clr, List.length_nil, List.length_cons, List.getElem?_cons_zero, List.getElem?_cons_succ, Nat.reduceAdd, Nat.zero_add, Nat.add_zero, Nat.reduceLeDiff, Nat.reduceSub, ↓reduceIte, List.drop_succ_cons, List.drop_zero, List.take_succ_cons, List.take_zero, Bool.false_eq_true, List.nil_append, List.cons_append, Bool.not_true, Bool.not_false, cond_true, cond_false, bne, Q85, Q86, Q87, Q88, Q89, Q90, Q91, Q92, Q93, Q94, Q95, Q96, Q97, Q98]
      rw [show (k :: l).length + 1 = (l.length + 1) + 1 from rfl, loop_normal (by rw [hv]; exact st)]
      have hc : (k :: l).contains n = l.contains n := by
        have : (n == k) = false := by simpa using hk
        rw [List.contains_cons, this, Bool.false_or]
      rw [hc]
      exact ih (i + 1) h _ (by simp at hi; omega) hd rfl
theorem has_ok {c : AV} {ns : List Int} (hs : Sl 1 c (ns.map iv)) (hm : ns.length ≤ 1000000) (n : Int) : callW F 59 [c, .v (.int .i64 n)] [] = some (.v (.bool (ns.contains n)), []) := by
  refine callW_pure (c := c59) rfl rfl (ns.length + 1) ?_
  have key := has_loop (K := ns.length + 1) hs (by simpa using hm) n ns 0 [] (L38 n c (ns.map iv).length (0 : Nat)) (by simp) rfl rfl
  show lv [.var 2] (exec (callW F) (ns.length + 1) (.seq (.region [] [] c59_0) (.seq (.seq (.region [] [] c59_1) (.block 0 (.loop K38 [] c59_7))) (.seq (.region [] [] c59_8) .ret))) _ _) = _
  generalize hrest : (CC.seq (.region [] [] c59_8) .ret) = rest
  simp only [c59, start, List.replicate, c59_0, c59_1, hs.len, Q104, Q105, bs1, bs2, Q106, Q107, Q108, Q109, bd1, Q110, Q111, toL, List.map_cons, List.map_nil, Q112, List.set_cons_zero, List.set_cons_succ, and_self, Nat.le_refl, Q114, Q115, Q116, Q0, Q1, Q2, Q3, Q4, Q5, Q6, Q7, Q8, Q9, Q10, Q11, Q12, Q13, Q14, Q15, Q16, Q17, Q18, Q19, Q20, Q21, Q22, Q23, Q24, Q25, Q26, Q27, Q28, Q29, Q30, Q31, Q32, Q33, Q34, Q35, Q36, Q37, Q38, Q39, Q40, Q41, Q42, Q43, Q44, Q45, Q46, Q47, Q48, Q49, Q50, Q51, Q52, Q53, Q54, Q55, Q56, Q57, Q58, Q59, Q60, Q61, Q62, Q63, Q64, Q65, Q66, Q67, Q68, Q69, Q70, Q71, Q72, Q73, AV.cl, Q74, Q75, Q76, Q77, Q78, Q79, Q80, Q81, Q82, Q83, Q84, clr, List.length_nil, List.length_cons, List.getElem?_cons_zero, List.getElem?_cons_succ, Nat.reduceAdd, Nat.zero_add, Nat.add_zero, Nat.reduceLeDiff, Nat.reduceSub, ↓reduceIte, List.drop_succ_cons, List.drop_zero, List.take_succ_cons, List.take_zero, Bool.false_eq_true, List.nil_append, List.cons_append, Bool.not_true, Bool.not_false, cond_true, cond_false, bne, Q85, Q86, Q87, Q88, Q89, Q90, Q91, Q92, Q93, Q94, Q95, Q96, Q97, Q98]
  rw [loop_cong (v2 := L38 n c (ns.map iv).length ((0 : Nat) : Int)) (by rfl)]
  rcases key with ⟨h0, vs, h1, h2⟩ | ⟨h0, vs, h1, h2⟩
  · rw [h1, h0]
    simp only [Q18, Q14, h2, Q0, Q1, Q2, Q3, Q4, Q5, Q6, Q7, Q8, Q9, Q10, Q11, Q12, Q13, Q14, Q15, Q16, Q17, Q18, Q19, Q20, Q21, Q22, Q23, Q24, Q25, Q26, Q27, Q28, Q29, Q30, Q31, Q32, Q33, Q34, Q35, Q36, Q37, Q38, Q39, Q40, Q41, Q42, Q43, Q44, Q45, Q46, Q47, Q48, Q49, Q50, Q51, Q52, Q53, Q54, Q55, Q56, Q57, Q58, Q59, Q60, Q61, Q62, Q63, Q64, Q65, Q66, Q67, Q68, Q69, Q70, Q71, Q72, Q73, AV.cl, Q74, Q75, Q76, Q77, Q78, Q79, Q80, Q81, Q82, Q83, Q84, clr, List.length_nil, List.length_cons, List.getElem?_cons_zero, List.getElem?_cons_succ, Nat.reduceAdd, Nat.zero_add, Nat.add_zero, Nat.reduceLeDiff, Nat.reduceSub, ↓reduceIte, List.drop_succ_cons, List.drop_zero, List.take_succ_cons, List.take_zero, Bool.false_eq_true, List.nil_append, List.cons_append, Bool.not_true, Bool.not_false, cond_true, cond_false, bne, Q85, Q86, Q87, Q88, Q89, Q90, Q91, Q92, Q93, Q94, Q95, Q96, Q97, Q98]
  · rw [h1, h0, ← hrest]
    match vs, h2 with
    | [a0, a1, a2, a3, a4, a5, a6, a7, a8], _ => simp only [c59_8, Q0, Q1, Q2, Q3, Q4, Q5, Q6, Q7, Q8, Q9, Q10, Q11, Q12, Q13, Q14, Q15, Q16, Q17, Q18, Q19, Q20, Q21, Q22, Q23, Q24, Q25, Q26, Q27, Q28, Q29, Q30, Q31, Q32, Q33, Q34, Q35, Q36, Q37, Q38, Q39, Q40, Q41, Q42, Q43, Q44, Q45, Q46, Q47, Q48, Q49, Q50, Q51, Q52, Q53, Q54, Q55, Q56, Q57, Q58, Q59, Q60, Q61, Q62, Q63, Q64, Q65, Q66, Q67, Q68, Q69, Q70, Q71, Q72, Q73, AV.cl, Q74, Q75, Q76, Q77, Q78, Q79, Q80, Q81, Q82, Q83, Q84, clr, List.length_nil, List.length_cons, List.getElem?_cons_zero, List.getElem?_cons_succ, Nat.reduceAdd, Nat.zero_add, Nat.add_zero, Nat.reduceLeDiff, Nat.reduceSub, ↓reduceIte, List.drop_succ_cons, List.drop_zero, List.take_succ_cons, List.take_zero, Bool.false_eq_true, List.nil_append, List.cons_append, Bool.not_true, Bool.not_false, cond_true, cond_false, bne, Q85, Q86, Q87, Q88, Q89, Q90, Q91, Q92, Q93, Q94, Q95, Q96, Q97, Q98]

/-! ### The places -/
def K37 : List Bool := [false, false, false, true, false, false, true, true, true, false]
def L37 (acc c : AV) (len i : Int) : List AV := [.junk, .junk, .junk, acc, .junk, .junk, c, .v (.int .i64 len), .v (.int .i64 i), .junk]
theorem places_loop {K : Nat} {c : AV} {es : List AV} (hs : Sl 4 c es) (hm : es.length ≤ 100000) :
    ∀ (l : List Tm) (i : Nat) (acc : AV) (p : List Int) (h : List AO) (vars : List AV), i + l.length = es.length → p.length + sizeL l ≤ 1000000 → All2 (es.drop i) l → (∀ t ∈ l, ∀ (e : AV), IsT e t → ∃ r, Sl 1 r ((placesT t).map iv) ∧ callW F 42 [e] [] = some (r, [])) →
      Acc 2 1 h acc (p.map iv) → clr K37 vars = L37 acc c es.length i →
      ∃ acc' h' x4 x5 x9, loopN (exec (callW F) K c42_9) K37 (l.length + 1) vars h = some (.exit 0, [.junk, .junk, .junk, acc', x4, x5, c, .v (.int .i64 es.length), .v (.int .i64 es.length), x9], h') ∧ Acc 2 1 h' acc' ((p ++ placesL l).map iv) := by
  intro l
  induction l with
  | nil =>
    intro i acc p h vars hi hp _ _ ha hv
    have hil : i = es.length := by simpa using hi
    subst hil
    have hlt : decide ((es.length : Int) < (es.length : Int)) = false := by simp
    refine ⟨acc, h, .junk, .junk, .v (.bool false), loop_exit ?_, by simpa [placesL] using ha⟩
    rw [hv]
    simp only [L37, c42_9, c42_5, hlt, Q104, Q105, bs1, bs2, Q106, Q107, Q108, Q109, bd1, Q110, Q111, toL, List.map_cons, List.map_nil, Q112, List.set_cons_zero, List.set_cons_succ, and_self, Nat.le_refl, Q114, Q115, Q116, Q0, Q1, Q2, Q3, Q4, Q5, Q6, Q7, Q8, Q9, Q10, Q11, Q12, Q13, Q14, Q15, Q16, Q17, Q18, Q19, Q20, Q21, Q22, Q23, Q24, Q25, Q26, Q27, Q28, Q29, Q30, Q31, Q32, Q33, Q34, Q35, Q36, Q37, Q38, Q39, Q40, Q41, Q42, Q43, Q44, Q45, Q46, Q47, Q48, Q49, Q50, Q51, Q52, Q53, Q54, Q55, Q56, Q57, Q58, Q59, Q60, Q61, Q62, Q63, Q64, Q65, Q66, Q67, Q68, Q69, Q70, Q71, Q72, Q73, Q99, Q100, Q101, Q102, Q103, Q74, Q75, Q77, Q78, Q79, Q80, Q81, Q82, Q83, Q84, clr, List.length_nil, List.length_cons, List.getElem?_cons_zero, List.getElem?_cons_succ, Nat.reduceAdd, Nat.zero_add, Nat.add_zero, Nat.reduceLeDiff, Nat.reduceSub, ↓reduceIte, List.drop_succ_cons, List.drop_zero, List.take_succ_cons, List.take_zero, Bool.false_eq_true, List.nil_append, List.cons_append, Bool.not_true, Bool.not_false, cond_true, cond_false, bne, Q85, Q86, Q87, Q88, Q89, Q90, Q91, Q92, Q93, Q94, Q95, Q96, Q97, Q98]
  | cons t l ih =>
    intro i acc p h vars hi hp hes hcall ha hv
    have hil : i < es.length := by simp at hi; omega
    have he : es[i]? = some (es[i]'hil) := List.getElem?_eq_getElem _
    have hd : es.drop i = es[i] :: es.drop (i + 1) := List.drop_eq_getElem_cons hil
    rw [hd] at hes
    generalize es[i]'hil = e at hes he
    cases hes with
    | cons _ _ _ _ hT hs' =>
    obtain ⟨r, hr, hc⟩ := hcall t (by simp) _ hT
    have hpl := places_len t
    simp only [sizeL] at hp
    obtain ⟨acc', h2, h3, h4, h5⟩ := (ha.app (.box 24 e.cells)).add (x := r) (bytes := 8) (hr.elems _) (by
      have : room = 140737488355328 := rfl
      simp only [fits, List.length_map, decide_eq_true_eq]; omega)
    have hlt : (decide ((i : Int) < (es.length : Int))) = true := by simp; omega
    have q1 := hs.ia he
    have q3 : ∀ h : List AO, Q76 h true 4 (.ip e.cells) = some e := fun h => hT.load
    have q5 : ∀ h : List AO, e.snap1 h = some e := fun h => hT.snap
    have st : exec (callW F) K c42_9 (L37 acc c es.length i) h = some (.normal, [.junk, .junk, .junk, acc', .ptr h.length 0, .junk, c, .v (.int .i64 es.length), .v (.int .i64 ((i + 1 : Nat) : Int)), .v (.bool true)], h2) := by
      have hz : ([.v (.int .i64 0), .v (.string ⟨#[]⟩), .v (.int .i64 0), .v (.slice none 0 0)] : List AV).length = 4 := rfl
      simp only [L37, c42_9, c42_5, c42_6, c42_7, c42_8, hlt, wrap_succ hil (small_max hm), q1, q3, q5, hc, h3, hT.st _ _ hz, hT.ld, q9z, e_append, Q104, Q105, bs1, bs2, Q106, Q107, Q108, Q109, bd1, Q110, Q111, toL, List.map_cons, List.map_nil, Q112, List.set_cons_zero, List.set_cons_succ, and_self, Nat.le_refl, Q114, Q115, Q116, Q0, Q1, Q2, Q3, Q4, Q5, Q6, Q7, Q8, Q9, Q10, Q11, Q12, Q13, Q14, Q15, Q16, Q17, Q18, Q19, Q20, Q21, Q22, Q23, Q24, Q25, Q26, Q27, Q28, Q29, Q30, Q31, Q32, Q33, Q34, Q35, Q36, Q37, Q38, Q39, Q40, Q41, Q42, Q43, Q44, Q45, Q46, Q47, Q48, Q49, Q50, Q51, Q52, Q53, Q54, Q55, Q56, Q57, Q58, Q59, Q60, Q61, Q62, Q63, Q64, Q65, Q66, Q67, Q68, Q69, Q70, Q71, Q72, Q73, Q99, Q100, Q101, Q102, Q103, Q74, Q75, Q77, Q78, Q79, Q80, Q81, Q82, Q83, Q84, clr, List.length_nil, List.length_cons, List.getElem?_cons_zero, List.getElem?_cons_succ, Nat.reduceAdd, Nat.zero_add, Nat.add_zero, Nat.reduceLeDiff, Nat.reduceSub, ↓reduceIte, List.drop_succ_cons, List.drop_zero, List.take_succ_cons, List.take_zero, Bool.false_eq_true, List.nil_append, List.cons_append, Bool.not_true, Bool.not_false, cond_true, cond_false, bne, Q85, Q86, Q87, Q88, Q89, Q90, Q91, Q92, Q93, Q94, Q95, Q96, Q97, Q98]
    rw [show (t :: l).length + 1 = (l.length + 1) + 1 from rfl, loop_normal (by rw [hv]; exact st)]
    rw [← List.map_append] at h4
    obtain ⟨acc'', h', x4, x5, x9, g1, g2⟩ := ih (i + 1) acc' (p ++ placesT t) h2 [.junk, .junk, .junk, acc', .ptr h.length 0, .junk, c, .v (.int .i64 es.length), .v (.int .i64 ((i + 1 : Nat) : Int)), .v (.bool true)] (by simp at hi; omega) (by rw [List.length_append]; omega) hs' (fun t ht => hcall t (by simp [ht])) h4 rfl
    refine ⟨acc'', h', x4, x5, x9, g1, ?_⟩
    rw [placesL, ← List.append_assoc]
    exact g2

theorem places_ok : ∀ (N : Nat) (t : Tm) (a : AV), SizeOf.sizeOf t < N → size t ≤ 100000 → IsT a t → ∃ r, Sl 1 r ((placesT t).map iv) ∧ callW F 42 [a] [] = some (r, []) := by
  intro N
  induction N with
  | zero => intro t a h; omega
  | succ N ih =>
    intro t a hN hsz ha
    cases ha with
    | mk k s n c l hc =>
    have h5 := Tm.mk.sizeOf_spec k s n l
    simp only [size] at hsz
    have hll := sizeL_len l
    have hcall : ∀ t ∈ l, ∀ (e : AV), IsT e t → ∃ r, Sl 1 r ((placesT t).map iv) ∧ callW F 42 [e] [] = some (r, []) := by
      intro t ht e hT
      have h6 := List.sizeOf_lt_of_mem ht
      have h7 := size_mem ht
      exact ih t e (by omega) (by omega) hT
    obtain ⟨es, hs, hes, hm⟩ := hc.sl
    have e1 := hes.length
    have key : ∀ (p : List Int) (acc : AV) (h : List AO), p.length ≤ 10 → Acc 2 1 h acc (p.map iv) → ∃ acc' h' x4 x5 x9, loopN (exec (callW F) (l.length + 1) c42_9) K37 (l.length + 1) (L37 acc c es.length (0 : Nat)) h = some (.exit 0, [.junk, .junk, .junk, acc', x4, x5, c, .v (.int .i64 es.length), .v (.int .i64 es.length), x9], h') ∧ Acc 2 1 h' acc' ((p ++ placesL l).map iv) :=
      fun p acc h hp ha => places_loop (K := l.length + 1) hs (by omega) l 0 acc p h (L37 acc c es.length (0 : Nat)) (by omega) (by omega) (by simpa using hes) hcall ha rfl
    by_cases hk : k = 1
    · have h1 : (k == 1) = true := by simpa using hk
      have hap : evAppend [.box 24 [.v (.int .i64 k), .v (.string s), .v (.int .i64 n), c]] 2 1 8 (.v (.slice none 0 0)) (.slc 1 true true [.v (.int .i64 n)]) = some (.own 1 1 0 0 1, [.box 24 [.v (.int .i64 k), .v (.string s), .v (.int .i64 n), c], .row 2 1 0 [.v (.int .i64 n)] 0]) := ap_new (h := [.box 24 [.v (.int .i64 k), .v (.string s), .v (.int .i64 n), c]]) (by simp) (by simp only [List.length_cons, List.length_nil]; decide)
      obtain ⟨acc', h', x4, x5, x9, g1, g2⟩ := key [n] (.own 1 1 0 0 1) [.box 24 [.v (.int .i64 k), .v (.string s), .v (.int .i64 n), c], .row 2 1 0 [.v (.int .i64 n)] 0] (by simp) (.own 1 0 0 [.v (.int .i64 n)] rfl (by simp) (by simp))
      obtain ⟨r, g3, g4⟩ := g2.lvf
      refine ⟨r, by rw [placesT, if_pos hk]; exact g4, callW_pure (c := c42) rfl rfl (l.length + 1) ?_⟩
      show lv [.var 2] (exec (callW F) (l.length + 1) (.seq (.region [] [] c42_0) (.seq (.region [] [] c42_1) (.seq (.seq (.region [] [] c42_2) (.cond (.var 5) (.region [] [] c42_3) .skip)) (.seq (.seq (.region [] [] c42_4) (.block 0 (.loop K37 [] c42_9))) (.seq (.region [] [] c42_10) .ret))))) _ _) = _
      generalize hrest : (CC.seq (.region [] [] c42_10) .ret) = rest
      simp only [c42, start, List.replicate, c42_0, c42_1, c42_2, c42_3, c42_4, h1, hs.len, hap, snap_int, bs1_some (y := .v (.int .i64 n)) (sz := 1) Q111 rfl, e_append, q9z, Q113, Q104, Q105, bs1, bs2, Q106, Q107, Q108, Q109, bd1, Q110, Q111, toL, List.map_cons, List.map_nil, Q112, List.set_cons_zero, List.set_cons_succ, and_self, Nat.le_refl, Q113, Q114, Q115, Q116, Q0, Q1, Q2, Q3, Q4, Q5, Q6, Q7, Q8, Q9, Q10, Q11, Q12, Q13, Q14, Q15, Q16, Q17, Q18, Q19, Q20, Q21, Q22, Q23, Q24, Q25, Q26, Q27, Q28, Q29, Q30, Q31, Q32, Q33, Q34, Q35, Q36, Q37, Q38, Q39, Q40, Q41, Q42, Q43, Q44, Q45, Q46, Q47, Q48, Q49, Q50, Q51, Q52, Q53, Q54, Q55, Q56, Q57, Q58, Q59, Q60, Q61, Q62, Q63, Q64, Q65, Q66, Q67, Q68, Q69, Q70, Q71, Q72, Q73, Q99, Q100, Q101, Q102, Q103, Q74, Q75, Q76, Q77, Q78, Q79, Q80, Q81, Q82, Q83, Q84, clr, List.length_nil, List.length_cons, List.getElem?_cons_zero, List.getElem?_cons_succ, Nat.reduceAdd, Nat.zero_add, Nat.add_zero, Nat.reduceLeDiff, Nat.reduceSub, ↓reduceIte, List.drop_succ_cons, List.drop_zero, List.take_succ_cons, List.take_zero, Bool.false_eq_true, List.nil_append, List.cons_append, Bool.not_true, Bool.not_false, cond_true, cond_false, bne, Q85, Q86, Q87, Q88, Q89, Q90, Q91, Q92, Q93, Q94, Q95, Q96, Q97, Q98]
      rw [loop_cong (v2 := L37 (.own 1 1 0 0 1) c es.length ((0 : Nat) : Int)) (by rfl), g1, ← hrest]
      simp only [Q19, Q12, c42_10, g3, Q0, Q1, Q2, Q3, Q4, Q5, Q6, Q7, Q8, Q9, Q10, Q11, Q12, Q13, Q14, Q15, Q16, Q17, Q18, Q19, Q20, Q21, Q22, Q23, Q24, Q25, Q26, Q27, Q28, Q29, Q30, Q31, Q32, Q33, Q34, Q35, Q36, Q37, Q38, Q39, Q40, Q41, Q42, Q43, Q44, Q45, Q46, Q47, Q48, Q49, Q50, Q51, Q52, Q53, Q54, Q55, Q56, Q57, Q58, Q59, Q60, Q61, Q62, Q63, Q64, Q65, Q66, Q67, Q68, Q69, Q70, Q71, Q72, Q73, Q99, Q100, Q101, Q102, Q103, Q74, Q75, Q77, Q78, Q79, Q80, Q81, Q82, Q83, Q84, clr, List.length_nil, List.length_cons, List.getElem?_cons_zero, List.getElem?_cons_succ, Nat.reduceAdd, Nat.zero_add, Nat.add_zero, Nat.reduceLeDiff, Nat.reduceSub, ↓reduceIte, List.drop_succ_cons, List.drop_zero, List.take_succ_cons, List.take_zero, Bool.false_eq_true, List.nil_append, List.cons_append, Bool.not_true, Bool.not_false, cond_true, cond_false, bne, Q85, Q86, Q87, Q88, Q89, Q90, Q91, Q92, Q93, Q94, Q95, Q96, Q97, Q98]
    · have h1 : (k == 1) = false := by simpa using hk
      obtain ⟨acc', h', x4, x5, x9, g1, g2⟩ := key [] (.v (.slice none 0 0)) [.box 24 [.v (.int .i64 k), .v (.string s), .v (.int .i64 n), c]] (by simp) .nil
      obtain ⟨r, g3, g4⟩ := g2.lvf
      refine ⟨r, by rw [placesT, if_neg hk]; exact g4, callW_pure (c := c42) rfl rfl (l.length + 1) ?_⟩
      show lv [.var 2] (exec (callW F) (l.length + 1) (.seq (.region [] [] c42_0) (.seq (.region [] [] c42_1) (.seq (.seq (.region [] [] c42_2) (.cond (.var 5) (.region [] [] c42_3) .skip)) (.seq (.seq (.region [] [] c42_4) (.block 0 (.loop K37 [] c42_9))) (.seq (.region [] [] c42_10) .ret))))) _ _) = _
      generalize hrest : (CC.seq (.region [] [] c42_10) .ret) = rest
      simp only [c42, start, List.replicate, c42_0, c42_1, c42_2, c42_4, h1, hs.len, Q113, Q104, Q105, bs1, bs2, Q106, Q107, Q108, Q109, bd1, Q110, Q111, toL, List.map_cons, List.map_nil, Q112, List.set_cons_zero, List.set_cons_succ, and_self, Nat.le_refl, Q113, Q114, Q115, Q116, Q0, Q1, Q2, Q3, Q4, Q5, Q6, Q7, Q8, Q9, Q10, Q11, Q12, Q13, Q14, Q15, Q16, Q17, Q18, Q19, Q20, Q21, Q22, Q23, Q24, Q25, Q26, Q27, Q28, Q29, Q30, Q31, Q32, Q33, Q34, Q35, Q36, Q37, Q38, Q39, Q40, Q41, Q42, Q43, Q44, Q45, Q46, Q47, Q48, Q49, Q50, Q51, Q52, Q53, Q54, Q55, Q56, Q57, Q58, Q59, Q60, Q61, Q62, Q63, Q64, Q65, Q66, Q67, Q68, Q69, Q70, Q71, Q72, Q73, Q99, Q100, Q101, Q102, Q103, Q74, Q75, Q76, Q77, Q78, Q79, Q80, Q81, Q82, Q83, Q84, clr, List.length_nil, List.length_cons, List.getElem?_cons_zero, List.getElem?_cons_succ, Nat.reduceAdd, Nat.zero_add, Nat.add_zero, Nat.reduceLeDiff, Nat.reduceSub, ↓reduceIte, List.drop_succ_cons, List.drop_zero, List.take_succ_cons, List.take_zero, Bool.false_eq_true, List.nil_append, List.cons_append, Bool.not_true, Bool.not_false, cond_true, cond_false, bne, Q85, Q86, Q87, Q88, Q89, Q90, Q91, Q92, Q93, Q94, Q95, Q96, Q97, Q98]
      rw [loop_cong (v2 := L37 (.v (.slice none 0 0)) c es.length ((0 : Nat) : Int)) (by rfl), g1, ← hrest]
      simp only [Q19, Q12, c42_10, g3, Q0, Q1, Q2, Q3, Q4, Q5, Q6, Q7, Q8, Q9, Q10, Q11, Q12, Q13, Q14, Q15, Q16, Q17, Q18, Q19, Q20, Q21, Q22, Q23, Q24, Q25, Q26, Q27, Q28, Q29, Q30, Q31, Q32, Q33, Q34, Q35, Q36, Q37, Q38, Q39, Q40, Q41, Q42, Q43, Q44, Q45, Q46, Q47, Q48, Q49, Q50, Q51, Q52, Q53, Q54, Q55, Q56, Q57, Q58, Q59, Q60, Q61, Q62, Q63, Q64, Q65, Q66, Q67, Q68, Q69, Q70, Q71, Q72, Q73, Q99, Q100, Q101, Q102, Q103, Q74, Q75, Q77, Q78, Q79, Q80, Q81, Q82, Q83, Q84, clr, List.length_nil, List.length_cons, List.getElem?_cons_zero, List.getElem?_cons_succ, Nat.reduceAdd, Nat.zero_add, Nat.add_zero, Nat.reduceLeDiff, Nat.reduceSub, ↓reduceIte, List.drop_succ_cons, List.drop_zero, List.take_succ_cons, List.take_zero, Bool.false_eq_true, List.nil_append, List.cons_append, Bool.not_true, Bool.not_false, cond_true, cond_false, bne, Q85, Q86, Q87, Q88, Q89, Q90, Q91, Q92, Q93, Q94, Q95, Q96, Q97, Q98]

/-! ### Vars -/
def addNew (p : List Int) (n : Int) : List Int := if p.contains n then p else p ++ [n]
def varsT (t : Tm) : List Int := (placesT t).foldl addNew []
def K19v : List Bool := [false, false, false, true, false, true, true, true, false, false]
def L19v (acc c : AV) (len i : Int) : List AV := [.junk, .junk, .junk, acc, .junk, c, .v (.int .i64 len), .v (.int .i64 i), .junk, .junk]
end Go.AE.YtgcbaefclkfnoaaDoor
end

/-! bare: a term with 0 as all Vars' numbers. -/
section
set_option linter.unusedVariables false
set_option linter.unusedSimpArgs false
namespace Go.AE.YtgcbaefclkfnoaaDoor
open Go Go.AE Go.Proofs.YtgcbaefclkfnoaaDoor

/-! ### bare -/
end Go.AE.YtgcbaefclkfnoaaDoor
end

/-! Variant: the document's; the program's from the start. -/
section
set_option linter.unusedVariables false
set_option linter.unusedSimpArgs false
namespace Go.AE.YtgcbaefclkfnoaaDoor
open Go Go.AE Go.Proofs.YtgcbaefclkfnoaaDoor

/-! ### The document's -/
theorem map_at {xs : List Int} {i : Nat} (h : i < xs.length) : (xs.map iv)[i]? = some (iv (xs.getD i 0)) := by
  simp [h]
section
variable {x y : AV} {xs ys : List Int}
end
end Go.AE.YtgcbaefclkfnoaaDoor
end

/-! Variant, in plain Lean: what the program's answers is what the document's answers. -/
section
set_option linter.unusedVariables false
set_option linter.unusedSimpArgs false
namespace Go.AE.YtgcbaefclkfnoaaDoor
open Go Go.AE Go.Proofs.YtgcbaefclkfnoaaDoor

/-! ### Pairs, one behind the other -/
/-! ### Numbers that stand for one another -/
def Cp (L : Prs) : Prop := ∀ p ∈ L, ∀ q ∈ L, p.1 = q.1 ↔ p.2 = q.2
theorem Cp.of {L M : Prs} (h : ∀ p, p ∈ L ↔ p ∈ M) : Cp L ↔ Cp M := by
  constructor <;> intro c p hp q hq
  · exact c p ((h p).2 hp) q ((h q).2 hq)
  · exact c p ((h p).1 hp) q ((h q).1 hq)
end Go.AE.YtgcbaefclkfnoaaDoor
end

/-! Fresh of the program: it shifts the numbers of all Vars. -/
section
set_option linter.unusedVariables false
set_option linter.unusedSimpArgs false
namespace Go.AE.YtgcbaefclkfnoaaDoor
open Go Go.AE Go.Proofs.YtgcbaefclkfnoaaDoor

theorem turn_ok {H : List AO} {id : Nat} {x : Int} (hid : H[id]? = some (.box 2 [.v (.int .i64 x)])) (hb : H.all (AO.below H.length) = true) (n : Int) : callW F 56 [.v (.int .i64 n), .ptr id 0] H = some (.v (.int .i64 (IntKind.i64.wrap (n + x))), H) := by
  refine callW_own (c := c56) rfl rfl 0 ?_
  have l1 := bx_ld (h := H ++ []) (id := id) (by rw [List.append_nil]; exact hid) (a := false) (n := 1) (o := 0)
  have body : exec (callW F) 0 c56.body (start c56 [.v (.int .i64 n), .ptr id 0]) (H ++ []) = some (.ret, [.v (.int .i64 n), .ptr id 0, .v (.int .i64 (IntKind.i64.wrap (n + x)))], H ++ []) := by
    simp only [c56, start, List.replicate, c56_0, c56_1, l1, Q104, Q105, bs1, bs2, Q106, Q107, Q108, Q109, bd1, Q110, Q111, toL, List.map_cons, List.map_nil, Q112, List.set_cons_zero, List.set_cons_succ, and_self, Nat.le_refl, Q114, Q115, Q116, Q0, Q1, Q2, Q3, Q4, Q5, Q6, Q7, Q8, Q9, Q10, Q11, Q12, Q13, Q14, Q15, Q16, Q17, Q18, Q19, Q20, Q21, Q22, Q23, Q24, Q25, Q26, Q27, Q28, Q29, Q30, Q31, Q32, Q33, Q35, Q36, Q37, Q38, Q39, Q40, Q41, Q42, Q43, Q44, Q45, Q46, Q47, Q48, Q49, Q50, Q51, Q52, Q53, Q54, Q55, Q56, Q57, Q58, Q59, Q60, Q61, Q62, Q63, Q64, Q65, Q66, Q67, Q68, Q69, Q70, Q71, Q72, Q73, Q99, Q100, Q101, Q102, Q103, Q74, Q75, Q77, Q78, Q79, Q80, Q81, Q82, Q83, Q84, clr, List.length_nil, List.length_cons, List.getElem?_cons_zero, List.getElem?_cons_succ, Nat.reduceAdd, Nat.zero_add, Nat.add_zero, Nat.reduceLeDiff, Nat.reduceSub, ↓reduceIte, List.drop_succ_cons, List.drop_zero, List.take_succ_cons, List.take_zero, Bool.false_eq_true, List.nil_append, List.cons_append, Bool.not_true, Bool.not_false, cond_true, cond_false, bne, Q85, Q86, Q87, Q88, Q89, Q90, Q91, Q92, Q93, Q94, Q95, Q96, Q97, Q98]
  rw [body, leave_own rfl hb]
  exact lvo_one rfl

theorem e_mkfn {call : CallF} {vars env : List AV} {h : List AO} {f : Fn} {first cap : List Opd} : evOp call vars env h (.mkfn f first cap) = some (.fn f (first.map (getO vars env)) (cap.map (getO vars env)), h) := rfl
def cv (call : CallF) (h : List AO) (xs : List AV) : AV → Option (AV × List AO)
  | .fn (.func f) first cap => call f (first ++ xs ++ cap) h
  | _ => none
theorem e_callv {call : CallF} {vars env : List AV} {h : List AO} {x : Opd} {args : List Opd} : evOp call vars env h (.callv x args) = cv call h (args.map (getO vars env)) (getO vars env x) := by
  simp only [evOp, cv]
  rfl
theorem cv_fn {call : CallF} {h : List AO} {f : FuncId} {xs first cap : List AV} : cv call h xs (.fn (.func f) first cap) = call f (first ++ xs ++ cap) h := rfl

section
variable {H : List AO} {l : List AO}
theorem h_ld {a : Bool} {sz k o : Nat} : Q76 (H ++ l) a sz (.ptr (H.length + k) o) = ldAt l k a sz o := own_ld rfl
theorem h_ld0 {a : Bool} {sz o : Nat} : Q76 (H ++ l) a sz (.ptr H.length o) = ldAt l 0 a sz o := own_ld0 rfl
theorem h_st {sz k o : Nat} {x : AV} : Q113 (H ++ l) sz (.ptr (H.length + k) o) x = preH H (stAt l sz k o x) := own_st rfl
theorem h_st0 {sz o : Nat} {x : AV} : Q113 (H ++ l) sz (.ptr H.length o) x = preH H (stAt l sz 0 o x) := own_st0 rfl
theorem h_bx {bt : TypeId} {cs : List AV} : bx (H ++ l) bt (some cs) = some (.ptr (H.length + l.length) 0, H ++ (l ++ [.box bt cs])) := own_bx rfl

def K49 : List Bool := [false, true, true, true, true, false, false, false, false, true, true, true, false]
def fnV (id : Nat) : AV := .fn (.func 56) [] [.ptr id 0]
def L49 (id B n : Nat) (c : AV) (i : Int) : List AV := [.junk, fnV id, .ptr B 0, .ptr (B + 1) 0, .own 4 (B + 2) 0 0 n, .junk, .junk, .junk, .junk, c, .v (.int .i64 n), .v (.int .i64 i), .junk]

theorem zeroEl4 : zeroEl [(.int .i64 0), (.string ⟨#[]⟩), (.int .i64 0), (.slice none 0 0)] = .agg zeroC := rfl
theorem _root_.Go.AE.IsT.eta {a : AV} {t : Tm} (ht : IsT a t) : AV.agg a.cells = a := by
  cases ht; rfl
theorem _root_.Go.AE.IsT.cellB {a : AV} {t : Tm} (ht : IsT a t) : a.cells.all AV.isCell = true := by
  cases ht with
  | mk k s n c l hc => cases hc <;> rfl
theorem each_loop {K : Nat} {id : Nat} {c : AV} {es : List AV} {cs0 cs1 : List AV} (hs : Sl 4 c es) (hm : es.length ≤ 100000) (x : Int) (hid : H[id]? = some (.box 2 [.v (.int .i64 x)])) (hb : H.all (AO.below H.length) = true) (hb0 : (AO.box 24 cs0).below 0 = true) (hb1 : (AO.box 24 cs1).below 0 = true) :
    ∀ (l : List Tm) (i : Nat) (ds : List AV) (dl : List Tm) (tail : List AO) (vars : List AV), i + l.length = es.length → ds.length = i → All2 (es.drop i) l → All2 ds dl → tail.all (AO.below 0) = true →
      (∀ t ∈ l, ∀ (e : AV) (H' : List AO), IsT e t → H'[id]? = some (.box 2 [.v (.int .i64 x)]) → H'.all (AO.below H'.length) = true → ∃ r, IsT r (shiftT x t) ∧ callW F 55 [e, fnV id] H' = some (r, H')) →
      clr K49 vars = L49 id H.length es.length c i →
      ∃ ds' tail' x5 x6 x7 x8 x12, loopN (exec (callW F) K c55_12) K49 (l.length + 1) vars (H ++ (.box 24 cs0 :: .box 24 cs1 :: .row 24 4 0 (ds ++ List.replicate l.length (.agg zeroC)) 0 :: tail)) = some (.exit 0, [.junk, fnV id, .ptr H.length 0, .ptr (H.length + 1) 0, .own 4 (H.length + 2) 0 0 es.length, x5, x6, x7, x8, c, .v (.int .i64 es.length), .v (.int .i64 es.length), x12], H ++ (.box 24 cs0 :: .box 24 cs1 :: .row 24 4 0 ds' 0 :: tail')) ∧ All2 ds' (dl ++ shiftL x l) ∧ ds'.length = es.length := by
  intro l
  induction l with
  | nil =>
    intro i ds dl tail vars hi hds _ hall htl _ hv
    have hil : i = es.length := by simpa using hi
    subst hil
    have hlt : decide ((es.length : Int) < (es.length : Int)) = false := by simp
    refine ⟨ds, tail, .junk, .junk, .junk, .junk, .v (.bool false), loop_exit ?_, by simpa [shiftL] using hall, hds⟩
    rw [hv]
    simp only [L49, c55_12, c55_8, hlt, List.replicate, List.append_nil, Q104, Q105, bs1, bs2, Q106, Q107, Q108, Q109, bd1, Q110, Q111, toL, List.map_cons, List.map_nil, Q112, List.set_cons_zero, List.set_cons_succ, and_self, Nat.le_refl, Q114, Q115, Q116, Q0, Q1, Q2, Q3, Q4, Q5, Q6, Q7, Q8, Q9, Q10, Q11, Q12, Q13, Q14, Q15, Q16, Q17, Q18, Q19, Q20, Q21, Q22, Q23, Q24, Q25, Q26, Q27, Q28, Q29, Q30, Q31, Q32, Q33, Q35, Q36, Q37, Q38, Q39, Q40, Q41, Q42, Q43, Q44, Q45, Q46, Q47, Q48, Q49, Q50, Q51, Q52, Q53, Q54, Q55, Q56, Q57, Q58, Q59, Q60, Q61, Q62, Q63, Q64, Q65, Q66, Q67, Q68, Q69, Q70, Q71, Q72, Q73, Q99, Q100, Q101, Q102, Q103, Q74, Q75, Q77, Q78, Q79, Q80, Q81, Q82, Q83, Q84, clr, List.length_nil, List.length_cons, List.getElem?_cons_zero, List.getElem?_cons_succ, Nat.reduceAdd, Nat.zero_add, Nat.add_zero, Nat.reduceLeDiff, Nat.reduceSub, ↓reduceIte, List.drop_succ_cons, List.drop_zero, List.take_succ_cons, List.take_zero, Bool.false_eq_true, List.nil_append, List.cons_append, Bool.not_true, Bool.not_false, cond_true, cond_false, bne, Q85, Q86, Q87, Q88, Q89, Q90, Q91, Q92, Q93, Q94, Q95, Q96, Q97, Q98]
  | cons t l ih =>
    intro i ds dl tail vars hi hds hes hall htl hcall hv
    have hil : i < es.length := by simp at hi; omega
    have he : es[i]? = some (es[i]'hil) := List.getElem?_eq_getElem _
    have hd : es.drop i = es[i] :: es.drop (i + 1) := List.drop_eq_getElem_cons hil
    rw [hd] at hes
    generalize es[i]'hil = e at hes he
    cases hes with
    | cons _ _ _ _ hT hs' =>
    have hlt : (decide ((i : Int) < (es.length : Int))) = true := by simp; omega
    have hlen : (ds ++ List.replicate (t :: l).length (AV.agg zeroC)).length = es.length := by simp at hi ⊢; omega
    have tl2 : (tail ++ [AO.box 24 e.cells]).all (AO.below 0) = true := by
      have : AO.below 0 (.box 24 e.cells) = true := hT.bel
      simp only [List.all_append, List.all_cons, List.all_nil, htl, this, Bool.and_true]
    have hbl : (H ++ (.box 24 cs0 :: .box 24 cs1 :: .row 24 4 0 (ds ++ List.replicate (t :: l).length (.agg zeroC)) 0 :: (tail ++ [AO.box 24 e.cells])) : List AO).all (AO.below (H ++ (.box 24 cs0 :: .box 24 cs1 :: .row 24 4 0 (ds ++ List.replicate (t :: l).length (.agg zeroC)) 0 :: (tail ++ [AO.box 24 e.cells])) : List AO).length) = true := by
      rw [List.all_append, Bool.and_eq_true]
      refine ⟨all_below_mono (by simp) hb, all_below_mono (Nat.zero_le _) ?_⟩
      have hr : ∀ L : List AV, (AO.row 24 4 0 L 0).below 0 = true := fun _ => rfl
      simp only [List.all_cons, hb0, hb1, hr, tl2, Bool.and_true]
    obtain ⟨r, hr, hc⟩ := hcall t (by simp) _ _ hT (his_get hid) hbl
    have q1 := hs.ia he
    have q3 : ∀ h : List AO, Q76 h true 4 (.ip e.cells) = some e := fun h => hT.load
    have q4 : e.cl = some e.cells := hT.cl.1
    have q4b : e.cells.length = 4 := hT.cl.2
    have q5 := hT.asEl
    -- the row
    have row : ∀ tl : List AO, (AO.box 24 cs0 :: .box 24 cs1 :: .row 24 4 0 (ds ++ List.replicate (t :: l).length (.agg zeroC)) 0 :: tl : List AO)[2]? = some (.row 24 4 0 (ds ++ List.replicate (t :: l).length (.agg zeroC)) 0) := fun _ => rfl
    have q7 := own_ia (sz := 4) (H := H) rfl (row (tail ++ [AO.box 24 e.cells])) (n := es.length) (by omega) hil
    have hel : (ds ++ List.replicate (t :: l).length (AV.agg zeroC))[i]? = some (.agg zeroC) := by
      rw [List.getElem?_append_right (by omega)]
      simp [hds, List.replicate]
    have q8 := own_est (sz := 4) (H := H) rfl (row (tail ++ [AO.box 24 e.cells])) hel rfl (x := r) (hr.snap) hr.cl.1 hr.cl.2 hr.cellB
    have hset : (ds ++ List.replicate (t :: l).length (AV.agg zeroC)).set i (AV.agg r.cells) = (ds ++ [r]) ++ List.replicate l.length (AV.agg zeroC) := by
      rw [List.set_append_right _ _ (by omega)]
      have : AV.agg r.cells = r := hr.eta
      rw [this]
      simp [hds, List.replicate]
    rw [hset] at q8
    simp only [List.set_cons_succ, List.set_cons_zero] at q8
    have st : ∀ R R2, R = ds ++ List.replicate (t :: l).length (AV.agg zeroC) → R2 = (ds ++ [r]) ++ List.replicate l.length (AV.agg zeroC) → exec (callW F) K c55_12 (L49 id H.length es.length c i) (H ++ (.box 24 cs0 :: .box 24 cs1 :: .row 24 4 0 R 0 :: tail)) = some (.normal, [.junk, fnV id, .ptr H.length 0, .ptr (H.length + 1) 0, .own 4 (H.length + 2) 0 0 es.length, .v (.int .i64 i), .ptr (H.length + (tail.length + 1 + 1 + 1)) 0, .junk, .junk, c, .v (.int .i64 es.length), .v (.int .i64 ((i + 1 : Nat) : Int)), .v (.bool true)], H ++ (.box 24 cs0 :: .box 24 cs1 :: .row 24 4 0 R2 0 :: (tail ++ [AO.box 24 e.cells]))) := by
      intro R R2 hR hR2
      rw [← hR] at hc q7 q8
      rw [← hR2] at q8
      have hst : ∀ (q : AV), Q113 (H ++ (.box 24 cs0 :: .box 24 cs1 :: .row 24 4 0 R 0 :: (tail ++ [AO.box 24 zeroC]))) 4 (.ptr (H.length + (tail.length + 1 + 1 + 1)) 0) e = some (H ++ (.box 24 cs0 :: .box 24 cs1 :: .row 24 4 0 R 0 :: (tail ++ [AO.box 24 e.cells]))) := by
        intro q
        have hg := hT
        cases hg with
        | mk k s n c2 l2 hc2 =>
        simp only [h_st, stAt, zeroC, AV.cells, Q104, Q105, bs1, bs2, Q106, Q107, Q108, Q109, bd1, Q110, Q111, toL, List.map_cons, List.map_nil, Q112, List.set_cons_zero, List.set_cons_succ, and_self, Nat.le_refl, Q114, Q115, Q116, Q0, Q1, Q2, Q3, Q4, Q5, Q6, Q7, Q8, Q9, Q10, Q11, Q12, Q13, Q14, Q15, Q16, Q17, Q18, Q19, Q20, Q21, Q22, Q23, Q24, Q25, Q26, Q27, Q28, Q29, Q30, Q31, Q32, Q33, Q35, Q36, Q37, Q38, Q39, Q40, Q41, Q42, Q43, Q44, Q45, Q46, Q47, Q48, Q49, Q50, Q51, Q52, Q53, Q54, Q55, Q56, Q57, Q58, Q59, Q60, Q61, Q62, Q63, Q64, Q65, Q66, Q67, Q68, Q69, Q70, Q71, Q72, Q73, Q99, Q100, Q101, Q102, Q103, Q74, Q75, Q77, Q78, Q79, Q80, Q81, Q82, Q83, Q84, clr, List.length_nil, List.length_cons, List.getElem?_cons_zero, List.getElem?_cons_succ, Nat.reduceAdd, Nat.zero_add, Nat.add_zero, Nat.reduceLeDiff, Nat.reduceSub, ↓reduceIte, List.drop_succ_cons, List.drop_zero, List.take_succ_cons, List.take_zero, Bool.false_eq_true, List.nil_append, List.cons_append, Bool.not_true, Bool.not_false, cond_true, cond_false, bne, Q85, Q86, Q87, Q88, Q89, Q90, Q91, Q92, Q93, Q94, Q95, Q96, Q97, Q98]
        rfl
      have hld : Q76 (H ++ (.box 24 cs0 :: .box 24 cs1 :: .row 24 4 0 R 0 :: (tail ++ [AO.box 24 e.cells]))) true 4 (.ptr (H.length + (tail.length + 1 + 1 + 1)) 0) = some e := by
        rw [h_ld]
        simp only [ldAt, List.getElem?_cons_succ, Q114, q4b, List.drop_zero, q5]
        rfl
      have hst' := hst .junk
      simp only [zeroC] at hst'
      simp only [L49, zeroC, c55_12, c55_8, c55_9, c55_10, c55_11, hlt, wrap_succ hil (small_max hm), q1, q3, q7, q8, hc, hst', hld, e_callh, q9z, h_bx, Q104, Q105, bs1, bs2, Q106, Q107, Q108, Q109, bd1, Q110, Q111, toL, List.map_cons, List.map_nil, Q112, List.set_cons_zero, List.set_cons_succ, and_self, Nat.le_refl, Q114, Q115, Q116, Q0, Q1, Q2, Q3, Q4, Q5, Q6, Q7, Q8, Q9, Q10, Q11, Q12, Q13, Q14, Q15, Q16, Q17, Q18, Q19, Q20, Q21, Q22, Q23, Q24, Q25, Q26, Q27, Q28, Q29, Q30, Q31, Q32, Q33, Q35, Q36, Q37, Q38, Q39, Q40, Q41, Q42, Q43, Q44, Q45, Q46, Q47, Q48, Q49, Q50, Q51, Q52, Q53, Q54, Q55, Q56, Q57, Q58, Q59, Q60, Q61, Q62, Q63, Q64, Q65, Q66, Q67, Q68, Q69, Q70, Q71, Q72, Q73, Q99, Q100, Q101, Q102, Q103, Q74, Q75, Q77, Q78, Q79, Q80, Q81, Q82, Q83, Q84, clr, List.length_nil, List.length_cons, List.getElem?_cons_zero, List.getElem?_cons_succ, Nat.reduceAdd, Nat.zero_add, Nat.add_zero, Nat.reduceLeDiff, Nat.reduceSub, ↓reduceIte, List.drop_succ_cons, List.drop_zero, List.take_succ_cons, List.take_zero, Bool.false_eq_true, List.nil_append, List.cons_append, Bool.not_true, Bool.not_false, cond_true, cond_false, bne, Q85, Q86, Q87, Q88, Q89, Q90, Q91, Q92, Q93, Q94, Q95, Q96, Q97, Q98]
    rw [show (t :: l).length + 1 = (l.length + 1) + 1 from rfl, loop_normal (by rw [hv]; exact st _ _ rfl rfl)]
    obtain ⟨ds', tail', x5, x6, x7, x8, x12, g1, g2, g3⟩ := ih (i + 1) (ds ++ [r]) (dl ++ [shiftT x t]) (tail ++ [AO.box 24 e.cells]) [.junk, fnV id, .ptr H.length 0, .ptr (H.length + 1) 0, .own 4 (H.length + 2) 0 0 es.length, .v (.int .i64 i), .ptr (H.length + (tail.length + 1 + 1 + 1)) 0, .junk, .junk, c, .v (.int .i64 es.length), .v (.int .i64 ((i + 1 : Nat) : Int)), .v (.bool true)] (by simp at hi; omega) (by simp [hds]) hs' (hall.app (.one hr)) tl2 (fun t ht => hcall t (by simp [ht])) rfl
    refine ⟨ds', tail', x5, x6, x7, x8, x12, g1, ?_, g3⟩
    rw [shiftL]
    simpa using g2

theorem start49 (a b : AV) : start c55 [a, b] = [a, b, .v undef, .v undef, .v undef, .v undef, .v undef, .v undef, .v undef, .v undef, .v undef, .v undef, .v undef] := rfl
theorem each49 (x : Int) (id : Nat) : ∀ (N : Nat) (t : Tm) (a : AV) (H : List AO), SizeOf.sizeOf t < N → size t ≤ 100000 → IsT a t → H[id]? = some (.box 2 [.v (.int .i64 x)]) → H.all (AO.below H.length) = true → ∃ r, IsT r (shiftT x t) ∧ callW F 55 [a, fnV id] H = some (r, H) := by
  intro N
  induction N with
  | zero => intro t a H h; omega
  | succ N ih =>
    intro t a H hN hsz ha hid hb
    have hbela := ha.bel
    cases ha with
    | mk k s n c l hc =>
    have h5 := Tm.mk.sizeOf_spec k s n l
    simp only [size] at hsz
    have hll := sizeL_len l
    have hcall : ∀ t ∈ l, ∀ (e : AV) (H' : List AO), IsT e t → H'[id]? = some (.box 2 [.v (.int .i64 x)]) → H'.all (AO.below H'.length) = true → ∃ r, IsT r (shiftT x t) ∧ callW F 55 [e, fnV id] H' = some (r, H') := by
      intro t ht e H' hT
      have h6 := List.sizeOf_lt_of_mem ht
      have h7 := size_mem ht
      exact ih t e H' (by omega) (by omega) hT
    obtain ⟨es, hs, hes, hm⟩ := hc.sl
    have e1 := hes.length
    -- behind the number
    have rest : ∀ (n' : Int) (y : AV) (m : Bool), ∃ r, IsT r (.mk k s n' (shiftL x l)) ∧ leave H.length c55 (exec (callW F) (l.length + 1) (.seq (.seq (.region [] [] c55_3) (.cond (.var 8) (.seq (.region [] [] c55_4) (.seq (.region [] [] c55_5) .ret)) .skip)) (.seq (.region [] [] c55_6) (.seq (.seq (.region [] [] c55_7) (.block 0 (.loop K49 [] c55_12))) (.seq (.region [] [] c55_13) (.seq (.region [] [] c55_14) .ret)))))
        [y, fnV id, .ptr H.length 0, .ptr (H.length + 1) 0, .v undef, .v undef, .v undef, .v (.bool m), .v undef, .v undef, .v undef, .v undef, .v undef] (H ++ [.box 24 [.v (.int .i64 k), .v (.string s), .v (.int .i64 n'), c], .box 24 zeroC])) = some (r, H) := by
      intro n' y m
      have hres : c55.res = [.cell 3 true 4] := rfl
      rcases Nat.eq_zero_or_pos l.length with h0 | h0
      · have hl0 : l = [] := List.length_eq_zero_iff.1 h0
        subst hl0
        have he0 : es = [] := List.length_eq_zero_iff.1 (by simpa using e1)
        subst he0
        have h1 : (((0 : Nat) : Int) == 0) = true := rfl
        refine ⟨.agg [.v (.int .i64 k), .v (.string s), .v (.int .i64 n'), .v (.slice none 0 0)], by rw [shiftL]; exact .mk _ _ _ _ _ .nil, ?_⟩
        simp only [zeroC, c55_3, c55_4, c55_5, h1, hs.len, h_ld, h_ld0, h_st, h_st0, h_bx, ldAt, stAt, preH_some, List.append_assoc, Q104, Q105, bs1, bs2, Q106, Q107, Q108, Q109, bd1, Q110, Q111, toL, List.map_cons, List.map_nil, Q112, List.set_cons_zero, List.set_cons_succ, and_self, Nat.le_refl, Q114, Q115, Q116, Q0, Q1, Q2, Q3, Q4, Q5, Q6, Q7, Q8, Q9, Q10, Q11, Q12, Q13, Q14, Q15, Q16, Q17, Q18, Q19, Q20, Q21, Q22, Q23, Q24, Q25, Q26, Q27, Q28, Q29, Q30, Q31, Q32, Q33, Q35, Q36, Q37, Q38, Q39, Q40, Q41, Q42, Q43, Q44, Q45, Q46, Q47, Q48, Q49, Q50, Q51, Q52, Q53, Q54, Q55, Q56, Q57, Q58, Q59, Q60, Q61, Q62, Q63, Q64, Q65, Q66, Q67, Q68, Q69, Q70, Q71, Q72, Q73, Q99, Q100, Q101, Q102, Q103, Q74, Q75, Q77, Q78, Q79, Q80, Q81, Q82, Q83, Q84, clr, List.length_nil, List.length_cons, List.getElem?_cons_zero, List.getElem?_cons_succ, Nat.reduceAdd, Nat.zero_add, Nat.add_zero, Nat.reduceLeDiff, Nat.reduceSub, ↓reduceIte, List.drop_succ_cons, List.drop_zero, List.take_succ_cons, List.take_zero, Bool.false_eq_true, List.nil_append, List.cons_append, Bool.not_true, Bool.not_false, cond_true, cond_false, bne, Q85, Q86, Q87, Q88, Q89, Q90, Q91, Q92, Q93, Q94, Q95, Q96, Q97, Q98]
        rw [leave_own rfl hb, hres, own_res1 (x := .agg [.v (.int .i64 k), .v (.string s), .v (.int .i64 n'), .v (.slice none 0 0)]) _]
        · exact lvo_one rfl
        · simp only [Q91, h_ld, ldAt, Q104, Q105, bs1, bs2, Q106, Q107, Q108, Q109, bd1, Q110, Q111, toL, List.map_cons, List.map_nil, Q112, List.set_cons_zero, List.set_cons_succ, and_self, Nat.le_refl, Q114, Q115, Q116, Q0, Q1, Q2, Q3, Q4, Q5, Q6, Q7, Q8, Q9, Q10, Q11, Q12, Q13, Q14, Q15, Q16, Q17, Q18, Q19, Q20, Q21, Q22, Q23, Q24, Q25, Q26, Q27, Q28, Q29, Q30, Q31, Q32, Q33, Q35, Q36, Q37, Q38, Q39, Q40, Q41, Q42, Q43, Q44, Q45, Q46, Q47, Q48, Q49, Q50, Q51, Q52, Q53, Q54, Q55, Q56, Q57, Q58, Q59, Q60, Q61, Q62, Q63, Q64, Q65, Q66, Q67, Q68, Q69, Q70, Q71, Q72, Q73, Q99, Q100, Q101, Q102, Q103, Q74, Q75, Q77, Q78, Q79, Q80, Q81, Q82, Q83, Q84, clr, List.length_nil, List.length_cons, List.getElem?_cons_zero, List.getElem?_cons_succ, Nat.reduceAdd, Nat.zero_add, Nat.add_zero, Nat.reduceLeDiff, Nat.reduceSub, ↓reduceIte, List.drop_succ_cons, List.drop_zero, List.take_succ_cons, List.take_zero, Bool.false_eq_true, List.nil_append, List.cons_append, Bool.not_true, Bool.not_false, cond_true, cond_false, bne, Q85, Q86, Q87, Q88, Q89, Q90, Q91, Q92, Q93, Q94, Q95, Q96, Q97, Q98]
      · have h1 : ((es.length : Int) == 0) = false := by rw [beq_eq_false_iff_ne]; omega
        obtain ⟨ds', tail', x5, x6, x7, x8, x12, g1, g2, g3⟩ := each_loop (H := H) (K := l.length + 1) (id := id) (cs0 := [.v (.int .i64 k), .v (.string s), .v (.int .i64 n'), c]) (cs1 := zeroC) hs (by omega) x hid hb (by
            have : ∀ n', IsT (.agg [.v (.int .i64 k), .v (.string s), .v (.int .i64 n'), c]) (.mk k s n' l) := fun n' => .mk k s n' c l hc
            exact (this n').bel) rfl l 0 [] [] [] (L49 id H.length es.length c (0 : Nat)) (by omega) rfl (by simpa using hes) .nil rfl hcall rfl
        have hrow : (List.replicate es.length (AV.agg zeroC)) = [] ++ List.replicate l.length (AV.agg zeroC) := by rw [e1]; rfl
        have mk := mkS_own (rt := 24) (sz := 4) (H := H) (l := [.box 24 [.v (.int .i64 k), .v (.string s), .v (.int .i64 n'), c], .box 24 zeroC]) (B := H.length) rfl (bytes := 56) (zero := [(.int .i64 0), (.string ⟨#[]⟩), (.int .i64 0), (.slice none 0 0)]) (n := es.length) (by have : maxLen = 9223372036854775807 := rfl; omega) (by omega)
        rw [zeroEl4, hrow] at mk
        generalize hR : ([] ++ List.replicate l.length (AV.agg zeroC)) = R at mk g1
        have hz2 : ∀ c' : AV, (AV.own 4 (H.length + 2) 0 0 es.length).cl = some [.own 4 (H.length + 2) 0 0 es.length] := fun _ => rfl
        have hds : ∀ h0 : List AO, (H ++ (.box 24 [.v (.int .i64 k), .v (.string s), .v (.int .i64 n'), .own 4 (H.length + 2) 0 0 es.length] :: .box 24 [.v (.int .i64 k), .v (.string s), .v (.int .i64 n'), .own 4 (H.length + 2) 0 0 es.length] :: .row 24 4 0 ds' 0 :: tail'))[H.length + 2]? = some (.row 24 4 0 ds' 0) := fun _ => obj_get rfl
        refine ⟨.agg [.v (.int .i64 k), .v (.string s), .v (.int .i64 n'), .slc 4 false false ds'], .mk _ _ _ _ _ (.slc _ _ _ _ (by simpa using g2) (by omega)), ?_⟩
        generalize hrest : (CC.seq (.region [] [] c55_13) (.seq (.region [] [] c55_14) .ret)) = rest
        simp only [zeroC] at mk g1
        simp only [zeroC, c55_3, c55_6, c55_7, h1, hs.len, mk, e_mkslice, h_ld, h_ld0, h_st, h_st0, h_bx, ldAt, stAt, preH_some, List.append_assoc, Q104, Q105, bs1, bs2, Q106, Q107, Q108, Q109, bd1, Q110, Q111, toL, List.map_cons, List.map_nil, Q112, List.set_cons_zero, List.set_cons_succ, and_self, Nat.le_refl, Q114, Q115, Q116, Q0, Q1, Q2, Q3, Q4, Q5, Q6, Q7, Q8, Q9, Q10, Q11, Q12, Q13, Q14, Q15, Q16, Q17, Q18, Q19, Q20, Q21, Q22, Q23, Q24, Q25, Q26, Q27, Q28, Q29, Q30, Q31, Q32, Q33, Q35, Q36, Q37, Q38, Q39, Q40, Q41, Q42, Q43, Q44, Q45, Q46, Q47, Q48, Q49, Q50, Q51, Q52, Q53, Q54, Q55, Q56, Q57, Q58, Q59, Q60, Q61, Q62, Q63, Q64, Q65, Q66, Q67, Q68, Q69, Q70, Q71, Q72, Q73, Q99, Q100, Q101, Q102, Q103, Q74, Q75, Q77, Q78, Q79, Q80, Q81, Q82, Q83, Q84, clr, List.length_nil, List.length_cons, List.getElem?_cons_zero, List.getElem?_cons_succ, Nat.reduceAdd, Nat.zero_add, Nat.add_zero, Nat.reduceLeDiff, Nat.reduceSub, ↓reduceIte, List.drop_succ_cons, List.drop_zero, List.take_succ_cons, List.take_zero, Bool.false_eq_true, List.nil_append, List.cons_append, Bool.not_true, Bool.not_false, cond_true, cond_false, bne, Q85, Q86, Q87, Q88, Q89, Q90, Q91, Q92, Q93, Q94, Q95, Q96, Q97, Q98]
        rw [loop_cong (v2 := L49 id H.length es.length c ((0 : Nat) : Int)) (by rfl), g1, ← hrest]
        simp only [c55_13, c55_14, hz2 .junk, h_ld, h_ld0, h_st, h_st0, h_bx, ldAt, stAt, preH_some, List.append_assoc, Q104, Q105, bs1, bs2, Q106, Q107, Q108, Q109, bd1, Q110, Q111, toL, List.map_cons, List.map_nil, Q112, List.set_cons_zero, List.set_cons_succ, and_self, Nat.le_refl, Q114, Q115, Q116, Q0, Q1, Q2, Q3, Q4, Q5, Q6, Q7, Q8, Q9, Q10, Q11, Q12, Q13, Q14, Q15, Q16, Q17, Q18, Q19, Q20, Q21, Q22, Q23, Q24, Q25, Q26, Q27, Q28, Q29, Q30, Q31, Q32, Q33, Q35, Q36, Q37, Q38, Q39, Q40, Q41, Q42, Q43, Q44, Q45, Q46, Q47, Q48, Q49, Q50, Q51, Q52, Q53, Q54, Q55, Q56, Q57, Q58, Q59, Q60, Q61, Q62, Q63, Q64, Q65, Q66, Q67, Q68, Q69, Q70, Q71, Q72, Q73, Q99, Q100, Q101, Q102, Q103, Q74, Q75, Q77, Q78, Q79, Q80, Q81, Q82, Q83, Q84, clr, List.length_nil, List.length_cons, List.getElem?_cons_zero, List.getElem?_cons_succ, Nat.reduceAdd, Nat.zero_add, Nat.add_zero, Nat.reduceLeDiff, Nat.reduceSub, ↓reduceIte, List.drop_succ_cons, List.drop_zero, List.take_succ_cons, List.take_zero, Bool.false_eq_true, List.nil_append, List.cons_append, Bool.not_true, Bool.not_false, cond_true, cond_false, bne, Q85, Q86, Q87, Q88, Q89, Q90, Q91, Q92, Q93, Q94, Q95, Q96, Q97, Q98]
        rw [leave_own rfl hb, hres, own_res1 (x := .agg [.v (.int .i64 k), .v (.string s), .v (.int .i64 n'), .own 4 (H.length + 2) 0 0 es.length]) _]
        · refine lvo_one ?_
          have hn : ¬ (H.length + 2 < H.length) := by omega
          simp [AV.frz2, AV.frz1, AV.frz0, hn, rowAt, hds [], g3]
          rw [← g3]; simp
        · simp only [Q91, h_ld, ldAt, Q104, Q105, bs1, bs2, Q106, Q107, Q108, Q109, bd1, Q110, Q111, toL, List.map_cons, List.map_nil, Q112, List.set_cons_zero, List.set_cons_succ, and_self, Nat.le_refl, Q114, Q115, Q116, Q0, Q1, Q2, Q3, Q4, Q5, Q6, Q7, Q8, Q9, Q10, Q11, Q12, Q13, Q14, Q15, Q16, Q17, Q18, Q19, Q20, Q21, Q22, Q23, Q24, Q25, Q26, Q27, Q28, Q29, Q30, Q31, Q32, Q33, Q35, Q36, Q37, Q38, Q39, Q40, Q41, Q42, Q43, Q44, Q45, Q46, Q47, Q48, Q49, Q50, Q51, Q52, Q53, Q54, Q55, Q56, Q57, Q58, Q59, Q60, Q61, Q62, Q63, Q64, Q65, Q66, Q67, Q68, Q69, Q70, Q71, Q72, Q73, Q99, Q100, Q101, Q102, Q103, Q74, Q75, Q77, Q78, Q79, Q80, Q81, Q82, Q83, Q84, clr, List.length_nil, List.length_cons, List.getElem?_cons_zero, List.getElem?_cons_succ, Nat.reduceAdd, Nat.zero_add, Nat.add_zero, Nat.reduceLeDiff, Nat.reduceSub, ↓reduceIte, List.drop_succ_cons, List.drop_zero, List.take_succ_cons, List.take_zero, Bool.false_eq_true, List.nil_append, List.cons_append, Bool.not_true, Bool.not_false, cond_true, cond_false, bne, Q85, Q86, Q87, Q88, Q89, Q90, Q91, Q92, Q93, Q94, Q95, Q96, Q97, Q98]
    have hstart : ∀ (r : AV) , leave H.length c55 (exec (callW F) (l.length + 1) (.seq (.region [] [] c55_0) (.seq (.seq (.region [] [] c55_1) (.cond (.var 7) (.region [] [] c55_2) .skip)) (.seq (.seq (.region [] [] c55_3) (.cond (.var 8) (.seq (.region [] [] c55_4) (.seq (.region [] [] c55_5) .ret)) .skip)) (.seq (.region [] [] c55_6) (.seq (.seq (.region [] [] c55_7) (.block 0 (.loop K49 [] c55_12))) (.seq (.region [] [] c55_13) (.seq (.region [] [] c55_14) .ret))))))) (start c55 [.agg [.v (.int .i64 k), .v (.string s), .v (.int .i64 n), c], fnV id]) (H ++ [])) = some (r, H) → callW F 55 [.agg [.v (.int .i64 k), .v (.string s), .v (.int .i64 n), c], fnV id] H = some (r, H) :=
      fun r hr => callW_own (c := c55) rfl rfl (l.length + 1) hr
    by_cases hk : k = 1
    · have h1 : (k == 1) = true := by simpa using hk
      obtain ⟨r, hr, hlv⟩ := rest (IntKind.i64.wrap (n + x)) (.agg [.v (.int .i64 k), .v (.string s), .v (.int .i64 n), c]) true
      refine ⟨r, by rw [shiftT, if_pos hk]; exact hr, hstart r ?_⟩
      rw [← hlv]
      generalize (CC.seq (.seq (.region [] [] c55_3) (.cond (.var 8) (.seq (.region [] [] c55_4) (.seq (.region [] [] c55_5) .ret)) .skip)) (.seq (.region [] [] c55_6) (.seq (.seq (.region [] [] c55_7) (.block 0 (.loop K49 [] c55_12))) (.seq (.region [] [] c55_13) (.seq (.region [] [] c55_14) .ret))))) = rest'
      have hb2 : (H ++ [.box 24 [.v (.int .i64 k), .v (.string s), .v (.int .i64 n), c], .box 24 zeroC] : List AO).all (AO.below (H ++ [.box 24 [.v (.int .i64 k), .v (.string s), .v (.int .i64 n), c], .box 24 zeroC] : List AO).length) = true := by
        rw [List.all_append, Bool.and_eq_true]
        refine ⟨all_below_mono (by simp) hb, all_below_mono (Nat.zero_le _) ?_⟩
        have hz : (AO.box 24 zeroC).below 0 = true := rfl
        simp only [AV.cells] at hbela
        have hbela : AO.below 0 (.box 24 [.v (.int .i64 k), .v (.string s), .v (.int .i64 n), c]) = true := hbela
        simp only [List.all_cons, List.all_nil, hbela, hz, Bool.and_true]
      have ht := turn_ok (x := x) (his_get hid) hb2 n
      simp only [zeroC] at ht
      simp only [start49, fnV, zeroC, c55_0, c55_1, c55_2, h1, ht, q9z, e_callv, cv_fn, h_ld, h_ld0, h_st, h_st0, h_bx, ldAt, stAt, preH_some, List.append_assoc, Q104, Q105, bs1, bs2, Q106, Q107, Q108, Q109, bd1, Q110, Q111, toL, List.map_cons, List.map_nil, Q112, List.set_cons_zero, List.set_cons_succ, and_self, Nat.le_refl, Q114, Q115, Q116, Q0, Q1, Q2, Q3, Q4, Q5, Q6, Q7, Q8, Q9, Q10, Q11, Q12, Q13, Q14, Q15, Q16, Q17, Q18, Q19, Q20, Q21, Q22, Q23, Q24, Q25, Q26, Q27, Q28, Q29, Q30, Q31, Q32, Q33, Q35, Q36, Q37, Q38, Q39, Q40, Q41, Q42, Q43, Q44, Q45, Q46, Q47, Q48, Q49, Q50, Q51, Q52, Q53, Q54, Q55, Q56, Q57, Q58, Q59, Q60, Q61, Q62, Q63, Q64, Q65, Q66, Q67, Q68, Q69, Q70, Q71, Q72, Q73, Q99, Q100, Q101, Q102, Q103, Q74, Q75, Q77, Q78, Q79, Q80, Q81, Q82, Q83, Q84, clr, List.length_nil, List.length_cons, List.getElem?_cons_zero, List.getElem?_cons_succ, Nat.reduceAdd, Nat.zero_add, Nat.add_zero, Nat.reduceLeDiff, Nat.reduceSub, ↓reduceIte, List.drop_succ_cons, List.drop_zero, List.take_succ_cons, List.take_zero, Bool.false_eq_true, List.nil_append, List.cons_append, Bool.not_true, Bool.not_false, cond_true, cond_false, bne, Q85, Q86, Q87, Q88, Q89, Q90, Q91, Q92, Q93, Q94, Q95, Q96, Q97, Q98]
    · have h1 : (k == 1) = false := by simpa using hk
      obtain ⟨r, hr, hlv⟩ := rest n (.agg [.v (.int .i64 k), .v (.string s), .v (.int .i64 n), c]) false
      refine ⟨r, by rw [shiftT, if_neg hk]; exact hr, hstart r ?_⟩
      rw [← hlv]
      generalize (CC.seq (.seq (.region [] [] c55_3) (.cond (.var 8) (.seq (.region [] [] c55_4) (.seq (.region [] [] c55_5) .ret)) .skip)) (.seq (.region [] [] c55_6) (.seq (.seq (.region [] [] c55_7) (.block 0 (.loop K49 [] c55_12))) (.seq (.region [] [] c55_13) (.seq (.region [] [] c55_14) .ret))))) = rest'
      simp only [start49, fnV, zeroC, c55_0, c55_1, h1, q9z, h_ld, h_ld0, h_st, h_st0, h_bx, ldAt, stAt, preH_some, List.append_assoc, Q104, Q105, bs1, bs2, Q106, Q107, Q108, Q109, bd1, Q110, Q111, toL, List.map_cons, List.map_nil, Q112, List.set_cons_zero, List.set_cons_succ, and_self, Nat.le_refl, Q114, Q115, Q116, Q0, Q1, Q2, Q3, Q4, Q5, Q6, Q7, Q8, Q9, Q10, Q11, Q12, Q13, Q14, Q15, Q16, Q17, Q18, Q19, Q20, Q21, Q22, Q23, Q24, Q25, Q26, Q27, Q28, Q29, Q30, Q31, Q32, Q33, Q35, Q36, Q37, Q38, Q39, Q40, Q41, Q42, Q43, Q44, Q45, Q46, Q47, Q48, Q49, Q50, Q51, Q52, Q53, Q54, Q55, Q56, Q57, Q58, Q59, Q60, Q61, Q62, Q63, Q64, Q65, Q66, Q67, Q68, Q69, Q70, Q71, Q72, Q73, Q99, Q100, Q101, Q102, Q103, Q74, Q75, Q77, Q78, Q79, Q80, Q81, Q82, Q83, Q84, clr, List.length_nil, List.length_cons, List.getElem?_cons_zero, List.getElem?_cons_succ, Nat.reduceAdd, Nat.zero_add, Nat.add_zero, Nat.reduceLeDiff, Nat.reduceSub, ↓reduceIte, List.drop_succ_cons, List.drop_zero, List.take_succ_cons, List.take_zero, Bool.false_eq_true, List.nil_append, List.cons_append, Bool.not_true, Bool.not_false, cond_true, cond_false, bne, Q85, Q86, Q87, Q88, Q89, Q90, Q91, Q92, Q93, Q94, Q95, Q96, Q97, Q98]

theorem shift34 (x : Int) {t : Tm} {a : AV} (hsz : size t ≤ 100000) (ha : IsT a t) : ∃ r, IsT r (shiftT x t) ∧ callW F 23 [a, .v (.int .i64 x)] [] = some (r, []) := by
  have hb : ([.box 24 a.cells, .box 2 [.v (.int .i64 x)], .box 24 zeroC] : List AO).all (AO.below 3) = true := by
    have : AO.below 3 (.box 24 a.cells) = true := below_mono (Nat.zero_le 3) _ ha.bel
    simp only [List.all_cons, List.all_nil, this, Bool.and_true]; rfl
  obtain ⟨r, hr, hc⟩ := each49 x 1 _ t a [.box 24 a.cells, .box 2 [.v (.int .i64 x)], .box 24 zeroC] (Nat.lt_succ_self _) hsz ha rfl hb
  refine ⟨r, hr, callW_pure (c := c23) rfl rfl 0 ?_⟩
  have g := lv1 hr
  generalize shiftT x t = u at hr
  cases hr
  cases ha
  simp only [AV.cells, zeroC, fnV] at hc
  simp only [c23, start, List.replicate, c23_0, c23_1, hc, g, e_mkfn, e_callh, q9z, Q104, Q105, bs1, bs2, Q106, Q107, Q108, Q109, bd1, Q110, Q111, toL, List.map_cons, List.map_nil, Q112, List.set_cons_zero, List.set_cons_succ, and_self, Nat.le_refl, Q113, Q114, Q115, Q116, Q0, Q1, Q2, Q3, Q4, Q5, Q6, Q7, Q8, Q9, Q10, Q11, Q12, Q13, Q14, Q15, Q16, Q17, Q18, Q19, Q20, Q21, Q22, Q23, Q24, Q25, Q26, Q27, Q28, Q29, Q30, Q31, Q32, Q33, Q34, Q35, Q36, Q37, Q38, Q39, Q40, Q41, Q42, Q43, Q44, Q45, Q46, Q47, Q48, Q49, Q50, Q51, Q52, Q53, Q54, Q55, Q56, Q57, Q58, Q59, Q60, Q61, Q62, Q63, Q64, Q65, Q66, Q67, Q68, Q69, Q70, Q71, Q72, Q73, Q99, Q100, Q101, Q102, Q103, Q74, Q75, Q76, Q77, Q78, Q79, Q80, Q81, Q82, Q83, Q84, clr, List.length_nil, List.length_cons, List.getElem?_cons_zero, List.getElem?_cons_succ, Nat.reduceAdd, Nat.zero_add, Nat.add_zero, Nat.reduceLeDiff, Nat.reduceSub, ↓reduceIte, List.drop_succ_cons, List.drop_zero, List.take_succ_cons, List.take_zero, Bool.false_eq_true, List.nil_append, List.cons_append, Bool.not_true, Bool.not_false, cond_true, cond_false, bne, Q85, Q86, Q87, Q88, Q89, Q90, Q91, Q92, Q93, Q94, Q95, Q96, Q97, Q98]
end
end Go.AE.YtgcbaefclkfnoaaDoor
end

/-! Copy of the program: the same term. -/
section
set_option linter.unusedVariables false
set_option linter.unusedSimpArgs false
namespace Go.AE.YtgcbaefclkfnoaaDoor
open Go Go.AE Go.Proofs.YtgcbaefclkfnoaaDoor

def fnC : AV := .fn (.func 57) [] []
theorem turnc_ok {H : List AO} (hb : H.all (AO.below H.length) = true) (n : Int) : callW F 57 [.v (.int .i64 n)] H = some (.v (.int .i64 n), H) := by
  refine callW_own (c := c57) rfl rfl 0 ?_
  have body : exec (callW F) 0 c57.body (start c57 [.v (.int .i64 n)]) (H ++ []) = some (.ret, [.v (.int .i64 n), .v (.int .i64 n)], H ++ []) := by
    simp only [c57, start, List.replicate, c57_0, c57_1, Q104, Q105, bs1, bs2, Q106, Q107, Q108, Q109, bd1, Q110, Q111, toL, List.map_cons, List.map_nil, Q112, List.set_cons_zero, List.set_cons_succ, and_self, Nat.le_refl, Q114, Q115, Q116, Q0, Q1, Q2, Q3, Q4, Q5, Q6, Q7, Q8, Q9, Q10, Q11, Q12, Q13, Q14, Q15, Q16, Q17, Q18, Q19, Q20, Q21, Q22, Q23, Q24, Q25, Q26, Q27, Q28, Q29, Q30, Q31, Q32, Q33, Q34, Q35, Q36, Q37, Q38, Q39, Q40, Q41, Q42, Q43, Q44, Q45, Q46, Q47, Q48, Q49, Q50, Q51, Q52, Q53, Q54, Q55, Q56, Q57, Q58, Q59, Q60, Q61, Q62, Q63, Q64, Q65, Q66, Q67, Q68, Q69, Q70, Q71, Q72, Q73, Q99, Q100, Q101, Q102, Q103, Q74, Q75, Q77, Q78, Q79, Q80, Q81, Q82, Q83, Q84, clr, List.length_nil, List.length_cons, List.getElem?_cons_zero, List.getElem?_cons_succ, Nat.reduceAdd, Nat.zero_add, Nat.add_zero, Nat.reduceLeDiff, Nat.reduceSub, ↓reduceIte, List.drop_succ_cons, List.drop_zero, List.take_succ_cons, List.take_zero, Bool.false_eq_true, List.nil_append, List.cons_append, Bool.not_true, Bool.not_false, cond_true, cond_false, bne, Q85, Q86, Q87, Q88, Q89, Q90, Q91, Q92, Q93, Q94, Q95, Q96, Q97, Q98]
  rw [body, leave_own rfl hb]
  exact lvo_one rfl
section
variable {H : List AO} {l : List AO}
def L49c (B n : Nat) (c : AV) (i : Int) : List AV := [.junk, fnC, .ptr B 0, .ptr (B + 1) 0, .own 4 (B + 2) 0 0 n, .junk, .junk, .junk, .junk, c, .v (.int .i64 n), .v (.int .i64 i), .junk]
theorem eachc_loop {K : Nat} {c : AV} {es : List AV} {cs0 cs1 : List AV} (hs : Sl 4 c es) (hm : es.length ≤ 100000) (hb : H.all (AO.below H.length) = true) (hb0 : (AO.box 24 cs0).below 0 = true) (hb1 : (AO.box 24 cs1).below 0 = true) :
    ∀ (l : List Tm) (i : Nat) (ds : List AV) (dl : List Tm) (tail : List AO) (vars : List AV), i + l.length = es.length → ds.length = i → All2 (es.drop i) l → All2 ds dl → tail.all (AO.below 0) = true →
      (∀ t ∈ l, ∀ (e : AV) (H' : List AO), IsT e t → H'.all (AO.below H'.length) = true → ∃ r, IsT r (t) ∧ callW F 55 [e, fnC] H' = some (r, H')) →
      clr K49 vars = L49c H.length es.length c i →
      ∃ ds' tail' x5 x6 x7 x8 x12, loopN (exec (callW F) K c55_12) K49 (l.length + 1) vars (H ++ (.box 24 cs0 :: .box 24 cs1 :: .row 24 4 0 (ds ++ List.replicate l.length (.agg zeroC)) 0 :: tail)) = some (.exit 0, [.junk, fnC, .ptr H.length 0, .ptr (H.length + 1) 0, .own 4 (H.length + 2) 0 0 es.length, x5, x6, x7, x8, c, .v (.int .i64 es.length), .v (.int .i64 es.length), x12], H ++ (.box 24 cs0 :: .box 24 cs1 :: .row 24 4 0 ds' 0 :: tail')) ∧ All2 ds' (dl ++ l) ∧ ds'.length = es.length := by
  intro l
  induction l with
  | nil =>
    intro i ds dl tail vars hi hds _ hall htl _ hv
    have hil : i = es.length := by simpa using hi
    subst hil
    have hlt : decide ((es.length : Int) < (es.length : Int)) = false := by simp
    refine ⟨ds, tail, .junk, .junk, .junk, .junk, .v (.bool false), loop_exit ?_, by simpa using hall, hds⟩
    rw [hv]
    simp only [L49c, c55_12, c55_8, hlt, List.replicate, List.append_nil, Q104, Q105, bs1, bs2, Q106, Q107, Q108, Q109, bd1, Q110, Q111, toL, List.map_cons, List.map_nil, Q112, List.set_cons_zero, List.set_cons_succ, and_self, Nat.le_refl, Q114, Q115, Q116, Q0, Q1, Q2, Q3, Q4, Q5, Q6, Q7, Q8, Q9, Q10, Q11, Q12, Q13, Q14, Q15, Q16, Q17, Q18, Q19, Q20, Q21, Q22, Q23, Q24, Q25, Q26, Q27, Q28, Q29, Q30, Q31, Q32, Q33, Q35, Q36, Q37, Q38, Q39, Q40, Q41, Q42, Q43, Q44, Q45, Q46, Q47, Q48, Q49, Q50, Q51, Q52, Q53, Q54, Q55, Q56, Q57, Q58, Q59, Q60, Q61, Q62, Q63, Q64, Q65, Q66, Q67, Q68, Q69, Q70, Q71, Q72, Q73, Q99, Q100, Q101, Q102, Q103, Q74, Q75, Q77, Q78, Q79, Q80, Q81, Q82, Q83, Q84, clr, List.length_nil, List.length_cons, List.getElem?_cons_zero, List.getElem?_cons_succ, Nat.reduceAdd, Nat.zero_add, Nat.add_zero, Nat.reduceLeDiff, Nat.reduceSub, ↓reduceIte, List.drop_succ_cons, List.drop_zero, List.take_succ_cons, List.take_zero, Bool.false_eq_true, List.nil_append, List.cons_append, Bool.not_true, Bool.not_false, cond_true, cond_false, bne, Q85, Q86, Q87, Q88, Q89, Q90, Q91, Q92, Q93, Q94, Q95, Q96, Q97, Q98]
  | cons t l ih =>
    intro i ds dl tail vars hi hds hes hall htl hcall hv
    have hil : i < es.length := by simp at hi; omega
    have he : es[i]? = some (es[i]'hil) := List.getElem?_eq_getElem _
    have hd : es.drop i = es[i] :: es.drop (i + 1) := List.drop_eq_getElem_cons hil
    rw [hd] at hes
    generalize es[i]'hil = e at hes he
    cases hes with
    | cons _ _ _ _ hT hs' =>
    have hlt : (decide ((i : Int) < (es.length : Int))) = true := by simp; omega
    have hlen : (ds ++ List.replicate (t :: l).length (AV.agg zeroC)).length = es.length := by simp at hi ⊢; omega
    have tl2 : (tail ++ [AO.box 24 e.cells]).all (AO.below 0) = true := by
      have : AO.below 0 (.box 24 e.cells) = true := hT.bel
      simp only [List.all_append, List.all_cons, List.all_nil, htl, this, Bool.and_true]
    have hbl : (H ++ (.box 24 cs0 :: .box 24 cs1 :: .row 24 4 0 (ds ++ List.replicate (t :: l).length (.agg zeroC)) 0 :: (tail ++ [AO.box 24 e.cells])) : List AO).all (AO.below (H ++ (.box 24 cs0 :: .box 24 cs1 :: .row 24 4 0 (ds ++ List.replicate (t :: l).length (.agg zeroC)) 0 :: (tail ++ [AO.box 24 e.cells])) : List AO).length) = true := by
      rw [List.all_append, Bool.and_eq_true]
      refine ⟨all_below_mono (by simp) hb, all_below_mono (Nat.zero_le _) ?_⟩
      have hr : ∀ L : List AV, (AO.row 24 4 0 L 0).below 0 = true := fun _ => rfl
      simp only [List.all_cons, hb0, hb1, hr, tl2, Bool.and_true]
    obtain ⟨r, hr, hc⟩ := hcall t (by simp) _ _ hT hbl
    have q1 := hs.ia he
    have q3 : ∀ h : List AO, Q76 h true 4 (.ip e.cells) = some e := fun h => hT.load
    have q4 : e.cl = some e.cells := hT.cl.1
    have q4b : e.cells.length = 4 := hT.cl.2
    have q5 := hT.asEl
    -- the row
    have row : ∀ tl : List AO, (AO.box 24 cs0 :: .box 24 cs1 :: .row 24 4 0 (ds ++ List.replicate (t :: l).length (.agg zeroC)) 0 :: tl : List AO)[2]? = some (.row 24 4 0 (ds ++ List.replicate (t :: l).length (.agg zeroC)) 0) := fun _ => rfl
    have q7 := own_ia (sz := 4) (H := H) rfl (row (tail ++ [AO.box 24 e.cells])) (n := es.length) (by omega) hil
    have hel : (ds ++ List.replicate (t :: l).length (AV.agg zeroC))[i]? = some (.agg zeroC) := by
      rw [List.getElem?_append_right (by omega)]
      simp [hds, List.replicate]
    have q8 := own_est (sz := 4) (H := H) rfl (row (tail ++ [AO.box 24 e.cells])) hel rfl (x := r) (hr.snap) hr.cl.1 hr.cl.2 hr.cellB
    have hset : (ds ++ List.replicate (t :: l).length (AV.agg zeroC)).set i (AV.agg r.cells) = (ds ++ [r]) ++ List.replicate l.length (AV.agg zeroC) := by
      rw [List.set_append_right _ _ (by omega)]
      have : AV.agg r.cells = r := hr.eta
      rw [this]
      simp [hds, List.replicate]
    rw [hset] at q8
    simp only [List.set_cons_succ, List.set_cons_zero] at q8
    have st : ∀ R R2, R = ds ++ List.replicate (t :: l).length (AV.agg zeroC) → R2 = (ds ++ [r]) ++ List.replicate l.length (AV.agg zeroC) → exec (callW F) K c55_12 (L49c H.length es.length c i) (H ++ (.box 24 cs0 :: .box 24 cs1 :: .row 24 4 0 R 0 :: tail)) = some (.normal, [.junk, fnC, .ptr H.length 0, .ptr (H.length + 1) 0, .own 4 (H.length + 2) 0 0 es.length, .v (.int .i64 i), .ptr (H.length + (tail.length + 1 + 1 + 1)) 0, .junk, .junk, c, .v (.int .i64 es.length), .v (.int .i64 ((i + 1 : Nat) : Int)), .v (.bool true)], H ++ (.box 24 cs0 :: .box 24 cs1 :: .row 24 4 0 R2 0 :: (tail ++ [AO.box 24 e.cells]))) := by
      intro R R2 hR hR2
      rw [← hR] at hc q7 q8
      rw [← hR2] at q8
      have hst : ∀ (q : AV), Q113 (H ++ (.box 24 cs0 :: .box 24 cs1 :: .row 24 4 0 R 0 :: (tail ++ [AO.box 24 zeroC]))) 4 (.ptr (H.length + (tail.length + 1 + 1 + 1)) 0) e = some (H ++ (.box 24 cs0 :: .box 24 cs1 :: .row 24 4 0 R 0 :: (tail ++ [AO.box 24 e.cells]))) := by
        intro q
        have hg := hT
        cases hg with
        | mk k s n c2 l2 hc2 =>
        simp only [h_st, stAt, zeroC, AV.cells, Q104, Q105, bs1, bs2, Q106, Q107, Q108, Q109, bd1, Q110, Q111, toL, List.map_cons, List.map_nil, Q112, List.set_cons_zero, List.set_cons_succ, and_self, Nat.le_refl, Q114, Q115, Q116, Q0, Q1, Q2, Q3, Q4, Q5, Q6, Q7, Q8, Q9, Q10, Q11, Q12, Q13, Q14, Q15, Q16, Q17, Q18, Q19, Q20, Q21, Q22, Q23, Q24, Q25, Q26, Q27, Q28, Q29, Q30, Q31, Q32, Q33, Q35, Q36, Q37, Q38, Q39, Q40, Q41, Q42, Q43, Q44, Q45, Q46, Q47, Q48, Q49, Q50, Q51, Q52, Q53, Q54, Q55, Q56, Q57, Q58, Q59, Q60, Q61, Q62, Q63, Q64, Q65, Q66, Q67, Q68, Q69, Q70, Q71, Q72, Q73, Q99, Q100, Q101, Q102, Q103, Q74, Q75, Q77, Q78, Q79, Q80, Q81, Q82, Q83, Q84, clr, List.length_nil, List.length_cons, List.getElem?_cons_zero, List.getElem?_cons_succ, Nat.reduceAdd, Nat.zero_add, Nat.add_zero, Nat.reduceLeDiff, Nat.reduceSub, ↓reduceIte, List.drop_succ_cons, List.drop_zero, List.take_succ_cons, List.take_zero, Bool.false_eq_true, List.nil_append, List.cons_append, Bool.not_true, Bool.not_false, cond_true, cond_false, bne, Q85, Q86, Q87, Q88, Q89, Q90, Q91, Q92, Q93, Q94, Q95, Q96, Q97, Q98]
        rfl
      have hld : Q76 (H ++ (.box 24 cs0 :: .box 24 cs1 :: .row 24 4 0 R 0 :: (tail ++ [AO.box 24 e.cells]))) true 4 (.ptr (H.length + (tail.length + 1 + 1 + 1)) 0) = some e := by
        rw [h_ld]
        simp only [ldAt, List.getElem?_cons_succ, Q114, q4b, List.drop_zero, q5]
        rfl
      have hst' := hst .junk
      simp only [zeroC] at hst'
      simp only [L49c, zeroC, c55_12, c55_8, c55_9, c55_10, c55_11, hlt, wrap_succ hil (small_max hm), q1, q3, q7, q8, hc, hst', hld, e_callh, q9z, h_bx, Q104, Q105, bs1, bs2, Q106, Q107, Q108, Q109, bd1, Q110, Q111, toL, List.map_cons, List.map_nil, Q112, List.set_cons_zero, List.set_cons_succ, and_self, Nat.le_refl, Q114, Q115, Q116, Q0, Q1, Q2, Q3, Q4, Q5, Q6, Q7, Q8, Q9, Q10, Q11, Q12, Q13, Q14, Q15, Q16, Q17, Q18, Q19, Q20, Q21, Q22, Q23, Q24, Q25, Q26, Q27, Q28, Q29, Q30, Q31, Q32, Q33, Q35, Q36, Q37, Q38, Q39, Q40, Q41, Q42, Q43, Q44, Q45, Q46, Q47, Q48, Q49, Q50, Q51, Q52, Q53, Q54, Q55, Q56, Q57, Q58, Q59, Q60, Q61, Q62, Q63, Q64, Q65, Q66, Q67, Q68, Q69, Q70, Q71, Q72, Q73, Q99, Q100, Q101, Q102, Q103, Q74, Q75, Q77, Q78, Q79, Q80, Q81, Q82, Q83, Q84, clr, List.length_nil, List.length_cons, List.getElem?_cons_zero, List.getElem?_cons_succ, Nat.reduceAdd, Nat.zero_add, Nat.add_zero, Nat.reduceLeDiff, Nat.reduceSub, ↓reduceIte, List.drop_succ_cons, List.drop_zero, List.take_succ_cons, List.take_zero, Bool.false_eq_true, List.nil_append, List.cons_append, Bool.not_true, Bool.not_false, cond_true, cond_false, bne, Q85, Q86, Q87, Q88, Q89, Q90, Q91, Q92, Q93, Q94, Q95, Q96, Q97, Q98]
    rw [show (t :: l).length + 1 = (l.length + 1) + 1 from rfl, loop_normal (by rw [hv]; exact st _ _ rfl rfl)]
    obtain ⟨ds', tail', x5, x6, x7, x8, x12, g1, g2, g3⟩ := ih (i + 1) (ds ++ [r]) (dl ++ [t]) (tail ++ [AO.box 24 e.cells]) [.junk, fnC, .ptr H.length 0, .ptr (H.length + 1) 0, .own 4 (H.length + 2) 0 0 es.length, .v (.int .i64 i), .ptr (H.length + (tail.length + 1 + 1 + 1)) 0, .junk, .junk, c, .v (.int .i64 es.length), .v (.int .i64 ((i + 1 : Nat) : Int)), .v (.bool true)] (by simp at hi; omega) (by simp [hds]) hs' (hall.app (.one hr)) tl2 (fun t ht => hcall t (by simp [ht])) rfl
    refine ⟨ds', tail', x5, x6, x7, x8, x12, g1, ?_, g3⟩
    simpa using g2

theorem eachc : ∀ (N : Nat) (t : Tm) (a : AV) (H : List AO), SizeOf.sizeOf t < N → size t ≤ 100000 → IsT a t → H.all (AO.below H.length) = true → ∃ r, IsT r (t) ∧ callW F 55 [a, fnC] H = some (r, H) := by
  intro N
  induction N with
  | zero => intro t a H h; omega
  | succ N ih =>
    intro t a H hN hsz ha hb
    have hbela := ha.bel
    cases ha with
    | mk k s n c l hc =>
    have h5 := Tm.mk.sizeOf_spec k s n l
    simp only [size] at hsz
    have hll := sizeL_len l
    have hcall : ∀ t ∈ l, ∀ (e : AV) (H' : List AO), IsT e t → H'.all (AO.below H'.length) = true → ∃ r, IsT r (t) ∧ callW F 55 [e, fnC] H' = some (r, H') := by
      intro t ht e H' hT
      have h6 := List.sizeOf_lt_of_mem ht
      have h7 := size_mem ht
      exact ih t e H' (by omega) (by omega) hT
    obtain ⟨es, hs, hes, hm⟩ := hc.sl
    have e1 := hes.length
    -- behind the number
    have rest : ∀ (n' : Int) (y : AV) (m : Bool), ∃ r, IsT r (.mk k s n' (l)) ∧ leave H.length c55 (exec (callW F) (l.length + 1) (.seq (.seq (.region [] [] c55_3) (.cond (.var 8) (.seq (.region [] [] c55_4) (.seq (.region [] [] c55_5) .ret)) .skip)) (.seq (.region [] [] c55_6) (.seq (.seq (.region [] [] c55_7) (.block 0 (.loop K49 [] c55_12))) (.seq (.region [] [] c55_13) (.seq (.region [] [] c55_14) .ret)))))
        [y, fnC, .ptr H.length 0, .ptr (H.length + 1) 0, .v undef, .v undef, .v undef, .v (.bool m), .v undef, .v undef, .v undef, .v undef, .v undef] (H ++ [.box 24 [.v (.int .i64 k), .v (.string s), .v (.int .i64 n'), c], .box 24 zeroC])) = some (r, H) := by
      intro n' y m
      have hres : c55.res = [.cell 3 true 4] := rfl
      rcases Nat.eq_zero_or_pos l.length with h0 | h0
      · have hl0 : l = [] := List.length_eq_zero_iff.1 h0
        subst hl0
        have he0 : es = [] := List.length_eq_zero_iff.1 (by simpa using e1)
        subst he0
        have h1 : (((0 : Nat) : Int) == 0) = true := rfl
        refine ⟨.agg [.v (.int .i64 k), .v (.string s), .v (.int .i64 n'), .v (.slice none 0 0)], .mk _ _ _ _ _ .nil, ?_⟩
        simp only [zeroC, c55_3, c55_4, c55_5, h1, hs.len, h_ld, h_ld0, h_st, h_st0, h_bx, ldAt, stAt, preH_some, List.append_assoc, Q104, Q105, bs1, bs2, Q106, Q107, Q108, Q109, bd1, Q110, Q111, toL, List.map_cons, List.map_nil, Q112, List.set_cons_zero, List.set_cons_succ, and_self, Nat.le_refl, Q114, Q115, Q116, Q0, Q1, Q2, Q3, Q4, Q5, Q6, Q7, Q8, Q9, Q10, Q11, Q12, Q13, Q14, Q15, Q16, Q17, Q18, Q19, Q20, Q21, Q22, Q23, Q24, Q25, Q26, Q27, Q28, Q29, Q30, Q31, Q32, Q33, Q35, Q36, Q37, Q38, Q39, Q40, Q41, Q42, Q43, Q44, Q45, Q46, Q47, Q48, Q49, Q50, Q51, Q52, Q53, Q54, Q55, Q56, Q57, Q58, Q59, Q60, Q61, Q62, Q63, Q64, Q65, Q66, Q67, Q68, Q69, Q70, Q71, Q72, Q73, Q99, Q100, Q101, Q102, Q103, Q74, Q75, Q77, Q78, Q79, Q80, Q81, Q82, Q83, Q84, clr, List.length_nil, List.length_cons, List.getElem?_cons_zero, List.getElem?_cons_succ, Nat.reduceAdd, Nat.zero_add, Nat.add_zero, Nat.reduceLeDiff, Nat.reduceSub, ↓reduceIte, List.drop_succ_cons, List.drop_zero, List.take_succ_cons, List.take_zero, Bool.false_eq_true, List.nil_append, List.cons_append, Bool.not_true, Bool.not_false, cond_true, cond_false, bne, Q85, Q86, Q87, Q88, Q89, Q90, Q91, Q92, Q93, Q94, Q95, Q96, Q97, Q98]
        rw [leave_own rfl hb, hres, own_res1 (x := .agg [.v (.int .i64 k), .v (.string s), .v (.int .i64 n'), .v (.slice none 0 0)]) _]
        · exact lvo_one rfl
        · simp only [Q91, h_ld, ldAt, Q104, Q105, bs1, bs2, Q106, Q107, Q108, Q109, bd1, Q110, Q111, toL, List.map_cons, List.map_nil, Q112, List.set_cons_zero, List.set_cons_succ, and_self, Nat.le_refl, Q114, Q115, Q116, Q0, Q1, Q2, Q3, Q4, Q5, Q6, Q7, Q8, Q9, Q10, Q11, Q12, Q13, Q14, Q15, Q16, Q17, Q18, Q19, Q20, Q21, Q22, Q23, Q24, Q25, Q26, Q27, Q28, Q29, Q30, Q31, Q32, Q33, Q35, Q36, Q37, Q38, Q39, Q40, Q41, Q42, Q43, Q44, Q45, Q46, Q47, Q48, Q49, Q50, Q51, Q52, Q53, Q54, Q55, Q56, Q57, Q58, Q59, Q60, Q61, Q62, Q63, Q64, Q65, Q66, Q67, Q68, Q69, Q70, Q71, Q72, Q73, Q99, Q100, Q101, Q102, Q103, Q74, Q75, Q77, Q78, Q79, Q80, Q81, Q82, Q83, Q84, clr, List.length_nil, List.length_cons, List.getElem?_cons_zero, List.getElem?_cons_succ, Nat.reduceAdd, Nat.zero_add, Nat.add_zero, Nat.reduceLeDiff, Nat.reduceSub, ↓reduceIte, List.drop_succ_cons, List.drop_zero, List.take_succ_cons, List.take_zero, Bool.false_eq_true, List.nil_append, List.cons_append, Bool.not_true, Bool.not_false, cond_true, cond_false, bne, Q85, Q86, Q87, Q88, Q89, Q90, Q91, Q92, Q93, Q94, Q95, Q96, Q97, Q98]
      · have h1 : ((es.length : Int) == 0) = false := by rw [beq_eq_false_iff_ne]; omega
        obtain ⟨ds', tail', x5, x6, x7, x8, x12, g1, g2, g3⟩ := eachc_loop (H := H) (K := l.length + 1) (cs0 := [.v (.int .i64 k), .v (.string s), .v (.int .i64 n'), c]) (cs1 := zeroC) hs (by omega) hb (by
            have : ∀ n', IsT (.agg [.v (.int .i64 k), .v (.string s), .v (.int .i64 n'), c]) (.mk k s n' l) := fun n' => .mk k s n' c l hc
            exact (this n').bel) rfl l 0 [] [] [] (L49c H.length es.length c (0 : Nat)) (by omega) rfl (by simpa using hes) .nil rfl hcall rfl
        have hrow : (List.replicate es.length (AV.agg zeroC)) = [] ++ List.replicate l.length (AV.agg zeroC) := by rw [e1]; rfl
        have mk := mkS_own (rt := 24) (sz := 4) (H := H) (l := [.box 24 [.v (.int .i64 k), .v (.string s), .v (.int .i64 n'), c], .box 24 zeroC]) (B := H.length) rfl (bytes := 56) (zero := [(.int .i64 0), (.string ⟨#[]⟩), (.int .i64 0), (.slice none 0 0)]) (n := es.length) (by have : maxLen = 9223372036854775807 := rfl; omega) (by omega)
        rw [zeroEl4, hrow] at mk
        generalize hR : ([] ++ List.replicate l.length (AV.agg zeroC)) = R at mk g1
        have hz2 : ∀ c' : AV, (AV.own 4 (H.length + 2) 0 0 es.length).cl = some [.own 4 (H.length + 2) 0 0 es.length] := fun _ => rfl
        have hds : ∀ h0 : List AO, (H ++ (.box 24 [.v (.int .i64 k), .v (.string s), .v (.int .i64 n'), .own 4 (H.length + 2) 0 0 es.length] :: .box 24 [.v (.int .i64 k), .v (.string s), .v (.int .i64 n'), .own 4 (H.length + 2) 0 0 es.length] :: .row 24 4 0 ds' 0 :: tail'))[H.length + 2]? = some (.row 24 4 0 ds' 0) := fun _ => obj_get rfl
        refine ⟨.agg [.v (.int .i64 k), .v (.string s), .v (.int .i64 n'), .slc 4 false false ds'], .mk _ _ _ _ _ (.slc _ _ _ _ (by simpa using g2) (by omega)), ?_⟩
        generalize hrest : (CC.seq (.region [] [] c55_13) (.seq (.region [] [] c55_14) .ret)) = rest
        simp only [zeroC] at mk g1
        simp only [zeroC, c55_3, c55_6, c55_7, h1, hs.len, mk, e_mkslice, h_ld, h_ld0, h_st, h_st0, h_bx, ldAt, stAt, preH_some, List.append_assoc, Q104, Q105, bs1, bs2, Q106, Q107, Q108, Q109, bd1, Q110, Q111, toL, List.map_cons, List.map_nil, Q112, List.set_cons_zero, List.set_cons_succ, and_self, Nat.le_refl, Q114, Q115, Q116, Q0, Q1, Q2, Q3, Q4, Q5, Q6, Q7, Q8, Q9, Q10, Q11, Q12, Q13, Q14, Q15, Q16, Q17, Q18, Q19, Q20, Q21, Q22, Q23, Q24, Q25, Q26, Q27, Q28, Q29, Q30, Q31, Q32, Q33, Q35, Q36, Q37, Q38, Q39, Q40, Q41, Q42, Q43, Q44, Q45, Q46, Q47, Q48, Q49, Q50, Q51, Q52, Q53, Q54, Q55, Q56, Q57, Q58, Q59, Q60, Q61, Q62, Q63, Q64, Q65, Q66, Q67, Q68, Q69, Q70, Q71, Q72, Q73, Q99, Q100, Q101, Q102, Q103, Q74, Q75, Q77, Q78, Q79, Q80, Q81, Q82, Q83, Q84, clr, List.length_nil, List.length_cons, List.getElem?_cons_zero, List.getElem?_cons_succ, Nat.reduceAdd, Nat.zero_add, Nat.add_zero, Nat.reduceLeDiff, Nat.reduceSub, ↓reduceIte, List.drop_succ_cons, List.drop_zero, List.take_succ_cons, List.take_zero, Bool.false_eq_true, List.nil_append, List.cons_append, Bool.not_true, Bool.not_false, cond_true, cond_false, bne, Q85, Q86, Q87, Q88, Q89, Q90, Q91, Q92, Q93, Q94, Q95, Q96, Q97, Q98]
        rw [loop_cong (v2 := L49c H.length es.length c ((0 : Nat) : Int)) (by rfl), g1, ← hrest]
        simp only [c55_13, c55_14, hz2 .junk, h_ld, h_ld0, h_st, h_st0, h_bx, ldAt, stAt, preH_some, List.append_assoc, Q104, Q105, bs1, bs2, Q106, Q107, Q108, Q109, bd1, Q110, Q111, toL, List.map_cons, List.map_nil, Q112, List.set_cons_zero, List.set_cons_succ, and_self, Nat.le_refl, Q114, Q115, Q116, Q0, Q1, Q2, Q3, Q4, Q5, Q6, Q7, Q8, Q9, Q10, Q11, Q12, Q13, Q14, Q15, Q16, Q17, Q18, Q19, Q20, Q21, Q22, Q23, Q24, Q25, Q26, Q27, Q28, Q29, Q30, Q31, Q32, Q33, Q35, Q36, Q37, Q38, Q39, Q40, Q41, Q42, Q43, Q44, Q45, Q46, Q47, Q48, Q49, Q50, Q51, Q52, Q53, Q54, Q55, Q56, Q57, Q58, Q59, Q60, Q61, Q62, Q63, Q64, Q65, Q66, Q67, Q68, Q69, Q70, Q71, Q72, Q73, Q99, Q100, Q101, Q102, Q103, Q74, Q75, Q77, Q78, Q79, Q80, Q81, Q82, Q83, Q84, clr, List.length_nil, List.length_cons, List.getElem?_cons_zero, List.getElem?_cons_succ, Nat.reduceAdd, Nat.zero_add, Nat.add_zero, Nat.reduceLeDiff, Nat.reduceSub, ↓reduceIte, List.drop_succ_cons, List.drop_zero, List.take_succ_cons, List.take_zero, Bool.false_eq_true, List.nil_append, List.cons_append, Bool.not_true, Bool.not_false, cond_true, cond_false, bne, Q85, Q86, Q87, Q88, Q89, Q90, Q91, Q92, Q93, Q94, Q95, Q96, Q97, Q98]
        rw [leave_own rfl hb, hres, own_res1 (x := .agg [.v (.int .i64 k), .v (.string s), .v (.int .i64 n'), .own 4 (H.length + 2) 0 0 es.length]) _]
        · refine lvo_one ?_
          have hn : ¬ (H.length + 2 < H.length) := by omega
          simp [AV.frz2, AV.frz1, AV.frz0, hn, rowAt, hds [], g3]
          rw [← g3]; simp
        · simp only [Q91, h_ld, ldAt, Q104, Q105, bs1, bs2, Q106, Q107, Q108, Q109, bd1, Q110, Q111, toL, List.map_cons, List.map_nil, Q112, List.set_cons_zero, List.set_cons_succ, and_self, Nat.le_refl, Q114, Q115, Q116, Q0, Q1, Q2, Q3, Q4, Q5, Q6, Q7, Q8, Q9, Q10, Q11, Q12, Q13, Q14, Q15, Q16, Q17, Q18, Q19, Q20, Q21, Q22, Q23, Q24, Q25, Q26, Q27, Q28, Q29, Q30, Q31, Q32, Q33, Q35, Q36, Q37, Q38, Q39, Q40, Q41, Q42, Q43, Q44, Q45, Q46, Q47, Q48, Q49, Q50, Q51, Q52, Q53, Q54, Q55, Q56, Q57, Q58, Q59, Q60, Q61, Q62, Q63, Q64, Q65, Q66, Q67, Q68, Q69, Q70, Q71, Q72, Q73, Q99, Q100, Q101, Q102, Q103, Q74, Q75, Q77, Q78, Q79, Q80, Q81, Q82, Q83, Q84, clr, List.length_nil, List.length_cons, List.getElem?_cons_zero, List.getElem?_cons_succ, Nat.reduceAdd, Nat.zero_add, Nat.add_zero, Nat.reduceLeDiff, Nat.reduceSub, ↓reduceIte, List.drop_succ_cons, List.drop_zero, List.take_succ_cons, List.take_zero, Bool.false_eq_true, List.nil_append, List.cons_append, Bool.not_true, Bool.not_false, cond_true, cond_false, bne, Q85, Q86, Q87, Q88, Q89, Q90, Q91, Q92, Q93, Q94, Q95, Q96, Q97, Q98]
    have hstart : ∀ (r : AV) , leave H.length c55 (exec (callW F) (l.length + 1) (.seq (.region [] [] c55_0) (.seq (.seq (.region [] [] c55_1) (.cond (.var 7) (.region [] [] c55_2) .skip)) (.seq (.seq (.region [] [] c55_3) (.cond (.var 8) (.seq (.region [] [] c55_4) (.seq (.region [] [] c55_5) .ret)) .skip)) (.seq (.region [] [] c55_6) (.seq (.seq (.region [] [] c55_7) (.block 0 (.loop K49 [] c55_12))) (.seq (.region [] [] c55_13) (.seq (.region [] [] c55_14) .ret))))))) (start c55 [.agg [.v (.int .i64 k), .v (.string s), .v (.int .i64 n), c], fnC]) (H ++ [])) = some (r, H) → callW F 55 [.agg [.v (.int .i64 k), .v (.string s), .v (.int .i64 n), c], fnC] H = some (r, H) :=
      fun r hr => callW_own (c := c55) rfl rfl (l.length + 1) hr
    by_cases hk : k = 1
    · have h1 : (k == 1) = true := by simpa using hk
      obtain ⟨r, hr, hlv⟩ := rest (n) (.agg [.v (.int .i64 k), .v (.string s), .v (.int .i64 n), c]) true
      refine ⟨r, hr, hstart r ?_⟩
      rw [← hlv]
      generalize (CC.seq (.seq (.region [] [] c55_3) (.cond (.var 8) (.seq (.region [] [] c55_4) (.seq (.region [] [] c55_5) .ret)) .skip)) (.seq (.region [] [] c55_6) (.seq (.seq (.region [] [] c55_7) (.block 0 (.loop K49 [] c55_12))) (.seq (.region [] [] c55_13) (.seq (.region [] [] c55_14) .ret))))) = rest'
      have hb2 : (H ++ [.box 24 [.v (.int .i64 k), .v (.string s), .v (.int .i64 n), c], .box 24 zeroC] : List AO).all (AO.below (H ++ [.box 24 [.v (.int .i64 k), .v (.string s), .v (.int .i64 n), c], .box 24 zeroC] : List AO).length) = true := by
        rw [List.all_append, Bool.and_eq_true]
        refine ⟨all_below_mono (by simp) hb, all_below_mono (Nat.zero_le _) ?_⟩
        have hz : (AO.box 24 zeroC).below 0 = true := rfl
        simp only [AV.cells] at hbela
        have hbela : AO.below 0 (.box 24 [.v (.int .i64 k), .v (.string s), .v (.int .i64 n), c]) = true := hbela
        simp only [List.all_cons, List.all_nil, hbela, hz, Bool.and_true]
      have ht := turnc_ok hb2 n
      simp only [zeroC] at ht
      simp only [start49, fnC, zeroC, c55_0, c55_1, c55_2, h1, ht, q9z, e_callv, cv_fn, h_ld, h_ld0, h_st, h_st0, h_bx, ldAt, stAt, preH_some, List.append_assoc, Q104, Q105, bs1, bs2, Q106, Q107, Q108, Q109, bd1, Q110, Q111, toL, List.map_cons, List.map_nil, Q112, List.set_cons_zero, List.set_cons_succ, and_self, Nat.le_refl, Q114, Q115, Q116, Q0, Q1, Q2, Q3, Q4, Q5, Q6, Q7, Q8, Q9, Q10, Q11, Q12, Q13, Q14, Q15, Q16, Q17, Q18, Q19, Q20, Q21, Q22, Q23, Q24, Q25, Q26, Q27, Q28, Q29, Q30, Q31, Q32, Q33, Q35, Q36, Q37, Q38, Q39, Q40, Q41, Q42, Q43, Q44, Q45, Q46, Q47, Q48, Q49, Q50, Q51, Q52, Q53, Q54, Q55, Q56, Q57, Q58, Q59, Q60, Q61, Q62, Q63, Q64, Q65, Q66, Q67, Q68, Q69, Q70, Q71, Q72, Q73, Q99, Q100, Q101, Q102, Q103, Q74, Q75, Q77, Q78, Q79, Q80, Q81, Q82, Q83, Q84, clr, List.length_nil, List.length_cons, List.getElem?_cons_zero, List.getElem?_cons_succ, Nat.reduceAdd, Nat.zero_add, Nat.add_zero, Nat.reduceLeDiff, Nat.reduceSub, ↓reduceIte, List.drop_succ_cons, List.drop_zero, List.take_succ_cons, List.take_zero, Bool.false_eq_true, List.nil_append, List.cons_append, Bool.not_true, Bool.not_false, cond_true, cond_false, bne, Q85, Q86, Q87, Q88, Q89, Q90, Q91, Q92, Q93, Q94, Q95, Q96, Q97, Q98]
    · have h1 : (k == 1) = false := by simpa using hk
      obtain ⟨r, hr, hlv⟩ := rest n (.agg [.v (.int .i64 k), .v (.string s), .v (.int .i64 n), c]) false
      refine ⟨r, hr, hstart r ?_⟩
      rw [← hlv]
      generalize (CC.seq (.seq (.region [] [] c55_3) (.cond (.var 8) (.seq (.region [] [] c55_4) (.seq (.region [] [] c55_5) .ret)) .skip)) (.seq (.region [] [] c55_6) (.seq (.seq (.region [] [] c55_7) (.block 0 (.loop K49 [] c55_12))) (.seq (.region [] [] c55_13) (.seq (.region [] [] c55_14) .ret))))) = rest'
      simp only [start49, fnC, zeroC, c55_0, c55_1, h1, q9z, h_ld, h_ld0, h_st, h_st0, h_bx, ldAt, stAt, preH_some, List.append_assoc, Q104, Q105, bs1, bs2, Q106, Q107, Q108, Q109, bd1, Q110, Q111, toL, List.map_cons, List.map_nil, Q112, List.set_cons_zero, List.set_cons_succ, and_self, Nat.le_refl, Q114, Q115, Q116, Q0, Q1, Q2, Q3, Q4, Q5, Q6, Q7, Q8, Q9, Q10, Q11, Q12, Q13, Q14, Q15, Q16, Q17, Q18, Q19, Q20, Q21, Q22, Q23, Q24, Q25, Q26, Q27, Q28, Q29, Q30, Q31, Q32, Q33, Q35, Q36, Q37, Q38, Q39, Q40, Q41, Q42, Q43, Q44, Q45, Q46, Q47, Q48, Q49, Q50, Q51, Q52, Q53, Q54, Q55, Q56, Q57, Q58, Q59, Q60, Q61, Q62, Q63, Q64, Q65, Q66, Q67, Q68, Q69, Q70, Q71, Q72, Q73, Q99, Q100, Q101, Q102, Q103, Q74, Q75, Q77, Q78, Q79, Q80, Q81, Q82, Q83, Q84, clr, List.length_nil, List.length_cons, List.getElem?_cons_zero, List.getElem?_cons_succ, Nat.reduceAdd, Nat.zero_add, Nat.add_zero, Nat.reduceLeDiff, Nat.reduceSub, ↓reduceIte, List.drop_succ_cons, List.drop_zero, List.take_succ_cons, List.take_zero, Bool.false_eq_true, List.nil_append, List.cons_append, Bool.not_true, Bool.not_false, cond_true, cond_false, bne, Q85, Q86, Q87, Q88, Q89, Q90, Q91, Q92, Q93, Q94, Q95, Q96, Q97, Q98]


theorem copy_ok {t : Tm} {a : AV} (hsz : size t ≤ 100000) (ha : IsT a t) : ∃ r, IsT r t ∧ callW F 24 [a] [] = some (r, []) := by
  have hb : ([.box 24 a.cells, .box 24 zeroC] : List AO).all (AO.below 2) = true := by
    have : AO.below 2 (.box 24 a.cells) = true := below_mono (Nat.zero_le 2) _ ha.bel
    simp only [List.all_cons, List.all_nil, this, Bool.and_true]; rfl
  obtain ⟨r, hr, hc⟩ := eachc _ t a [.box 24 a.cells, .box 24 zeroC] (Nat.lt_succ_self _) hsz ha hb
  refine ⟨r, hr, callW_pure (c := c24) rfl rfl 0 ?_⟩
  have g := lv1 hr
  have ha2 := ha
  cases ha
  cases hr
  simp only [AV.cells, zeroC, fnC] at hc
  have gf : ∀ vars env : List AV, getO vars env (.fn 57) = .fn (.func 57) [] [] := fun _ _ => rfl
  simp only [c24, start, List.replicate, c24_0, c24_1, gf, hc, g, e_mkfn, e_callh, q9z, Q104, Q105, bs1, bs2, Q106, Q107, Q108, Q109, bd1, Q110, Q111, toL, List.map_cons, List.map_nil, Q112, List.set_cons_zero, List.set_cons_succ, and_self, Nat.le_refl, Q113, Q114, Q115, Q116, Q0, Q1, Q2, Q3, Q4, Q5, Q6, Q7, Q8, Q9, Q10, Q11, Q12, Q13, Q14, Q15, Q16, Q17, Q18, Q19, Q20, Q21, Q22, Q23, Q24, Q25, Q26, Q27, Q28, Q29, Q30, Q31, Q32, Q33, Q34, Q35, Q36, Q37, Q38, Q39, Q40, Q41, Q42, Q43, Q44, Q45, Q46, Q47, Q48, Q49, Q50, Q51, Q52, Q53, Q54, Q55, Q56, Q57, Q58, Q59, Q60, Q61, Q62, Q63, Q64, Q65, Q66, Q67, Q68, Q69, Q70, Q71, Q72, Q73, Q99, Q100, Q101, Q102, Q103, Q74, Q75, Q76, Q77, Q78, Q79, Q80, Q81, Q82, Q83, Q84, clr, List.length_nil, List.length_cons, List.getElem?_cons_zero, List.getElem?_cons_succ, Nat.reduceAdd, Nat.zero_add, Nat.add_zero, Nat.reduceLeDiff, Nat.reduceSub, ↓reduceIte, List.drop_succ_cons, List.drop_zero, List.take_succ_cons, List.take_zero, Bool.false_eq_true, List.nil_append, List.cons_append, Bool.not_true, Bool.not_false, cond_true, cond_false, bne, Q85, Q86, Q87, Q88, Q89, Q90, Q91, Q92, Q93, Q94, Q95, Q96, Q97, Q98]
end
end Go.AE.YtgcbaefclkfnoaaDoor
end

/-! Terms that come in: their numbers are int64. -/
section
set_option linter.unusedVariables false
set_option linter.unusedSimpArgs false
namespace Go.AE.YtgcbaefclkfnoaaDoor
open Go Go.AE Go.Proofs.YtgcbaefclkfnoaaDoor

/-! ### Numbers that are int64 -/
def rg (n : Int) : Prop := -9223372036854775808 ≤ n ∧ n ≤ 9223372036854775807
mutual
def rgT : Tm → Prop
  | .mk _ _ n l => rg n ∧ rgL l
def rgL : List Tm → Prop
  | [] => True
  | t :: l => rgT t ∧ rgL l
end
theorem rg_of {n : Int} (h : (Lit.int .i64 n).wf = true) : rg n := by
  simp only [Lit.wf, Bool.and_eq_true, decide_eq_true_eq] at h
  exact h
theorem all2_rg : ∀ {l : List AV}, (∀ el ∈ l, ∃ t, IsT el t ∧ rgT t) → ∃ ts, All2 l ts ∧ rgL ts
  | [], _ => ⟨[], .nil, by simp [rgL]⟩
  | a :: l, h => by
    obtain ⟨t, ht, h1⟩ := h a (by simp)
    obtain ⟨ts, hts, h2⟩ := all2_rg (l := l) (fun el hm => h el (by simp [hm]))
    exact ⟨t :: ts, .cons a t l ts ht hts, by rw [rgL]; exact ⟨h1, h2⟩⟩
theorem good_rg : ∀ {t : TypeId} {cs : List AV}, WT T t cs → (t = 24 → ∃ x, IsT (.agg cs) x ∧ rgT x) ∧ (t = 22 → ∃ c l, cs = [c] ∧ IsL c l ∧ rgL l) := by
  obtain ⟨xt, f0, f1, f2, f3, ht1, ht2, e0, e1, e2, e3, hsz, hag⟩ := tmTy.t
  obtain ⟨xl, hl1, hl2⟩ := tmTy.l
  obtain ⟨xi, hi1, hi2⟩ := tmTy.i
  obtain ⟨xs, hs1, hs2⟩ := tmTy.s
  obtain ⟨xn, hn1, hn2⟩ := tmTy.n
  intro t cs w
  induction w with
  | bool t i b ht hd => exact ⟨(by rintro rfl; rw [ht1] at ht; cases ht; rw [ht2] at hd; cases hd), (by rintro rfl; rw [hl1] at ht; cases ht; rw [hl2] at hd; cases hd)⟩
  | int t i k n ht hd hw => exact ⟨(by rintro rfl; rw [ht1] at ht; cases ht; rw [ht2] at hd; cases hd), (by rintro rfl; rw [hl1] at ht; cases ht; rw [hl2] at hd; cases hd)⟩
  | str t i s ht hd hs => exact ⟨(by rintro rfl; rw [ht1] at ht; cases ht; rw [ht2] at hd; cases hd), (by rintro rfl; rw [hl1] at ht; cases ht; rw [hl2] at hd; cases hd)⟩
  | nil t i e ht hd => exact ⟨(by rintro rfl; rw [ht1] at ht; cases ht; rw [ht2] at hd; cases hd), fun _ => ⟨_, [], rfl, .nil, by simp [rgL]⟩⟩
  | slc t i e j l ht hd he hl hel has ih =>
    refine ⟨(by rintro rfl; rw [ht1] at ht; cases ht; rw [ht2] at hd; cases hd), ?_⟩
    rintro rfl
    rw [hl1] at ht; cases ht; rw [hl2] at hd; cases hd
    rw [ht1] at he; cases he
    obtain ⟨ts, hts, hr⟩ := all2_rg (l := l) (fun el hm => by
      obtain ⟨x, hx, hr⟩ := (ih el hm).1 rfl
      have := has el hm
      rw [hag] at this
      rw [← agg_cells this] at hx
      exact ⟨x, hx, hr⟩)
    rw [hsz]
    exact ⟨_, ts, rfl, .slc _ _ _ _ hts hl, hr⟩
  | struct t i fs pts ht hd hlen hf ih =>
    refine ⟨?_, (by rintro rfl; rw [hl1] at ht; cases ht; rw [hl2] at hd; cases hd)⟩
    rintro rfl
    rw [ht1] at ht; cases ht; rw [ht2] at hd; cases hd
    match pts, hlen, hf, ih with
    | [a, b, c, d], _, hf, ih =>
      have w0 := hf 0 f0 a rfl rfl
      have w1 := hf 1 f1 b rfl rfl
      have w2 := hf 2 f2 c rfl rfl
      have w3 := (ih 3 f3 d rfl rfl).2 e3
      rw [e0] at w0; rw [e1] at w1; rw [e2] at w2
      obtain ⟨k, rfl, _⟩ := wt_int_of hi1 hi2 w0
      obtain ⟨s, rfl, _⟩ := wt_str_of hs1 hs2 w1
      obtain ⟨n, rfl, hn⟩ := wt_int_of hn1 hn2 w2
      obtain ⟨x, l, rfl, hx, hr⟩ := w3
      exact ⟨_, .mk k s n x l hx, by rw [rgT]; exact ⟨rg_of hn, hr⟩⟩
theorem term_rg {a : AV} (w : WT T 24 a.cells) (e : Q77 ti24.agg a.cells = some a) : ∃ p, IsT a p ∧ rgT p := by
  obtain ⟨x, hx⟩ := (good_rg w).1 rfl
  rw [agg_cells e]; exact ⟨x, hx⟩

end Go.AE.YtgcbaefclkfnoaaDoor
end

/-! Compare's plain law: an order. TermOrders in plain Lean. -/
section
set_option linter.unusedVariables false
set_option linter.unusedSimpArgs false
namespace Go.AE.YtgcbaefclkfnoaaDoor
open Go Go.AE Go.Proofs.YtgcbaefclkfnoaaDoor

end Go.AE.YtgcbaefclkfnoaaDoor
end

/-! TermTurns in plain Lean. -/
section
set_option linter.unusedVariables false
set_option linter.unusedSimpArgs false
namespace Go.AE.YtgcbaefclkfnoaaDoor
open Go Go.AE Go.Proofs.YtgcbaefclkfnoaaDoor

/-! ### Shifted terms -/
theorem wrap_eq (n : Int) : IntKind.i64.wrap n = if n % 18446744073709551616 ≥ 9223372036854775808 then n % 18446744073709551616 - 18446744073709551616 else n % 18446744073709551616 := by
  simp [IntKind.wrap, IntKind.bits, IntKind.signed]
mutual
theorem places_rg : ∀ t : Tm, rgT t → ∀ n ∈ placesT t, rg n
  | .mk k s n l, h, m, hm => by
    rw [rgT] at h
    rw [placesT, List.mem_append] at hm
    rcases hm with hm | hm
    · split at hm
      · simp at hm; rw [hm]; exact h.1
      · simp at hm
    · exact placesL_rg l h.2 m hm
theorem placesL_rg : ∀ l : List Tm, rgL l → ∀ n ∈ placesL l, rg n
  | [], _, m, hm => by simp [placesL] at hm
  | t :: l, h, m, hm => by
    rw [rgL] at h
    rw [placesL, List.mem_append] at hm
    rcases hm with hm | hm
    · exact places_rg t h.1 m hm
    · exact placesL_rg l h.2 m hm
end
end Go.AE.YtgcbaefclkfnoaaDoor
end

/-! A term's variables, shifted: plain. -/
section
set_option linter.unusedVariables false
set_option linter.unusedSimpArgs false
namespace Go.AE.YtgcbaefclkfnoaaDoor
open Go Go.AE Go.Proofs.YtgcbaefclkfnoaaDoor

mutual
theorem plc_eq : ∀ t : Tm, plcT t = placesT t
  | .mk k s n l => by rw [plcT, placesT, plcL_eq l]
theorem plcL_eq : ∀ l : List Tm, plcL l = placesL l
  | [] => by rw [plcL, placesL]
  | t :: l => by rw [plcL, placesL, plc_eq t, plcL_eq l]
end
theorem wrap_rg {n : Int} (h : rg n) : IntKind.i64.wrap n = n := by rw [wrap_eq]; unfold rg at h; split <;> omega
mutual
theorem ok_of : ∀ t : Tm, rgT t → size t ≤ 1000000 → okT t
  | .mk k s n l, h, hs => by
    rw [rgT] at h
    rw [size] at hs
    have := sizeL_len l
    rw [okT]
    exact ⟨wrap_rg h.1, by omega, okL_of l h.2 (by omega)⟩
theorem okL_of : ∀ l : List Tm, rgL l → sizeL l ≤ 1000000 → okL l
  | [], _, _ => by rw [okL]; trivial
  | t :: l, h, hs => by
    rw [rgL] at h
    rw [sizeL] at hs
    rw [okL]
    exact ⟨ok_of t h.1 (by omega), okL_of l h.2 (by omega)⟩
end
mutual
theorem plc_size : ∀ t : Tm, (plcT t).length ≤ size t
  | .mk k s n l => by
    rw [plcT, size, List.length_append]
    have := plcL_size l
    split
    · simp; omega
    · simp; omega
theorem plcL_size : ∀ l : List Tm, (plcL l).length ≤ sizeL l
  | [] => by rw [plcL, sizeL]; simp
  | t :: l => by
    rw [plcL, sizeL, List.length_append]
    have := plc_size t
    have := plcL_size l
    omega
end
/-! ### each once -/
theorem uq_plain {l : List Int} (h : ∀ n ∈ l, rg n) : uq l = l.foldl addq [] := by
  unfold uq
  have key : ∀ (l acc : List Int), (∀ n ∈ l, rg n) → l.foldl (fun out x => addq out (IntKind.i64.wrap x)) acc = l.foldl addq acc := by
    intro l
    induction l with
    | nil => intro acc _; rfl
    | cons x r ih =>
      intro acc h
      rw [List.foldl_cons, List.foldl_cons, wrap_rg (h x (by simp)), ih _ (fun n hn => h n (by simp [hn]))]
  exact key l [] h
theorem numsA_sl (l : List Int) : Sl 1 (numsA l) (l.map fun n => .v (.int .i64 n)) := by
  cases l with
  | nil => exact .nil
  | cons x r => exact .slc _ _ _
mutual
theorem size_eq : ∀ t : Tm, Go.AE.size t = size t
  | .mk k s n l => by rw [Go.AE.size, size, sizeL_eq l]
theorem sizeL_eq : ∀ l : List Tm, Go.AE.sizeL l = sizeL l
  | [] => by rw [Go.AE.sizeL, sizeL]
  | t :: l => by rw [Go.AE.sizeL, sizeL, size_eq t, sizeL_eq l]
end
theorem vars32 {t : Tm} {a : AV} (ha : IsT a t) (hr : rgT t) (hs : size t ≤ 100000) : callW F 32 [a] [] = some (numsA (uq (plcT t)), []) := by
  refine callW_oracle (g := varsG) rfl ?_
  have h1 := toT_of 1000000 a t ha (ok_of t hr (by omega)) (by rw [size_eq]; omega)
  have h2 := plc_size t
  simp only [varsG, h1]
  rw [if_pos (by omega)]
end Go.AE.YtgcbaefclkfnoaaDoor
end

/-! The document's Vars, SameNums and Copy walked. -/
section
set_option linter.unusedVariables false
set_option linter.unusedSimpArgs false
namespace Go.AE.YtgcbaefclkfnoaaDoor
open Go Go.AE Go.Proofs.YtgcbaefclkfnoaaDoor

theorem rvars_loop {K : Nat} {c : AV} {es : List AV} (hs : Sl 1 c es) (hm : es.length ≤ 100000) :
    ∀ (l : List Int) (i : Nat) (acc : AV) (p : List Int) (h : List AO) (vars : List AV), i + l.length = es.length → p.length ≤ i → es.drop i = l.map iv →
      Acc 2 1 h acc (p.map iv) → clr K19v vars = L19v acc c es.length i →
      ∃ acc' h' x4 x8 x9, loopN (exec (callW F) K c33_8) K19v (l.length + 1) vars h = some (.exit 0, [.junk, .junk, .junk, acc', x4, c, .v (.int .i64 es.length), .v (.int .i64 es.length), x8, x9], h') ∧ Acc 2 1 h' acc' ((l.foldl addNew p).map iv) := by
  intro l
  induction l with
  | nil =>
    intro i acc p h vars hi hp _ ha hv
    have hil : i = es.length := by simpa using hi
    subst hil
    have hlt : decide ((es.length : Int) < (es.length : Int)) = false := by simp
    refine ⟨acc, h, .junk, .v (.bool false), .junk, loop_exit ?_, ha⟩
    rw [hv]
    simp only [L19v, c33_8, c33_3, hlt, Q104, Q105, bs1, bs2, Q106, Q107, Q108, Q109, bd1, Q110, Q111, toL, List.map_cons, List.map_nil, Q112, List.set_cons_zero, List.set_cons_succ, and_self, Nat.le_refl, Q114, Q115, Q116, Q0, Q1, Q2, Q3, Q4, Q5, Q6, Q7, Q8, Q9, Q10, Q11, Q12, Q13, Q14, Q15, Q16, Q17, Q18, Q19, Q20, Q21, Q22, Q23, Q24, Q25, Q26, Q27, Q28, Q29, Q30, Q31, Q32, Q33, Q34, Q35, Q36, Q37, Q38, Q39, Q40, Q41, Q42, Q43, Q44, Q45, Q46, Q47, Q48, Q49, Q50, Q51, Q52, Q53, Q54, Q55, Q56, Q57, Q58, Q59, Q60, Q61, Q62, Q63, Q64, Q65, Q66, Q67, Q68, Q69, Q70, Q71, Q72, Q73, Q99, Q100, Q101, Q102, Q103, Q74, Q75, Q77, Q78, Q79, Q80, Q81, Q82, Q83, Q84, clr, List.length_nil, List.length_cons, List.getElem?_cons_zero, List.getElem?_cons_succ, Nat.reduceAdd, Nat.zero_add, Nat.add_zero, Nat.reduceLeDiff, Nat.reduceSub, ↓reduceIte, List.drop_succ_cons, List.drop_zero, List.take_succ_cons, List.take_zero, Bool.false_eq_true, List.nil_append, List.cons_append, Bool.not_true, Bool.not_false, cond_true, cond_false, bne, Q85, Q86, Q87, Q88, Q89, Q90, Q91, Q92, Q93, Q94, Q95, Q96, Q97, Q98]
  | cons n l ih =>
    intro i acc p h vars hi hp hes ha hv
    have hil : i < es.length := by simp at hi; omega
    have he : es[i]? = some (iv n) := by
      have : (es.drop i)[0]? = some (iv n) := by rw [hes]; rfl
      simpa using this
    have hd : es.drop (i + 1) = l.map iv := by
      have h2 := congrArg List.tail hes
      simpa using h2
    have hlt : (decide ((i : Int) < (es.length : Int))) = true := by simp; omega
    have q1 := hs.ia he
    obtain ⟨f1, f2, c', f3, f4⟩ := ha.fix
    have hc := has_ok f4 (by omega) n
    have hcf : cf (callW F) 59 h [acc, .v (.int .i64 n)] = some (.v (.bool (p.contains n)), raise1 h acc) := by
      refine cf_of (vs := [c', .v (.int .i64 n)]) rfl ?_ hc
      show ([acc, AV.v (.int .i64 n)] : List AV).mapM (AV.snap1 (raise1 h acc)) = _
      simp [f3, snap_int]
    have hmax : es.length ≤ maxLen := small_max hm
    rw [show (n :: l).length + 1 = (l.length + 1) + 1 from rfl, List.foldl_cons]
    have q3 : ∀ h, Q76 h false 1 (.ip [.v (.int .i64 n)]) = some (.v (.int .i64 n)) := fun _ => rfl
    cases hh : p.contains n with
    | true =>
      rw [hh] at hcf
      have st : exec (callW F) K c33_8 (L19v acc c es.length i) h = some (.normal, [.junk, .junk, .junk, acc, .v (.int .i64 n), c, .v (.int .i64 es.length), .v (.int .i64 ((i + 1 : Nat) : Int)), .v (.bool true), .v (.bool false)], raise1 h acc) := by
        simp only [L19v, iv, AV.cells, c33_8, c33_3, c33_4, c33_5, c33_7, hlt, wrap_succ hil hmax, q1, q3, hcf, e_callf, List.map_cons, List.map_nil, snap_int, Q104, Q105, bs1, bs2, Q106, Q107, Q108, Q109, bd1, Q110, Q111, toL, List.map_cons, List.map_nil, Q112, List.set_cons_zero, List.set_cons_succ, and_self, Nat.le_refl, Q114, Q115, Q116, Q0, Q1, Q2, Q3, Q4, Q5, Q6, Q7, Q8, Q9, Q10, Q11, Q12, Q13, Q14, Q15, Q16, Q17, Q18, Q19, Q20, Q21, Q22, Q23, Q24, Q25, Q26, Q27, Q28, Q29, Q30, Q31, Q32, Q33, Q34, Q35, Q36, Q37, Q38, Q39, Q40, Q41, Q42, Q43, Q44, Q45, Q46, Q47, Q48, Q49, Q50, Q51, Q52, Q53, Q54, Q55, Q56, Q57, Q58, Q59, Q60, Q61, Q62, Q63, Q64, Q65, Q66, Q67, Q68, Q69, Q70, Q71, Q72, Q73, Q99, Q100, Q101, Q102, Q103, Q74, Q75, Q77, Q78, Q79, Q80, Q81, Q82, Q83, Q84, clr, List.length_nil, List.length_cons, List.getElem?_cons_zero, List.getElem?_cons_succ, Nat.reduceAdd, Nat.zero_add, Nat.add_zero, Nat.reduceLeDiff, Nat.reduceSub, ↓reduceIte, List.drop_succ_cons, List.drop_zero, List.take_succ_cons, List.take_zero, Bool.false_eq_true, List.nil_append, List.cons_append, Bool.not_true, Bool.not_false, cond_true, cond_false, bne, Q85, Q86, Q87, Q88, Q89, Q90, Q91, Q92, Q93, Q94, Q95, Q96, Q97, Q98]
      rw [loop_normal (by rw [hv]; exact st)]
      have e : addNew p n = p := by simp only [addNew, hh, if_true]
      rw [e]
      exact ih (i + 1) acc p _ _ (by simp at hi; omega) (by omega) hd f1 rfl
    | false =>
      rw [hh] at hcf
      obtain ⟨acc', h2, h3, h4, h5⟩ := f1.add (x := .slc 1 true true [.v (.int .i64 n)]) (ys := [.v (.int .i64 n)]) (bytes := 8) elems_one (by
        have : room = 140737488355328 := rfl
        simp only [fits, List.length_map, List.length_cons, List.length_nil, decide_eq_true_eq]; omega)
      have st : exec (callW F) K c33_8 (L19v acc c es.length i) h = some (.normal, [.junk, .junk, .junk, acc', .v (.int .i64 n), c, .v (.int .i64 es.length), .v (.int .i64 ((i + 1 : Nat) : Int)), .v (.bool true), .v (.bool true)], h2) := by
        simp only [L19v, iv, AV.cells, c33_8, c33_3, c33_4, c33_5, c33_6, c33_7, hlt, wrap_succ hil hmax, q1, q3, hcf, e_callf, List.map_cons, List.map_nil, h3, snap_int, e_append, bs1_some (y := .v (.int .i64 n)) (sz := 1) Q111 rfl, Q104, Q105, bs1, bs2, Q106, Q107, Q108, Q109, bd1, Q110, Q111, toL, List.map_cons, List.map_nil, Q112, List.set_cons_zero, List.set_cons_succ, and_self, Nat.le_refl, Q114, Q115, Q116, Q0, Q1, Q2, Q3, Q4, Q5, Q6, Q7, Q8, Q9, Q10, Q11, Q12, Q13, Q14, Q15, Q16, Q17, Q18, Q19, Q20, Q21, Q22, Q23, Q24, Q25, Q26, Q27, Q28, Q29, Q30, Q31, Q32, Q33, Q34, Q35, Q36, Q37, Q38, Q39, Q40, Q41, Q42, Q43, Q44, Q45, Q46, Q47, Q48, Q49, Q50, Q51, Q52, Q53, Q54, Q55, Q56, Q57, Q58, Q59, Q60, Q61, Q62, Q63, Q64, Q65, Q66, Q67, Q68, Q69, Q70, Q71, Q72, Q73, Q99, Q100, Q101, Q102, Q103, Q74, Q75, Q77, Q78, Q79, Q80, Q81, Q82, Q83, Q84, clr, List.length_nil, List.length_cons, List.getElem?_cons_zero, List.getElem?_cons_succ, Nat.reduceAdd, Nat.zero_add, Nat.add_zero, Nat.reduceLeDiff, Nat.reduceSub, ↓reduceIte, List.drop_succ_cons, List.drop_zero, List.take_succ_cons, List.take_zero, Bool.false_eq_true, List.nil_append, List.cons_append, Bool.not_true, Bool.not_false, cond_true, cond_false, bne, Q85, Q86, Q87, Q88, Q89, Q90, Q91, Q92, Q93, Q94, Q95, Q96, Q97, Q98]
      rw [loop_normal (by rw [hv]; exact st)]
      have e : addNew p n = p ++ [n] := by simp only [addNew, hh]; rfl
      rw [e]
      have h4' : Acc 2 1 h2 acc' ((p ++ [n]).map iv) := by rw [List.map_append]; exact h4
      exact ih (i + 1) acc' (p ++ [n]) h2 _ (by simp at hi; omega) (by simp; omega) hd h4' rfl
theorem rvars_ok {t : Tm} {a : AV} (hsz : size t ≤ 100000) (ha : IsT a t) : ∃ r, Sl 1 r ((varsT t).map iv) ∧ callW F 33 [a] [] = some (r, []) := by
  obtain ⟨c, hs, hc⟩ := places_ok _ t a (Nat.lt_succ_self _) hsz ha
  have hpl := places_len t
  have hlen : ((placesT t).map iv).length = (placesT t).length := by simp
  obtain ⟨acc', h', x4, x8, x9, g1, g2⟩ := rvars_loop (K := (placesT t).length + 1) hs (by omega) (placesT t) 0 (.v (.slice none 0 0)) [] [.box 24 a.cells] (L19v (.v (.slice none 0 0)) c ((placesT t).map iv).length (0 : Nat)) (by simp) (by simp) (by simp) .nil rfl
  obtain ⟨r, g3, g4⟩ := g2.lvf
  refine ⟨r, g4, callW_pure (c := c33) rfl rfl ((placesT t).length + 1) ?_⟩
  have q5 : ∀ h : List AO, a.snap1 h = some a := fun h => ha.snap
  show lv [.var 2] (exec (callW F) ((placesT t).length + 1) (.seq (.region [] [] c33_0) (.seq (.region [] [] c33_1) (.seq (.seq (.region [] [] c33_2) (.block 0 (.loop K19v [] c33_8))) (.seq (.region [] [] c33_9) .ret)))) _ _) = _
  generalize hrest : (CC.seq (.region [] [] c33_9) .ret) = rest
  generalize (placesT t).map iv = qs at hs g1
  cases ha
  simp only [AV.cells] at g1
  simp only [c33, start, List.replicate, c33_0, c33_1, c33_2, hc, q5, hs.len, Q104, Q105, bs1, bs2, Q106, Q107, Q108, Q109, bd1, Q110, Q111, toL, List.map_cons, List.map_nil, Q112, List.set_cons_zero, List.set_cons_succ, and_self, Nat.le_refl, Q113, Q114, Q115, Q116, Q0, Q1, Q2, Q3, Q4, Q5, Q6, Q7, Q8, Q9, Q10, Q11, Q12, Q13, Q14, Q15, Q16, Q17, Q18, Q19, Q20, Q21, Q22, Q23, Q24, Q25, Q26, Q27, Q28, Q29, Q30, Q31, Q32, Q33, Q34, Q35, Q36, Q37, Q38, Q39, Q40, Q41, Q42, Q43, Q44, Q45, Q46, Q47, Q48, Q49, Q50, Q51, Q52, Q53, Q54, Q55, Q56, Q57, Q58, Q59, Q60, Q61, Q62, Q63, Q64, Q65, Q66, Q67, Q68, Q69, Q70, Q71, Q72, Q73, Q99, Q100, Q101, Q102, Q103, Q74, Q75, Q76, Q77, Q78, Q79, Q80, Q81, Q82, Q83, Q84, clr, List.length_nil, List.length_cons, List.getElem?_cons_zero, List.getElem?_cons_succ, Nat.reduceAdd, Nat.zero_add, Nat.add_zero, Nat.reduceLeDiff, Nat.reduceSub, ↓reduceIte, List.drop_succ_cons, List.drop_zero, List.take_succ_cons, List.take_zero, Bool.false_eq_true, List.nil_append, List.cons_append, Bool.not_true, Bool.not_false, cond_true, cond_false, bne, Q85, Q86, Q87, Q88, Q89, Q90, Q91, Q92, Q93, Q94, Q95, Q96, Q97, Q98]
  rw [loop_cong (v2 := L19v (.v (.slice none 0 0)) c qs.length ((0 : Nat) : Int)) (by rfl), g1, ← hrest]
  simp only [Q19, Q12, c33_9, g3, Q0, Q1, Q2, Q3, Q4, Q5, Q6, Q7, Q8, Q9, Q10, Q11, Q12, Q13, Q14, Q15, Q16, Q17, Q18, Q19, Q20, Q21, Q22, Q23, Q24, Q25, Q26, Q27, Q28, Q29, Q30, Q31, Q32, Q33, Q34, Q35, Q36, Q37, Q38, Q39, Q40, Q41, Q42, Q43, Q44, Q45, Q46, Q47, Q48, Q49, Q50, Q51, Q52, Q53, Q54, Q55, Q56, Q57, Q58, Q59, Q60, Q61, Q62, Q63, Q64, Q65, Q66, Q67, Q68, Q69, Q70, Q71, Q72, Q73, Q99, Q100, Q101, Q102, Q103, Q74, Q75, Q77, Q78, Q79, Q80, Q81, Q82, Q83, Q84, clr, List.length_nil, List.length_cons, List.getElem?_cons_zero, List.getElem?_cons_succ, Nat.reduceAdd, Nat.zero_add, Nat.add_zero, Nat.reduceLeDiff, Nat.reduceSub, ↓reduceIte, List.drop_succ_cons, List.drop_zero, List.take_succ_cons, List.take_zero, Bool.false_eq_true, List.nil_append, List.cons_append, Bool.not_true, Bool.not_false, cond_true, cond_false, bne, Q85, Q86, Q87, Q88, Q89, Q90, Q91, Q92, Q93, Q94, Q95, Q96, Q97, Q98]


theorem addNew_q (p : List Int) (n : Int) : addNew p n = addq p n := by
  unfold addNew addq
  by_cases h : n ∈ p
  · rw [if_pos h, if_pos (by simpa using h)]
  · rw [if_neg h, if_neg (by simpa using h)]
theorem varsT_uq {t : Tm} (h : rgT t) : varsT t = uq (plcT t) := by
  rw [plc_eq, uq_plain (places_rg t h)]
  unfold varsT
  have : (addNew : List Int → Int → List Int) = addq := funext fun p => funext fun n => addNew_q p n
  rw [this]
def V31 (A Bv : AV) (n i : Int) (x3 x7 x8 : AV) : List AV := [A, Bv, .junk, x3, .junk, .v (.int .i64 n), .v (.int .i64 i), x7, x8]
def K31 : List Bool := [true, true, false, false, false, true, true, false, false]
theorem nums_ok {A Bv : AV} {l : List Int} (s1 : Sl 1 A (l.map iv)) (s2 : Sl 1 Bv (l.map iv)) (hm : l.length ≤ 100000) : callW F 31 [A, Bv] [] = some (.v (.bool true), []) := by
  obtain ⟨e, v', h', g1, g2, g3⟩ := loop_rule0 (call := callW F) (K := l.length + 1) (b := c31_9) (keep := K31)
    (fun i v h => v = V31 A Bv l.length i .junk .junk .junk ∧ h = [])
    (fun e v h => e = .exit 0 ∧ h = [] ∧ ∃ x3 x8, v = V31 A Bv l.length l.length x3 (.v (.bool false)) x8)
    l.length (m := l.length + 1) (v := [A, Bv, .v (.bool false), .v undef, .v (.bool false), .v (.int .i64 l.length), .v (.int .i64 0), .v undef, .v undef]) (h := []) (by omega) ⟨rfl, rfl⟩ (by
      rintro i v h hi ⟨rfl, rfl⟩
      by_cases hil : i < l.length
      · have hlt := lt_t hil
        have hw := wrap_succ hil (small_max hm)
        have e1 : (l.map iv)[i]? = some (.v (.int .i64 l[i])) := by simp [hil, iv]
        have q1 : ∀ h : List AO, iaV h 1 A (some i) = some (.ip [.v (.int .i64 l[i])]) := fun h => s1.ia e1 h
        have q2 : ∀ h : List AO, iaV h 1 Bv (some i) = some (.ip [.v (.int .i64 l[i])]) := fun h => s2.ia e1 h
        have q3 : ∀ (h : List AO) (n : Int), Q76 h false 1 (.ip [.v (.int .i64 n)]) = some (.v (.int .i64 n)) := fun _ _ => rfl
        have hne : (!(l[i] == l[i])) = false := by simp
        refine ⟨.normal, V31 A Bv l.length ((i + 1 : Nat) : Int) (.v (.int .i64 i)) (.v (.bool true)) (.v (.bool false)), [], ?_, hil, rfl, rfl⟩
        simp only [V31, c31_9, c31_4, c31_5, c31_6, c31_8, hlt, q1, q2, q3, hne, hw, Q0, Q1, Q2, Q3, Q4, Q5, Q6, Q7, Q8, Q9, Q10, Q11, Q12, Q13, Q14, Q15, Q16, Q17, Q18, Q19, Q20, Q21, Q22, Q23, Q24, Q25, Q26, Q27, Q28, Q29, Q30, Q31, Q32, Q33, Q35, Q36, Q37, Q38, Q39, Q40, Q41, Q42, Q43, Q44, Q45, Q46, Q47, Q48, Q49, Q50, Q51, Q52, Q53, Q54, Q55, Q56, Q57, Q58, Q59, Q60, Q61, Q62, Q63, Q64, Q65, Q66, Q67, Q68, Q69, Q70, Q71, Q72, Q73, Q99, Q100, Q101, Q102, Q103, Q74, Q75, Q77, Q78, Q79, Q80, Q81, Q82, Q83, Q84, clr, List.length_nil, List.length_cons, List.getElem?_cons_zero, List.getElem?_cons_succ, Nat.reduceAdd, Nat.zero_add, Nat.add_zero, Nat.reduceLeDiff, Nat.reduceSub, ↓reduceIte, List.drop_succ_cons, List.drop_zero, List.take_succ_cons, List.take_zero, Bool.false_eq_true, List.nil_append, List.cons_append, Bool.not_true, Bool.not_false, cond_true, cond_false, bne, Q85, Q86, Q87, Q88, Q89, Q90, Q91, Q92, Q93, Q94, Q95, Q96, Q97, Q98, Q110, Q111, Q116, Q117, Q118, Q119, Q120, Q121, Q122, Q123, Option.map_some, Option.map_none, Q34]
      · have hie : i = l.length := by omega
        subst hie
        have hlt := lt_f (n := l.length)
        refine ⟨.exit 0, V31 A Bv l.length l.length .junk (.v (.bool false)) .junk, [], ?_, rfl, rfl, _, _, rfl⟩
        simp only [V31, c31_9, c31_4, hlt, Q0, Q1, Q2, Q3, Q4, Q5, Q6, Q7, Q8, Q9, Q10, Q11, Q12, Q13, Q14, Q15, Q16, Q17, Q18, Q19, Q20, Q21, Q22, Q23, Q24, Q25, Q26, Q27, Q28, Q29, Q30, Q31, Q32, Q33, Q35, Q36, Q37, Q38, Q39, Q40, Q41, Q42, Q43, Q44, Q45, Q46, Q47, Q48, Q49, Q50, Q51, Q52, Q53, Q54, Q55, Q56, Q57, Q58, Q59, Q60, Q61, Q62, Q63, Q64, Q65, Q66, Q67, Q68, Q69, Q70, Q71, Q72, Q73, Q99, Q100, Q101, Q102, Q103, Q74, Q75, Q77, Q78, Q79, Q80, Q81, Q82, Q83, Q84, clr, List.length_nil, List.length_cons, List.getElem?_cons_zero, List.getElem?_cons_succ, Nat.reduceAdd, Nat.zero_add, Nat.add_zero, Nat.reduceLeDiff, Nat.reduceSub, ↓reduceIte, List.drop_succ_cons, List.drop_zero, List.take_succ_cons, List.take_zero, Bool.false_eq_true, List.nil_append, List.cons_append, Bool.not_true, Bool.not_false, cond_true, cond_false, bne, Q85, Q86, Q87, Q88, Q89, Q90, Q91, Q92, Q93, Q94, Q95, Q96, Q97, Q98, Q110, Q111, Q116, Q117, Q118, Q119, Q120, Q121, Q122, Q123, Option.map_some, Option.map_none, Q34])
  obtain ⟨rfl, rfl, x3, x8, rfl⟩ := g3
  refine callW_pure (c := c31) rfl rfl (l.length + 1) ?_
  have n1 : ∀ h : List AO, evLen h .slice A = some l.length := fun h => by rw [s1.len h]; simp
  have n2 : ∀ h : List AO, evLen h .slice Bv = some l.length := fun h => by rw [s2.len h]; simp
  have nl : (!((l.length : Int) == (l.length : Int))) = false := by simp
  rw [show c31.body = (.seq (.region [] [] c31_0) (.seq (.seq (.region [] [] c31_1) (.cond (.var 4) (.seq (.region [] [] c31_2) .ret) .skip)) (.seq (.seq (.region [] [] c31_3) (.block 0 (.loop K31 [] c31_9))) (.seq (.region [] [] c31_10) .ret)))) from rfl, show c31.res = [.var 2] from rfl]
  rw [show start c31 [A, Bv] = [A, Bv, .v undef, .v undef, .v undef, .v undef, .v undef, .v undef, .v undef] from rfl]
  generalize c31_9 = bb at g1 ⊢
  simp only [V31, c31_0, c31_1, c31_3, c31_10, n1, n2, nl, g1, Q0, Q1, Q2, Q3, Q4, Q5, Q6, Q7, Q8, Q9, Q10, Q11, Q12, Q13, Q14, Q15, Q16, Q17, Q18, Q19, Q20, Q21, Q22, Q23, Q24, Q25, Q26, Q27, Q28, Q29, Q30, Q31, Q32, Q33, Q35, Q36, Q37, Q38, Q39, Q40, Q41, Q42, Q43, Q44, Q45, Q46, Q47, Q48, Q49, Q50, Q51, Q52, Q53, Q54, Q55, Q56, Q57, Q58, Q59, Q60, Q61, Q62, Q63, Q64, Q65, Q66, Q67, Q68, Q69, Q70, Q71, Q72, Q73, Q99, Q100, Q101, Q102, Q103, Q74, Q75, Q77, Q78, Q79, Q80, Q81, Q82, Q83, Q84, clr, List.length_nil, List.length_cons, List.getElem?_cons_zero, List.getElem?_cons_succ, Nat.reduceAdd, Nat.zero_add, Nat.add_zero, Nat.reduceLeDiff, Nat.reduceSub, ↓reduceIte, List.drop_succ_cons, List.drop_zero, List.take_succ_cons, List.take_zero, Bool.false_eq_true, List.nil_append, List.cons_append, Bool.not_true, Bool.not_false, cond_true, cond_false, bne, Q85, Q86, Q87, Q88, Q89, Q90, Q91, Q92, Q93, Q94, Q95, Q96, Q97, Q98, Q110, Q111, Q116, Q117, Q118, Q119, Q120, Q121, Q122, Q123, Option.map_some, Option.map_none]
mutual
theorem shift_zero : ∀ t : Tm, rgT t → shiftT 0 t = t
  | .mk k s n l, h => by
    rw [rgT] at h
    rw [shiftT, shiftL_zero l h.2, Int.add_zero, wrap_rg h.1, ite_self]
theorem shiftL_zero : ∀ l : List Tm, rgL l → shiftL 0 l = l
  | [], _ => by rw [shiftL]
  | t :: l, h => by
    rw [rgL] at h
    rw [shiftL, shift_zero t h.1, shiftL_zero l h.2]
end
theorem rcopy_ok {t : Tm} {a : AV} (hsz : size t ≤ 100000) (hr : rgT t) (ha : IsT a t) : ∃ r, IsT r t ∧ callW F 34 [a] [] = some (r, []) := by
  obtain ⟨r, h1, h2⟩ := shift35 0 _ t a (Nat.lt_succ_self _) hsz ha
  rw [shift_zero t hr] at h1
  refine ⟨r, h1, callW_pure (c := c34) rfl rfl 0 ?_⟩
  have g := lv1 h1
  have hsn : ∀ h : List AO, a.snap1 h = some a := fun h => ha.snap
  have hst := h1.facts
  have ha2 := ha.facts
  cases ha
  cases h1
  simp only [c34, start, List.replicate, c34_0, c34_1, h2, g, hsn, snap_int, q9z, Q104, Q105, bs1, bs2, Q106, Q107, Q108, Q109, bd1, Q110, Q111, toL, List.map_cons, List.map_nil, Q112, List.set_cons_zero, List.set_cons_succ, and_self, Nat.le_refl, Q113, Q114, Q115, Q116, Q0, Q1, Q2, Q3, Q4, Q5, Q6, Q7, Q8, Q9, Q10, Q11, Q12, Q13, Q14, Q15, Q16, Q17, Q18, Q19, Q20, Q21, Q22, Q23, Q24, Q25, Q26, Q27, Q28, Q29, Q30, Q31, Q32, Q33, Q34, Q35, Q36, Q37, Q38, Q39, Q40, Q41, Q42, Q43, Q44, Q45, Q46, Q47, Q48, Q49, Q50, Q51, Q52, Q53, Q54, Q55, Q56, Q57, Q58, Q59, Q60, Q61, Q62, Q63, Q64, Q65, Q66, Q67, Q68, Q69, Q70, Q71, Q72, Q73, Q99, Q100, Q101, Q102, Q103, Q74, Q75, Q76, Q77, Q78, Q79, Q80, Q81, Q82, Q83, Q84, clr, List.length_nil, List.length_cons, List.getElem?_cons_zero, List.getElem?_cons_succ, Nat.reduceAdd, Nat.zero_add, Nat.add_zero, Nat.reduceLeDiff, Nat.reduceSub, ↓reduceIte, List.drop_succ_cons, List.drop_zero, List.take_succ_cons, List.take_zero, Bool.false_eq_true, List.nil_append, List.cons_append, Bool.not_true, Bool.not_false, cond_true, cond_false, bne, Q85, Q86, Q87, Q88, Q89, Q90, Q91, Q92, Q93, Q94, Q95, Q96, Q97, Q98]
end Go.AE.YtgcbaefclkfnoaaDoor
end

/-! The document's Same, where the left side's Args lie in a row of the caller's: of a term with itself. -/
section
set_option linter.unusedVariables false
set_option linter.unusedSimpArgs false
namespace Go.AE.YtgcbaefclkfnoaaDoor
open Go Go.AE Go.Proofs.YtgcbaefclkfnoaaDoor

def V15k (B : Nat) (n i : Int) (x5 x9 x10 : AV) : List AV := [.junk, .junk, .ptr B 0, .ptr (B + 1) 0, .junk, x5, .junk, .v (.int .i64 n), .v (.int .i64 i), x9, x10]
theorem lvk_b {c : CFun} {H l : List AO} {vars : List AV} {i : Nat} {x : Bool} (hb : H.all (AO.below H.length) = true) (hr : c.res = [.var i]) (hv : vars.getD i .junk = .v (.bool x)) : leave H.length c (some (.ret, vars, H ++ l)) = some (.v (.bool x), H) := by
  rw [leave_own rfl hb, hr, own_res1 (x := .v (.bool x)) (by simp only [resOf, hv])]
  exact lvo_one rfl
theorem rsame_at {H : List AO} {k : Int} {s : ByteArray} {n : Int} {C C' : AV} {es es' : List AV} {l : List Tm} (hb : H.all (AO.below H.length) = true) (hr : ∀ X, Rd (H ++ X) true 4 C es) (hr' : ∀ X, Rd (H ++ X) true 4 C' es')
    (hes : All2 es l) (hes' : All2 es' l) (hm : es.length ≤ maxLen) (c1 : C.cl = some [C]) (c2 : C'.cl = some [C']) :
    callW F 15 [.agg [.v (.int .i64 k), .v (.string s), .v (.int .i64 n), C], .agg [.v (.int .i64 k), .v (.string s), .v (.int .i64 n), C']] H = some (.v (.bool true), H) := by
  have hll := hes.length
  have hll' := hes'.length
  have q1 := fun X => (hr X).len
  have q1' := fun X => (hr' X).len
  rw [hll] at q1
  rw [hll'] at q1'
  have g3a : ∀ X, Q76 (H ++ (tb k n s C :: X)) false 1 (.ptr H.length 3) = some C := fun X => by rw [h_ld0]; rfl
  have g3b : ∀ X, Q76 (H ++ (tb k n s C :: tb k n s C' :: X)) false 1 (.ptr (H.length + 1) 3) = some C' := fun X => by rw [h_ld]; rfl
  obtain ⟨e, v', h', g1, g2, g3⟩ := loop_rule0 (call := callW F) (K := l.length + 1) (b := c15_9) (keep := K15)
    (fun i v h => v = V15k H.length l.length i .junk .junk .junk ∧ h = H ++ [tb k n s C, tb k n s C'])
    (fun e v h => e = .exit 0 ∧ v = V15k H.length l.length l.length .junk (.v (.bool false)) .junk ∧ h = H ++ [tb k n s C, tb k n s C'])
    l.length (m := l.length + 1) (v := [.agg [.v (.int .i64 k), .v (.string s), .v (.int .i64 n), C], .agg [.v (.int .i64 k), .v (.string s), .v (.int .i64 n), C'], .ptr H.length 0, .ptr (H.length + 1) 0, .v (.bool false), .v undef, .v (.bool false), .v (.int .i64 l.length), .v (.int .i64 0), .v undef, .v undef]) (h := H ++ [tb k n s C, tb k n s C']) (by omega) ⟨rfl, rfl⟩ (by
      rintro i v h hi ⟨rfl, rfl⟩
      by_cases hil : i < l.length
      · have hle : i < es.length := by omega
        have hle' : i < es'.length := by omega
        have hT := hes.at hle hil
        have hT' := hes'.at hle' hil
        have hlt := lt_t hil
        obtain ⟨p, p1, p2⟩ := (hr [tb k n s C, tb k n s C']).get i _ (List.getElem?_eq_getElem hle)
        obtain ⟨p', p1', p2'⟩ := (hr' [tb k n s C, tb k n s C']).get i _ (List.getElem?_eq_getElem hle')
        have hf := hT.facts
        have hf' := hT'.facts
        have hw := wrap_succ hle hm
        have hc := rsame_ok _ l[i] l[i] es[i] es'[i] (Nat.lt_succ_self _) hT hT'
        rw [(same_iff _ _ _ (Nat.lt_succ_self _)).2 rfl] at hc
        refine ⟨.normal, V15k H.length l.length ((i + 1 : Nat) : Int) (.v (.int .i64 i)) (.v (.bool true)) (.v (.bool false)), H ++ [tb k n s C, tb k n s C'], ?_, hil, rfl, rfl⟩
        simp only [V15k, c15_9, c15_4, c15_5, c15_6, c15_8, hlt, g3a, g3b, p1, p2, p1', p2', hf, hf', hc, hw, Q0, Q1, Q2, Q3, Q4, Q5, Q6, Q7, Q8, Q9, Q10, Q11, Q12, Q13, Q14, Q15, Q16, Q17, Q18, Q19, Q20, Q21, Q22, Q23, Q24, Q25, Q26, Q27, Q28, Q29, Q30, Q31, Q32, Q33, Q35, Q36, Q37, Q38, Q39, Q40, Q41, Q42, Q43, Q44, Q45, Q46, Q47, Q48, Q49, Q50, Q51, Q52, Q53, Q54, Q55, Q56, Q57, Q58, Q59, Q60, Q61, Q62, Q63, Q64, Q65, Q66, Q67, Q68, Q69, Q70, Q71, Q72, Q73, Q99, Q100, Q101, Q102, Q103, Q74, Q75, Q77, Q78, Q79, Q80, Q81, Q82, Q83, Q84, clr, List.length_nil, List.length_cons, List.getElem?_cons_zero, List.getElem?_cons_succ, Nat.reduceAdd, Nat.zero_add, Nat.add_zero, Nat.reduceLeDiff, Nat.reduceSub, ↓reduceIte, List.drop_succ_cons, List.drop_zero, List.take_succ_cons, List.take_zero, Bool.false_eq_true, List.nil_append, List.cons_append, Bool.not_true, Bool.not_false, cond_true, cond_false, bne, Q85, Q86, Q87, Q88, Q89, Q90, Q91, Q92, Q93, Q94, Q95, Q96, Q97, Q98, Q110, Q111, Q116, Q117, Q118, Q119, Q120, Q121, Q122, Q123, Option.map_some, Option.map_none, Q34]
      · have hie : i = l.length := by omega
        subst hie
        have hlt := lt_f (n := l.length)
        refine ⟨.exit 0, V15k H.length l.length l.length .junk (.v (.bool false)) .junk, _, ?_, rfl, rfl, rfl⟩
        simp only [V15k, c15_9, c15_4, hlt, Q0, Q1, Q2, Q3, Q4, Q5, Q6, Q7, Q8, Q9, Q10, Q11, Q12, Q13, Q14, Q15, Q16, Q17, Q18, Q19, Q20, Q21, Q22, Q23, Q24, Q25, Q26, Q27, Q28, Q29, Q30, Q31, Q32, Q33, Q35, Q36, Q37, Q38, Q39, Q40, Q41, Q42, Q43, Q44, Q45, Q46, Q47, Q48, Q49, Q50, Q51, Q52, Q53, Q54, Q55, Q56, Q57, Q58, Q59, Q60, Q61, Q62, Q63, Q64, Q65, Q66, Q67, Q68, Q69, Q70, Q71, Q72, Q73, Q99, Q100, Q101, Q102, Q103, Q74, Q75, Q77, Q78, Q79, Q80, Q81, Q82, Q83, Q84, clr, List.length_nil, List.length_cons, List.getElem?_cons_zero, List.getElem?_cons_succ, Nat.reduceAdd, Nat.zero_add, Nat.add_zero, Nat.reduceLeDiff, Nat.reduceSub, ↓reduceIte, List.drop_succ_cons, List.drop_zero, List.take_succ_cons, List.take_zero, Bool.false_eq_true, List.nil_append, List.cons_append, Bool.not_true, Bool.not_false, cond_true, cond_false, bne, Q85, Q86, Q87, Q88, Q89, Q90, Q91, Q92, Q93, Q94, Q95, Q96, Q97, Q98, Q110, Q111, Q116, Q117, Q118, Q119, Q120, Q121, Q122, Q123, Option.map_some, Option.map_none, Q34])
  obtain ⟨rfl, rfl, rfl⟩ := g3
  refine callW_own (c := c15) rfl rfl (l.length + 1) ?_
  have z1 : (k == k) = true := by simp
  have z2 : (n == n) = true := by simp
  have z3 : (s.toList == s.toList) = true := by simp
  have z4 : ((l.length : Int) == (l.length : Int)) = true := by simp
  have w0 : ∀ X, Q76 (H ++ (tb k n s C :: X)) false 1 (.ptr H.length 0) = some (.v (.int .i64 k)) := fun X => by rw [h_ld0]; rfl
  have w1 : ∀ X, Q76 (H ++ (tb k n s C :: X)) false 1 (.ptr H.length 1) = some (.v (.string s)) := fun X => by rw [h_ld0]; rfl
  have w2 : ∀ X, Q76 (H ++ (tb k n s C :: X)) false 1 (.ptr H.length 2) = some (.v (.int .i64 n)) := fun X => by rw [h_ld0]; rfl
  have v0 : ∀ X, Q76 (H ++ (tb k n s C :: tb k n s C' :: X)) false 1 (.ptr (H.length + 1) 0) = some (.v (.int .i64 k)) := fun X => by rw [h_ld]; rfl
  have v1 : ∀ X, Q76 (H ++ (tb k n s C :: tb k n s C' :: X)) false 1 (.ptr (H.length + 1) 1) = some (.v (.string s)) := fun X => by rw [h_ld]; rfl
  have v2 : ∀ X, Q76 (H ++ (tb k n s C :: tb k n s C' :: X)) false 1 (.ptr (H.length + 1) 2) = some (.v (.int .i64 n)) := fun X => by rw [h_ld]; rfl
  have b1 : ∀ D, bx (H ++ []) 24 (some [.v (.int .i64 k), .v (.string s), .v (.int .i64 n), D]) = some (.ptr H.length 0, H ++ [tb k n s D]) := fun D => h_bx
  have b2 : ∀ D, bx (H ++ [tb k n s C]) 24 (some [.v (.int .i64 k), .v (.string s), .v (.int .i64 n), D]) = some (.ptr (H.length + 1) 0, H ++ [tb k n s C, tb k n s D]) := fun D => h_bx
  have hex : exec (callW F) (l.length + 1) c15.body (start c15 [.agg [.v (.int .i64 k), .v (.string s), .v (.int .i64 n), C], .agg [.v (.int .i64 k), .v (.string s), .v (.int .i64 n), C']]) (H ++ []) = some (.ret, [.junk, .junk, .ptr H.length 0, .ptr (H.length + 1) 0, .v (.bool true), .junk, .junk, .v (.int .i64 l.length), .v (.int .i64 l.length), .v (.bool false), .junk], H ++ [tb k n s C, tb k n s C']) := by
    rw [show c15.body = (.seq (.region [] [] c15_0) (.seq (.seq (.region [] [] c15_1) (.cond (.var 6) (.seq (.region [] [] c15_2) .ret) .skip)) (.seq (.seq (.region [] [] c15_3) (.block 0 (.loop K15 [] c15_9))) (.seq (.region [] [] c15_10) .ret)))) from rfl]
    rw [show ∀ a b : AV, start c15 [a, b] = [a, b, .v undef, .v undef, .v undef, .v undef, .v undef, .v undef, .v undef, .v undef, .v undef] from fun _ _ => rfl]
    generalize c15_9 = bb at g1 ⊢
    simp only [V15k, c15_0, c15_1, c15_3, c15_10, b1, b2, w0, w1, w2, v0, v1, v2, g3a, g3b, q1, q1', z1, z2, z3, z4, g1, Bool.not_true, Bool.not_false, Bool.and_false, Q0, Q1, Q2, Q3, Q4, Q5, Q6, Q7, Q8, Q9, Q10, Q11, Q12, Q13, Q14, Q15, Q16, Q17, Q18, Q19, Q20, Q21, Q22, Q23, Q24, Q25, Q26, Q27, Q28, Q29, Q30, Q31, Q32, Q33, Q35, Q36, Q37, Q38, Q39, Q40, Q41, Q42, Q43, Q44, Q45, Q46, Q47, Q48, Q49, Q50, Q51, Q52, Q53, Q54, Q55, Q56, Q57, Q58, Q59, Q60, Q61, Q62, Q63, Q64, Q65, Q66, Q67, Q68, Q69, Q70, Q71, Q72, Q73, Q99, Q100, Q101, Q102, Q103, Q74, Q75, Q77, Q78, Q79, Q80, Q81, Q82, Q83, Q84, clr, List.length_nil, List.length_cons, List.getElem?_cons_zero, List.getElem?_cons_succ, Nat.reduceAdd, Nat.zero_add, Nat.add_zero, Nat.reduceLeDiff, Nat.reduceSub, ↓reduceIte, List.drop_succ_cons, List.drop_zero, List.take_succ_cons, List.take_zero, Bool.false_eq_true, List.nil_append, List.cons_append, Bool.not_true, Bool.not_false, cond_true, cond_false, bne, Q85, Q86, Q87, Q88, Q89, Q90, Q91, Q92, Q93, Q94, Q95, Q96, Q97, Q98, Q110, Q111, Q116, Q117, Q118, Q119, Q120, Q121, Q122, Q123, Option.map_some, Option.map_none]
  rw [hex]
  exact lvk_b hb rfl rfl
end Go.AE.YtgcbaefclkfnoaaDoor
end

/-! What all rows of this program need. -/
section
set_option linter.unusedVariables false
namespace Go.Proofs.YtgcbaefclkfnoaaDoor
open Go Go.AE Go.Proofs Go.ChangeShapes Go.WideShapes Go.ChangeAt Go.RowKit
open Go.ChangeMaps (open_string shut_string)

theorem own : ownKnob Tryd.prog.godebug = none := by kernel_rfl
theorem laidOut : laidOutB Tryd.prog = true := by kernel_rfl
theorem mixed : Tryd.prog.follows .mixedOrders = true := by kernel_rfl
def G : List TypeId := [2, 3, 9, 22, 24]
theorem hG : goodB T G = true := by kernel_rfl

end Go.Proofs.YtgcbaefclkfnoaaDoor
end

/-! Copy of the program, what it gives a row of the caller's. -/
section
set_option linter.unusedVariables false
set_option linter.unusedSimpArgs false
namespace Go.AE.YtgcbaefclkfnoaaDoor
open Go Go.AE Go.Proofs Go.Proofs.YtgcbaefclkfnoaaDoor

theorem keep_own {c : CFun} {vars : List AV} {hh : List AO} : leaveKeep c (some (.ret, vars, hh)) = (c.res.mapM (resOf vars hh)).map fun rs => (pack rs, hh) := rfl
section
variable {H : List AO} {l : List AO}
theorem each_keep {k : Int} {s : ByteArray} {n : Int} {c : AV} {l : List Tm} (hsz : size (.mk k s n l) ≤ 100000) (ha : IsT (.agg [.v (.int .i64 k), .v (.string s), .v (.int .i64 n), c]) (.mk k s n l)) (h0 : 0 < l.length) (hb : H.all (AO.below H.length) = true) :
    ∃ ds X, All2 ds l ∧ X[2]? = some (.row 24 4 0 ds 0) ∧ leaveKeep c55 (exec (callW F) (l.length + 1) c55.body (start c55 [.agg [.v (.int .i64 k), .v (.string s), .v (.int .i64 n), c], fnC]) (H ++ [])) = some (.agg [.v (.int .i64 k), .v (.string s), .v (.int .i64 n), .own 4 (H.length + 2) 0 0 l.length], H ++ X) := by
    have hbela := ha.bel
    cases ha with
    | mk _ _ _ _ _ hc =>
    simp only [size] at hsz
    have hll := sizeL_len l
    have hcall : ∀ t ∈ l, ∀ (e : AV) (H' : List AO), IsT e t → H'.all (AO.below H'.length) = true → ∃ r, IsT r (t) ∧ callW F 55 [e, fnC] H' = some (r, H') := by
      intro t ht e H' hT hb'
      have h7 := size_mem ht
      exact eachc _ t e H' (Nat.lt_succ_self _) (by omega) hT hb'
    obtain ⟨es, hs, hes, hm⟩ := hc.sl
    have e1 := hes.length
    -- behind the number
    have rest : ∀ (n' : Int) (y : AV) (m : Bool), ∃ ds X, All2 ds l ∧ X[2]? = some (.row 24 4 0 ds 0) ∧ leaveKeep c55 (exec (callW F) (l.length + 1) (.seq (.seq (.region [] [] c55_3) (.cond (.var 8) (.seq (.region [] [] c55_4) (.seq (.region [] [] c55_5) .ret)) .skip)) (.seq (.region [] [] c55_6) (.seq (.seq (.region [] [] c55_7) (.block 0 (.loop K49 [] c55_12))) (.seq (.region [] [] c55_13) (.seq (.region [] [] c55_14) .ret)))))
        [y, fnC, .ptr H.length 0, .ptr (H.length + 1) 0, .v undef, .v undef, .v undef, .v (.bool m), .v undef, .v undef, .v undef, .v undef, .v undef] (H ++ [.box 24 [.v (.int .i64 k), .v (.string s), .v (.int .i64 n'), c], .box 24 zeroC])) = some (.agg [.v (.int .i64 k), .v (.string s), .v (.int .i64 n'), .own 4 (H.length + 2) 0 0 es.length], H ++ X) := by
      intro n' y m
      have hres : c55.res = [.cell 3 true 4] := rfl
      have h1 : ((es.length : Int) == 0) = false := by rw [beq_eq_false_iff_ne]; omega
      obtain ⟨ds', tail', x5, x6, x7, x8, x12, g1, g2, g3⟩ := eachc_loop (H := H) (K := l.length + 1) (cs0 := [.v (.int .i64 k), .v (.string s), .v (.int .i64 n'), c]) (cs1 := zeroC) hs (by omega) hb (by
          have : ∀ n', IsT (.agg [.v (.int .i64 k), .v (.string s), .v (.int .i64 n'), c]) (.mk k s n' l) := fun n' => .mk k s n' c l hc
          exact (this n').bel) rfl l 0 [] [] [] (L49c H.length es.length c (0 : Nat)) (by omega) rfl (by simpa using hes) .nil rfl hcall rfl
      have hrow : (List.replicate es.length (AV.agg zeroC)) = [] ++ List.replicate l.length (AV.agg zeroC) := by rw [e1]; rfl
      have mk := mkS_own (rt := 24) (sz := 4) (H := H) (l := [.box 24 [.v (.int .i64 k), .v (.string s), .v (.int .i64 n'), c], .box 24 zeroC]) (B := H.length) rfl (bytes := 56) (zero := [(.int .i64 0), (.string ⟨#[]⟩), (.int .i64 0), (.slice none 0 0)]) (n := es.length) (by have : maxLen = 9223372036854775807 := rfl; omega) (by omega)
      rw [zeroEl4, hrow] at mk
      generalize hR : ([] ++ List.replicate l.length (AV.agg zeroC)) = R at mk g1
      have hz2 : ∀ c' : AV, (AV.own 4 (H.length + 2) 0 0 es.length).cl = some [.own 4 (H.length + 2) 0 0 es.length] := fun _ => rfl
      have hds : ∀ h0 : List AO, (H ++ (.box 24 [.v (.int .i64 k), .v (.string s), .v (.int .i64 n'), .own 4 (H.length + 2) 0 0 es.length] :: .box 24 [.v (.int .i64 k), .v (.string s), .v (.int .i64 n'), .own 4 (H.length + 2) 0 0 es.length] :: .row 24 4 0 ds' 0 :: tail'))[H.length + 2]? = some (.row 24 4 0 ds' 0) := fun _ => obj_get rfl
      refine ⟨ds', (.box 24 [.v (.int .i64 k), .v (.string s), .v (.int .i64 n'), .own 4 (H.length + 2) 0 0 es.length] :: .box 24 [.v (.int .i64 k), .v (.string s), .v (.int .i64 n'), .own 4 (H.length + 2) 0 0 es.length] :: .row 24 4 0 ds' 0 :: tail'), by simpa using g2, rfl, ?_⟩
      generalize hrest : (CC.seq (.region [] [] c55_13) (.seq (.region [] [] c55_14) .ret)) = rest
      simp only [zeroC] at mk g1
      simp only [zeroC, c55_3, c55_6, c55_7, h1, hs.len, mk, e_mkslice, h_ld, h_ld0, h_st, h_st0, h_bx, ldAt, stAt, preH_some, List.append_assoc, Q104, Q105, bs1, bs2, Q106, Q107, Q108, Q109, bd1, Q110, Q111, toL, List.map_cons, List.map_nil, Q112, List.set_cons_zero, List.set_cons_succ, and_self, Nat.le_refl, Q114, Q115, Q116, Q0, Q1, Q2, Q3, Q4, Q5, Q6, Q7, Q8, Q9, Q10, Q11, Q12, Q13, Q14, Q15, Q16, Q17, Q18, Q19, Q20, Q21, Q22, Q23, Q24, Q25, Q26, Q27, Q28, Q29, Q30, Q31, Q32, Q33, Q35, Q36, Q37, Q38, Q39, Q40, Q41, Q42, Q43, Q44, Q45, Q46, Q47, Q48, Q49, Q50, Q51, Q52, Q53, Q54, Q55, Q56, Q57, Q58, Q59, Q60, Q61, Q62, Q63, Q64, Q65, Q66, Q67, Q68, Q69, Q70, Q71, Q72, Q73, Q99, Q100, Q101, Q102, Q103, Q74, Q75, Q77, Q78, Q79, Q80, Q81, Q82, Q83, Q84, clr, List.length_nil, List.length_cons, List.getElem?_cons_zero, List.getElem?_cons_succ, Nat.reduceAdd, Nat.zero_add, Nat.add_zero, Nat.reduceLeDiff, Nat.reduceSub, ↓reduceIte, List.drop_succ_cons, List.drop_zero, List.take_succ_cons, List.take_zero, Bool.false_eq_true, List.nil_append, List.cons_append, Bool.not_true, Bool.not_false, cond_true, cond_false, bne, Q85, Q86, Q87, Q88, Q89, Q90, Q91, Q92, Q93, Q94, Q95, Q96, Q97, Q98]
      rw [loop_cong (v2 := L49c H.length es.length c ((0 : Nat) : Int)) (by rfl), g1, ← hrest]
      simp only [c55_13, c55_14, hz2 .junk, h_ld, h_ld0, h_st, h_st0, h_bx, ldAt, stAt, preH_some, List.append_assoc, Q104, Q105, bs1, bs2, Q106, Q107, Q108, Q109, bd1, Q110, Q111, toL, List.map_cons, List.map_nil, Q112, List.set_cons_zero, List.set_cons_succ, and_self, Nat.le_refl, Q114, Q115, Q116, Q0, Q1, Q2, Q3, Q4, Q5, Q6, Q7, Q8, Q9, Q10, Q11, Q12, Q13, Q14, Q15, Q16, Q17, Q18, Q19, Q20, Q21, Q22, Q23, Q24, Q25, Q26, Q27, Q28, Q29, Q30, Q31, Q32, Q33, Q35, Q36, Q37, Q38, Q39, Q40, Q41, Q42, Q43, Q44, Q45, Q46, Q47, Q48, Q49, Q50, Q51, Q52, Q53, Q54, Q55, Q56, Q57, Q58, Q59, Q60, Q61, Q62, Q63, Q64, Q65, Q66, Q67, Q68, Q69, Q70, Q71, Q72, Q73, Q99, Q100, Q101, Q102, Q103, Q74, Q75, Q77, Q78, Q79, Q80, Q81, Q82, Q83, Q84, clr, List.length_nil, List.length_cons, List.getElem?_cons_zero, List.getElem?_cons_succ, Nat.reduceAdd, Nat.zero_add, Nat.add_zero, Nat.reduceLeDiff, Nat.reduceSub, ↓reduceIte, List.drop_succ_cons, List.drop_zero, List.take_succ_cons, List.take_zero, Bool.false_eq_true, List.nil_append, List.cons_append, Bool.not_true, Bool.not_false, cond_true, cond_false, bne, Q85, Q86, Q87, Q88, Q89, Q90, Q91, Q92, Q93, Q94, Q95, Q96, Q97, Q98]
      rw [keep_own, hres, own_res1 (x := .agg [.v (.int .i64 k), .v (.string s), .v (.int .i64 n'), .own 4 (H.length + 2) 0 0 es.length]) _]
      · rfl
      · simp only [Q91, h_ld, ldAt, Q104, Q105, bs1, bs2, Q106, Q107, Q108, Q109, bd1, Q110, Q111, toL, List.map_cons, List.map_nil, Q112, List.set_cons_zero, List.set_cons_succ, and_self, Nat.le_refl, Q114, Q115, Q116, Q0, Q1, Q2, Q3, Q4, Q5, Q6, Q7, Q8, Q9, Q10, Q11, Q12, Q13, Q14, Q15, Q16, Q17, Q18, Q19, Q20, Q21, Q22, Q23, Q24, Q25, Q26, Q27, Q28, Q29, Q30, Q31, Q32, Q33, Q35, Q36, Q37, Q38, Q39, Q40, Q41, Q42, Q43, Q44, Q45, Q46, Q47, Q48, Q49, Q50, Q51, Q52, Q53, Q54, Q55, Q56, Q57, Q58, Q59, Q60, Q61, Q62, Q63, Q64, Q65, Q66, Q67, Q68, Q69, Q70, Q71, Q72, Q73, Q99, Q100, Q101, Q102, Q103, Q74, Q75, Q77, Q78, Q79, Q80, Q81, Q82, Q83, Q84, clr, List.length_nil, List.length_cons, List.getElem?_cons_zero, List.getElem?_cons_succ, Nat.reduceAdd, Nat.zero_add, Nat.add_zero, Nat.reduceLeDiff, Nat.reduceSub, ↓reduceIte, List.drop_succ_cons, List.drop_zero, List.take_succ_cons, List.take_zero, Bool.false_eq_true, List.nil_append, List.cons_append, Bool.not_true, Bool.not_false, cond_true, cond_false, bne, Q85, Q86, Q87, Q88, Q89, Q90, Q91, Q92, Q93, Q94, Q95, Q96, Q97, Q98]
    by_cases hk : k = 1
    · have h1 : (k == 1) = true := by simpa using hk
      obtain ⟨ds, X, g1, g2, hlv⟩ := rest (n) (.agg [.v (.int .i64 k), .v (.string s), .v (.int .i64 n), c]) true
      rw [e1] at hlv
      refine ⟨ds, X, g1, g2, ?_⟩
      rw [← hlv, show c55.body = (.seq (.region [] [] c55_0) (.seq (.seq (.region [] [] c55_1) (.cond (.var 7) (.region [] [] c55_2) .skip)) (.seq (.seq (.region [] [] c55_3) (.cond (.var 8) (.seq (.region [] [] c55_4) (.seq (.region [] [] c55_5) .ret)) .skip)) (.seq (.region [] [] c55_6) (.seq (.seq (.region [] [] c55_7) (.block 0 (.loop K49 [] c55_12))) (.seq (.region [] [] c55_13) (.seq (.region [] [] c55_14) .ret))))))) from rfl]
      generalize (CC.seq (.seq (.region [] [] c55_3) (.cond (.var 8) (.seq (.region [] [] c55_4) (.seq (.region [] [] c55_5) .ret)) .skip)) (.seq (.region [] [] c55_6) (.seq (.seq (.region [] [] c55_7) (.block 0 (.loop K49 [] c55_12))) (.seq (.region [] [] c55_13) (.seq (.region [] [] c55_14) .ret))))) = rest'
      have hb2 : (H ++ [.box 24 [.v (.int .i64 k), .v (.string s), .v (.int .i64 n), c], .box 24 zeroC] : List AO).all (AO.below (H ++ [.box 24 [.v (.int .i64 k), .v (.string s), .v (.int .i64 n), c], .box 24 zeroC] : List AO).length) = true := by
        rw [List.all_append, Bool.and_eq_true]
        refine ⟨all_below_mono (by simp) hb, all_below_mono (Nat.zero_le _) ?_⟩
        have hz : (AO.box 24 zeroC).below 0 = true := rfl
        simp only [AV.cells] at hbela
        have hbela : AO.below 0 (.box 24 [.v (.int .i64 k), .v (.string s), .v (.int .i64 n), c]) = true := hbela
        simp only [List.all_cons, List.all_nil, hbela, hz, Bool.and_true]
      have ht := turnc_ok hb2 n
      simp only [zeroC] at ht
      simp only [start49, fnC, zeroC, c55_0, c55_1, c55_2, h1, ht, q9z, e_callv, cv_fn, h_ld, h_ld0, h_st, h_st0, h_bx, ldAt, stAt, preH_some, List.append_assoc, Q104, Q105, bs1, bs2, Q106, Q107, Q108, Q109, bd1, Q110, Q111, toL, List.map_cons, List.map_nil, Q112, List.set_cons_zero, List.set_cons_succ, and_self, Nat.le_refl, Q114, Q115, Q116, Q0, Q1, Q2, Q3, Q4, Q5, Q6, Q7, Q8, Q9, Q10, Q11, Q12, Q13, Q14, Q15, Q16, Q17, Q18, Q19, Q20, Q21, Q22, Q23, Q24, Q25, Q26, Q27, Q28, Q29, Q30, Q31, Q32, Q33, Q35, Q36, Q37, Q38, Q39, Q40, Q41, Q42, Q43, Q44, Q45, Q46, Q47, Q48, Q49, Q50, Q51, Q52, Q53, Q54, Q55, Q56, Q57, Q58, Q59, Q60, Q61, Q62, Q63, Q64, Q65, Q66, Q67, Q68, Q69, Q70, Q71, Q72, Q73, Q99, Q100, Q101, Q102, Q103, Q74, Q75, Q77, Q78, Q79, Q80, Q81, Q82, Q83, Q84, clr, List.length_nil, List.length_cons, List.getElem?_cons_zero, List.getElem?_cons_succ, Nat.reduceAdd, Nat.zero_add, Nat.add_zero, Nat.reduceLeDiff, Nat.reduceSub, ↓reduceIte, List.drop_succ_cons, List.drop_zero, List.take_succ_cons, List.take_zero, Bool.false_eq_true, List.nil_append, List.cons_append, Bool.not_true, Bool.not_false, cond_true, cond_false, bne, Q85, Q86, Q87, Q88, Q89, Q90, Q91, Q92, Q93, Q94, Q95, Q96, Q97, Q98]
    · have h1 : (k == 1) = false := by simpa using hk
      obtain ⟨ds, X, g1, g2, hlv⟩ := rest n (.agg [.v (.int .i64 k), .v (.string s), .v (.int .i64 n), c]) false
      rw [e1] at hlv
      refine ⟨ds, X, g1, g2, ?_⟩
      rw [← hlv, show c55.body = (.seq (.region [] [] c55_0) (.seq (.seq (.region [] [] c55_1) (.cond (.var 7) (.region [] [] c55_2) .skip)) (.seq (.seq (.region [] [] c55_3) (.cond (.var 8) (.seq (.region [] [] c55_4) (.seq (.region [] [] c55_5) .ret)) .skip)) (.seq (.region [] [] c55_6) (.seq (.seq (.region [] [] c55_7) (.block 0 (.loop K49 [] c55_12))) (.seq (.region [] [] c55_13) (.seq (.region [] [] c55_14) .ret))))))) from rfl]
      generalize (CC.seq (.seq (.region [] [] c55_3) (.cond (.var 8) (.seq (.region [] [] c55_4) (.seq (.region [] [] c55_5) .ret)) .skip)) (.seq (.region [] [] c55_6) (.seq (.seq (.region [] [] c55_7) (.block 0 (.loop K49 [] c55_12))) (.seq (.region [] [] c55_13) (.seq (.region [] [] c55_14) .ret))))) = rest'
      simp only [start49, fnC, zeroC, c55_0, c55_1, h1, q9z, h_ld, h_ld0, h_st, h_st0, h_bx, ldAt, stAt, preH_some, List.append_assoc, Q104, Q105, bs1, bs2, Q106, Q107, Q108, Q109, bd1, Q110, Q111, toL, List.map_cons, List.map_nil, Q112, List.set_cons_zero, List.set_cons_succ, and_self, Nat.le_refl, Q114, Q115, Q116, Q0, Q1, Q2, Q3, Q4, Q5, Q6, Q7, Q8, Q9, Q10, Q11, Q12, Q13, Q14, Q15, Q16, Q17, Q18, Q19, Q20, Q21, Q22, Q23, Q24, Q25, Q26, Q27, Q28, Q29, Q30, Q31, Q32, Q33, Q35, Q36, Q37, Q38, Q39, Q40, Q41, Q42, Q43, Q44, Q45, Q46, Q47, Q48, Q49, Q50, Q51, Q52, Q53, Q54, Q55, Q56, Q57, Q58, Q59, Q60, Q61, Q62, Q63, Q64, Q65, Q66, Q67, Q68, Q69, Q70, Q71, Q72, Q73, Q99, Q100, Q101, Q102, Q103, Q74, Q75, Q77, Q78, Q79, Q80, Q81, Q82, Q83, Q84, clr, List.length_nil, List.length_cons, List.getElem?_cons_zero, List.getElem?_cons_succ, Nat.reduceAdd, Nat.zero_add, Nat.add_zero, Nat.reduceLeDiff, Nat.reduceSub, ↓reduceIte, List.drop_succ_cons, List.drop_zero, List.take_succ_cons, List.take_zero, Bool.false_eq_true, List.nil_append, List.cons_append, Bool.not_true, Bool.not_false, cond_true, cond_false, bne, Q85, Q86, Q87, Q88, Q89, Q90, Q91, Q92, Q93, Q94, Q95, Q96, Q97, Q98]
end
theorem copyK {a : AV} {k : Int} {s : ByteArray} {n : Int} {l : List Tm} (hsz : size (.mk k s n l) ≤ 100000) (ha : IsT a (.mk k s n l)) (h0 : 0 < l.length) :
    ∃ ds, All2 ds l ∧ ∀ (B : Nat) (w0 : World), K B w0 → ∀ I σ w h (vals : Array Value), AE.Inv B w0 I σ w h → ArgsRep I w σ [a] vals →
      Calls Tryd.prog 24 vals w (AE.Ends B w0 I σ w (.agg [.v (.int .i64 k), .v (.string s), .v (.int .i64 n), .own 4 h.length 0 0 l.length]) (h ++ [.row 24 4 0 ds 0])) := by
  have hb : ([.box 24 a.cells, .box 24 zeroC] : List AO).all (AO.below 2) = true := by
    have : AO.below 2 (.box 24 a.cells) = true := below_mono (Nat.zero_le 2) _ ha.bel
    simp only [List.all_cons, List.all_nil, this, Bool.and_true]; rfl
  have hsn : ∀ h : List AO, a.snap1 h = some a := fun h => ha.snap
  have ha2 := ha
  cases ha2 with
  | mk _ _ _ c _ hc =>
  obtain ⟨ds, X, h1, h2, h3⟩ := each_keep (H := [.box 24 [.v (.int .i64 k), .v (.string s), .v (.int .i64 n), c], .box 24 zeroC]) hsz ha h0 hb
  refine ⟨ds, h1, fun B w0 hK I σ w h vals hI har => ?_⟩
  obtain ⟨x, vars, hh, rs, e1, e2, e3, e4, e5⟩ := keep_cases h3
  obtain ⟨N, hN⟩ := lim_exec _ _ _ _ e1
  have pn : ∀ m, PushOk T (callN F m) := fun m f hf => by cases hf
  have hk : leaveKeep c55 (exec (callN F N) (l.length + 1) c55.body (start c55 [.agg [.v (.int .i64 k), .v (.string s), .v (.int .i64 n), c], fnC]) [.box 24 [.v (.int .i64 k), .v (.string s), .v (.int .i64 n), c], .box 24 zeroC]) = some (.agg [.v (.int .i64 k), .v (.string s), .v (.int .i64 n), .own 4 4 0 0 l.length], .box 24 [.v (.int .i64 k), .v (.string s), .v (.int .i64 n), c] :: .box 24 zeroC :: X) := by
    rw [List.append_nil] at hN e1 h3
    rw [hN, ← e1]
    exact h3
  have hX : keepX (callN F N) 55 c55 (l.length + 1) 55 [.agg [.v (.int .i64 k), .v (.string s), .v (.int .i64 n), c], .fn (.func 57) [] []] [.box 24 [.v (.int .i64 k), .v (.string s), .v (.int .i64 n), c], .box 24 [.v (.int .i64 0), .v (.string ⟨#[]⟩), .v (.int .i64 0), .v (.slice none 0 0)]] = some (.agg [.v (.int .i64 k), .v (.string s), .v (.int .i64 n), .own 4 4 0 0 l.length], .box 24 [.v (.int .i64 k), .v (.string s), .v (.int .i64 n), c] :: .box 24 [.v (.int .i64 0), .v (.string ⟨#[]⟩), .v (.int .i64 0), .v (.slice none 0 0)] :: X) := by
    unfold keepX
    rw [if_pos ⟨rfl, rfl⟩]
    simp only [fnC, zeroC] at hk
    rw [hk]
  have gf : ∀ vars env : List AV, getO vars env (.fn 57) = .fn (.func 57) [] [] := fun _ _ => rfl
  have hst : Q113 (.box 24 [.v (.int .i64 k), .v (.string s), .v (.int .i64 n), c] :: .box 24 [.v (.int .i64 0), .v (.string ⟨#[]⟩), .v (.int .i64 0), .v (.slice none 0 0)] :: X) 4 (.ptr 1 0) (.agg [.v (.int .i64 k), .v (.string s), .v (.int .i64 n), .own 4 4 0 0 l.length]) = some (.box 24 [.v (.int .i64 k), .v (.string s), .v (.int .i64 n), c] :: .box 24 [.v (.int .i64 k), .v (.string s), .v (.int .i64 n), .own 4 4 0 0 l.length] :: X) := rfl
  have run : exec (keepX (callN F N) 55 c55 (l.length + 1)) 0 c24.body (start c24 [.agg [.v (.int .i64 k), .v (.string s), .v (.int .i64 n), c]]) [] = some (.ret, [.agg [.v (.int .i64 k), .v (.string s), .v (.int .i64 n), c], .ptr 0 0, .ptr 1 0], .box 24 [.v (.int .i64 k), .v (.string s), .v (.int .i64 n), c] :: .box 24 [.v (.int .i64 k), .v (.string s), .v (.int .i64 n), .own 4 4 0 0 l.length] :: X) := by
    simp only [c24, start, List.replicate, c24_0, c24_1, gf, hX, hst, e_mkfn, e_callh, q9z, Q104, Q105, bs1, bs2, Q106, Q107, Q108, Q109, bd1, Q110, Q111, toL, List.map_cons, List.map_nil, Q112, List.set_cons_zero, List.set_cons_succ, and_self, Nat.le_refl, Q114, Q115, Q116, Q0, Q1, Q2, Q3, Q4, Q5, Q6, Q7, Q8, Q9, Q10, Q11, Q12, Q13, Q14, Q15, Q16, Q17, Q18, Q19, Q20, Q21, Q22, Q23, Q24, Q25, Q26, Q27, Q28, Q29, Q30, Q31, Q32, Q33, Q34, Q35, Q36, Q37, Q38, Q39, Q40, Q41, Q42, Q43, Q44, Q45, Q46, Q47, Q48, Q49, Q50, Q51, Q52, Q53, Q54, Q55, Q56, Q57, Q58, Q59, Q60, Q61, Q62, Q63, Q64, Q65, Q66, Q67, Q68, Q69, Q70, Q71, Q72, Q73, Q99, Q100, Q101, Q102, Q103, Q74, Q75, Q76, Q77, Q78, Q79, Q80, Q81, Q82, Q83, Q84, clr, List.length_nil, List.length_cons, List.getElem?_cons_zero, List.getElem?_cons_succ, Nat.reduceAdd, Nat.zero_add, Nat.add_zero, Nat.reduceLeDiff, Nat.reduceSub, ↓reduceIte, List.drop_succ_cons, List.drop_zero, List.take_succ_cons, List.take_zero, Bool.false_eq_true, List.nil_append, List.cons_append, Bool.not_true, Bool.not_false, cond_true, cond_false, bne, Q85, Q86, Q87, Q88, Q89, Q90, Q91, Q92, Q93, Q94, Q95, Q96, Q97, Q98]
  exact keep_calls mixed hT (f := 24) ok24 (fun w I σ h hI => keepX_ok mixed hT (callN_ok mixed hT hKs hF (fun f h => by cases h) N w.heap.size w (hKs _ _ _ _ _ _ hK hI)) (pn N) ok55 _) (fun f hf => by cases hf) rfl run (.inr rfl) (j := 4) rfl (by simpa using h2) hI (args_snap hI har (by simp [hsn]))
end Go.AE.YtgcbaefclkfnoaaDoor
end

/-! The law of TermVars as the evaluator carries it out. -/
section
set_option linter.unusedVariables false
set_option maxRecDepth 100000
namespace Go.Proofs.YtgcbaefclkfnoaaDoor.W
open Go Go.AE Go.Proofs
def ti2 : TI := ⟨1, 8, (.int .i64 0), (.int .i64)⟩
theorem tiOk2 : TIok Tryd.prog 2 ti2 := tiok_of (by kernel_rfl) (by kernel_rfl)
def ti3 : TI := ⟨1, 8, (.int .i64 0), (.int .i64)⟩
theorem tiOk3 : TIok Tryd.prog 3 ti3 := tiok_of (by kernel_rfl) (by kernel_rfl)
def ti9 : TI := ⟨1, 16, (.string ⟨#[]⟩), .string⟩
theorem tiOk9 : TIok Tryd.prog 9 ti9 := tiok_of (by kernel_rfl) (by kernel_rfl)
def ti22 : TI := ⟨1, 24, (.slice none 0 0), (.slice 24)⟩
theorem tiOk22 : TIok Tryd.prog 22 ti22 := tiok_of (by kernel_rfl) (by kernel_rfl)
def ti24 : TI := ⟨4, 56, (.agg #[(.int .i64 0), (.string ⟨#[]⟩), (.int .i64 0), (.slice none 0 0)]), (.struct #[⟨"Kind", 3, 0, false, "", "", 0⟩, ⟨"Name", 9, 1, false, "", "", 8⟩, ⟨"N", 2, 2, false, "", "", 24⟩, ⟨"Args", 22, 3, false, "", "", 32⟩])⟩
theorem tiOk24 : TIok Tryd.prog 24 ti24 := tiok_of (by kernel_rfl) (by kernel_rfl)
def ti42 : TI := ⟨1, 24, (.slice none 0 0), (.slice 2)⟩
theorem tiOk42 : TIok Tryd.prog 42 ti42 := tiok_of (by kernel_rfl) (by kernel_rfl)
def tys : List (TypeId × TI) := [(2, ti2), (3, ti3), (9, ti9), (22, ti22), (24, ti24), (42, ti42)]
def pures : List FuncId := [0, 1, 2, 3, 4, 5, 6, 7, 8, 9, 10, 11, 12, 13, 14, 16, 17, 18, 19, 20, 21, 22, 23, 25, 26, 27, 28, 29, 30, 31, 32, 33, 34, 35, 36, 37, 38, 39, 41, 42, 43, 44, 45, 46, 47, 48]
def lits : List TypeId := []
def frz : List FuncId := []
def pushes : List FuncId := [24]
def T : Tb := ⟨fun t => tys.lookup t, fun f => pures.contains f, fun t => lits.contains t, fun f => frz.contains f, fun f => pushes.contains f⟩
theorem hT : TbOk Tryd.prog T := tbok_of (fun p hp => by
  simp only [tys, List.mem_cons, List.not_mem_nil, or_false] at hp
  rcases hp with rfl | rfl | rfl | rfl | rfl | rfl
  · exact tiOk2
  · exact tiOk3
  · exact tiOk9
  · exact tiOk22
  · exact tiOk24
  · exact tiOk42)
/-! spinney/spinneylaw03.TermVars -/
def c9_0 : List CO := [⟨(.box 24 (.var 0)), (some 2), none⟩,
  ⟨(.mov (.k (.bool false))), (some 3), none⟩]
def c9_1 : List CO := [⟨(.call true 12 []), none, none⟩,
  ⟨(.mov (.loc 0)), (some 4), none⟩]
def c9_2 : List CO := [⟨(.load true 4 (.var 2)), none, none⟩,
  ⟨(.bslice 4 [(.int .i64 0), (.string ⟨#[]⟩), (.int .i64 0), (.slice none 0 0)] 1 [(0, (.loc 0))]), none, none⟩,
  ⟨(.call true 13 [(.loc 0)]), (some 9), none⟩]
def c9_3 : List CO := [⟨(.mov (.var 4)), none, none⟩,
  ⟨(.mov (.loc 0)), (some 3), none⟩]
def c9_4 : List CO := [⟨(.load true 4 (.var 2)), none, none⟩,
  ⟨(.call false 24 [(.loc 0)]), none, none⟩,
  ⟨(.box 24 (.k (.agg #[(.int .i64 0), (.string ⟨#[]⟩), (.int .i64 0), (.slice none 0 0)]))), (some 5), none⟩,
  ⟨(.store 4 (.var 5) (.loc 1)), none, none⟩]
def c9_5 : List CO := [⟨(.load true 4 (.var 5)), none, none⟩,
  ⟨(.load true 4 (.var 2)), none, none⟩,
  ⟨(.call false 15 [(.loc 1), (.loc 0)]), none, none⟩,
  ⟨(.mov (.loc 0)), (some 6), none⟩]
def c9_6 : List CO := [⟨(.fa 3 (.var 5)), none, none⟩,
  ⟨(.load false 1 (.loc 0)), none, none⟩,
  ⟨(.len .slice (.loc 0)), (some 10), none⟩,
  ⟨(.mov (.k (.int .i64 0))), (some 11), none⟩]
def c9_7 : List CO := [⟨(.bin .lss (.var 11) (.var 10)), (some 12), none⟩]
def c9_8 : List CO := [⟨(.mov (.var 11)), none, none⟩,
  ⟨(.mov (.loc 0)), (some 7), none⟩]
def c9_9 : List CO := [⟨(.fa 3 (.var 5)), none, none⟩,
  ⟨(.load false 1 (.loc 0)), none, none⟩,
  ⟨(.mov (.var 7)), none, none⟩,
  ⟨(.build [(.int .i64 0), (.string ⟨#[]⟩), (.int .i64 0), (.slice none 0 0)] [(0, 1, (.k (.int .i64 9)))]), none, none⟩,
  ⟨(.ia 4 (.loc 2) (.loc 1)), none, none⟩,
  ⟨(.store 4 (.loc 0) (.loc 1)), none, none⟩]
def c9_10 : List CO := [⟨(.bin .add (.var 11) (.k (.int .i64 1))), none, none⟩,
  ⟨(.mov (.loc 0)), (some 11), none⟩]
def c9_11 : CC := (.seq (.region [] [] c9_7) (.seq (.cond (.var 12) .skip (.exit 0)) (.seq (.block 1 (.seq (.region [] [] c9_8) (.region [] [] c9_9))) (.region [] [] c9_10))))
def c9_12 : List CO := [⟨(.load true 4 (.var 2)), none, none⟩,
  ⟨(.mov (.var 1)), none, none⟩,
  ⟨(.call true 23 [(.loc 1), (.loc 0)]), none, none⟩,
  ⟨(.box 24 (.k (.agg #[(.int .i64 0), (.string ⟨#[]⟩), (.int .i64 0), (.slice none 0 0)]))), (some 8), none⟩,
  ⟨(.store 4 (.var 8) (.loc 1)), none, none⟩]
def c9_13 : List CO := [⟨(.mov (.var 6)), none, none⟩,
  ⟨(.mov (.loc 0)), none, none⟩,
  ⟨(.load true 4 (.var 8)), none, (some ((.loc 0), true))⟩,
  ⟨(.load true 4 (.var 2)), none, (some ((.loc 1), true))⟩,
  ⟨(.mov (.var 1)), none, (some ((.loc 2), true))⟩,
  ⟨(.call true 30 [(.loc 1), (.loc 0)]), none, (some ((.loc 3), true))⟩,
  ⟨(.call false 15 [(.loc 3), (.loc 0)]), none, (some ((.loc 4), true))⟩,
  ⟨(.pick (.loc 5) (.loc 0) (.k (.bool false))), none, none⟩,
  ⟨(.mov (.loc 0)), none, none⟩,
  ⟨(.load true 4 (.var 2)), none, (some ((.loc 0), true))⟩,
  ⟨(.call true 32 [(.loc 0)]), none, (some ((.loc 1), true))⟩,
  ⟨(.load true 4 (.var 2)), none, (some ((.loc 2), true))⟩,
  ⟨(.call true 33 [(.loc 0)]), none, (some ((.loc 3), true))⟩,
  ⟨(.call true 31 [(.loc 2), (.loc 0)]), none, (some ((.loc 4), true))⟩,
  ⟨(.pick (.loc 5) (.loc 0) (.k (.bool false))), none, none⟩,
  ⟨(.mov (.loc 0)), (some 6), none⟩]
def c9_14 : List CO := [⟨(.mov (.var 4)), none, none⟩,
  ⟨(.mov (.loc 0)), none, none⟩,
  ⟨(.mov (.var 6)), none, (some ((.loc 0), true))⟩,
  ⟨(.pick (.loc 1) (.loc 0) (.k (.bool false))), none, none⟩,
  ⟨(.mov (.loc 0)), none, none⟩,
  ⟨(.load true 4 (.var 2)), none, (some ((.loc 0), true))⟩,
  ⟨(.call false 24 [(.loc 0)]), none, (some ((.loc 1), true))⟩,
  ⟨(.load true 4 (.var 2)), none, (some ((.loc 2), true))⟩,
  ⟨(.call true 34 [(.loc 0)]), none, (some ((.loc 3), true))⟩,
  ⟨(.call false 15 [(.loc 2), (.loc 0)]), none, (some ((.loc 4), true))⟩,
  ⟨(.pick (.loc 5) (.loc 0) (.k (.bool false))), none, none⟩,
  ⟨(.mov (.loc 0)), (some 3), none⟩]
def c9 : CFun := ⟨2, 13, (.seq (.region [] [] c9_0) (.seq (.region [] [] c9_1) (.seq (.seq (.region [] [] c9_2) (.cond (.var 9) (.seq (.region [] [] c9_3) .ret) .skip)) (.seq (.region [] [] c9_4) (.seq (.region [] [] c9_5) (.seq (.seq (.region [] [] c9_6) (.block 0 (.loop [false, true, true, false, true, true, true, false, false, false, true, true, false] [] c9_11))) (.seq (.region [] [] c9_12) (.seq (.region [] [] c9_13) (.seq (.region [] [] c9_14) .ret))))))))), [.var 3]⟩
theorem ok9 : CodeOk Tryd.prog T 9 c9 := ⟨⟨Tryd.f9, Hints.of [] [] [(0, [false, true, true, false, true, true, true, false, false, false, true, true, false], [])], [0, 1, 2, 4, 5, 6, 7, 8, 9, 13, 22, 23, 24], Tryd.func9, by kernel_rfl, by kernel_rfl⟩⟩

def Fl : List (FuncId × FEntry) := [(9, .code c9)] ++ []
def F (f : FuncId) : Option FEntry := Fl.lookup f
theorem hF : ∀ (B : Nat) (w0 : World), K B w0 → ∀ f e, F f = some e → EntryOk Tryd.prog T B w0 f e := fun B w0 hK => entries_of (fun p hp => by
  simp only [Fl, List.cons_append, List.nil_append, List.mem_cons, List.not_mem_nil, or_false] at hp
  rcases hp with rfl
  · exact ok9)
end Go.Proofs.YtgcbaefclkfnoaaDoor.W
end

/-! TermVars in plain Lean, over calls in which Copy gives a row of the caller's. -/
section
set_option linter.unusedVariables false
set_option linter.unusedSimpArgs false
namespace Go.AE.YtgcbaefclkfnoaaDoor
open Go Go.AE Go.Proofs.YtgcbaefclkfnoaaDoor
open Go.Proofs.YtgcbaefclkfnoaaDoor.W (c9 c9_0 c9_1 c9_2 c9_3 c9_4 c9_5 c9_6 c9_7 c9_8 c9_9 c9_10 c9_11 c9_12 c9_13 c9_14 ok9)

def K9 : List Bool := [false, true, true, false, true, true, true, false, false, false, true, true, false]
def V9 (x : Int) (b : Bool) (p : Nat) (n i : Int) (x7 x12 : AV) : List AV := [.junk, .v (.int .i64 x), .ptr 0 0, .junk, .v (.bool true), .ptr p 0, .v (.bool b), x7, .junk, .junk, .v (.int .i64 n), .v (.int .i64 i), x12]
def el9 : AV := .agg [.v (.int .i64 9), .v (.string ⟨#[]⟩), .v (.int .i64 0), .v (.slice none 0 0)]
theorem el9_ok : El true 4 el9 := ⟨rfl, rfl, fun _ => rfl, rfl, rfl, rfl⟩
theorem vars9_loop {C : CallF} {x : Int} {b : Bool} {a0 : AO} {k n : Int} {s : ByteArray} {m : Nat} (hm : m ≤ 100000) (ds : List AV) (hl : ds.length = m) (hds : ∀ e ∈ ds, El true 4 e) (v : List AV) (hv : clr K9 v = V9 x b 2 m 0 .junk .junk) :
    ∃ ds' x7, loopN (exec C (m + 1) c9_11) K9 (m + 1) v [a0, .row 24 4 0 ds 0, tb k n s (.own 4 1 0 0 m)] = some (.exit 0, V9 x b 2 m m x7 (.v (.bool false)), [a0, .row 24 4 0 ds' 0, tb k n s (.own 4 1 0 0 m)]) := by
  obtain ⟨e, v', h', g1, g2, g3⟩ := loop_rule0 (call := C) (K := m + 1) (b := c9_11) (keep := K9)
    (fun i v h => v = V9 x b 2 m i .junk .junk ∧ ∃ ds, ds.length = m ∧ (∀ e ∈ ds, El true 4 e) ∧ h = [a0, .row 24 4 0 ds 0, tb k n s (.own 4 1 0 0 m)])
    (fun e v h => e = .exit 0 ∧ ∃ ds x7, v = V9 x b 2 m m x7 (.v (.bool false)) ∧ h = [a0, .row 24 4 0 ds 0, tb k n s (.own 4 1 0 0 m)])
    m (m := m + 1) (v := v) (h := [a0, .row 24 4 0 ds 0, tb k n s (.own 4 1 0 0 m)]) (by omega) ⟨hv, ds, hl, hds, rfl⟩ (by
      rintro i v h hi ⟨rfl, ds, hl, hds, rfl⟩
      by_cases hil : i < m
      · have hlt := lt_t hil
        have hw := wrap_succ hil (small_max hm)
        have hr : ([a0, .row 24 4 0 ds 0, tb k n s (.own 4 1 0 0 m)] : List AO)[1]? = some (.row 24 4 0 ds 0) := rfl
        have q1 := row_ia (n := m) hr (by omega) hil
        have q2 := row_st (agg := true) hr (i := i) (e := ds[i]'(by omega)) (List.getElem?_eq_getElem (by omega)) (hds _ (List.getElem_mem _)) el9_ok
        have q3 : Q76 [a0, .row 24 4 0 ds 0, tb k n s (.own 4 1 0 0 m)] false 1 (.ptr 2 3) = some (.own 4 1 0 0 m) := rfl
        have q4 : ([a0, .row 24 4 0 ds 0, tb k n s (.own 4 1 0 0 m)] : List AO).set 1 (.row 24 4 0 (ds.set i el9) 0) = [a0, .row 24 4 0 (ds.set i el9) 0, tb k n s (.own 4 1 0 0 m)] := rfl
        rw [q4] at q2
        simp only [el9] at q2
        refine ⟨.normal, V9 x b 2 m ((i + 1 : Nat) : Int) (.v (.int .i64 i)) (.v (.bool true)), [a0, .row 24 4 0 (ds.set i el9) 0, tb k n s (.own 4 1 0 0 m)], ?_, hil, rfl, ds.set i el9, by simp [hl], fun e he => ?_, rfl⟩
        · simp only [el9, V9, c9_11, c9_7, c9_8, c9_9, c9_10, hlt, q1, q2, q3, hw, Q106, Q107, Q108, Q109, bd1, Q104, Q105, bs1, bs2, Q106, Q107, Q108, Q109, bd1, Q110, Q111, toL, List.map_cons, List.map_nil, Q112, List.set_cons_zero, List.set_cons_succ, and_self, Nat.le_refl, Q114, Q115, Q116, Q0, Q1, Q2, Q3, Q4, Q5, Q6, Q7, Q8, Q9, Q10, Q11, Q12, Q13, Q14, Q15, Q16, Q17, Q18, Q19, Q20, Q21, Q22, Q23, Q24, Q25, Q26, Q27, Q28, Q29, Q30, Q31, Q32, Q33, Q35, Q36, Q37, Q38, Q39, Q40, Q41, Q42, Q43, Q44, Q45, Q46, Q47, Q48, Q49, Q50, Q51, Q52, Q53, Q54, Q55, Q56, Q57, Q58, Q59, Q60, Q61, Q62, Q63, Q64, Q65, Q66, Q67, Q68, Q69, Q70, Q71, Q72, Q73, Q99, Q100, Q101, Q102, Q103, Q74, Q75, Q77, Q78, Q79, Q80, Q81, Q82, Q83, Q84, clr, List.length_nil, List.length_cons, List.getElem?_cons_zero, List.getElem?_cons_succ, Nat.reduceAdd, Nat.zero_add, Nat.add_zero, Nat.reduceLeDiff, Nat.reduceSub, ↓reduceIte, List.drop_succ_cons, List.drop_zero, List.take_succ_cons, List.take_zero, Bool.false_eq_true, List.nil_append, List.cons_append, Bool.not_true, Bool.not_false, cond_true, cond_false, bne, Q85, Q86, Q87, Q88, Q89, Q90, Q91, Q92, Q93, Q94, Q95, Q96, Q97, Q98, Q110, Q111, Q116, Q117, Q118, Q119, Q120, Q121, Q122, Q123, Option.map_some, Option.map_none, Q34]
        · rcases List.mem_or_eq_of_mem_set he with h | rfl
          · exact hds e h
          · exact el9_ok
      · have hie : i = m := by omega
        subst hie
        have hlt := lt_f (n := i)
        refine ⟨.exit 0, V9 x b 2 i i .junk (.v (.bool false)), _, ?_, rfl, ds, _, rfl, rfl⟩
        simp only [V9, c9_11, c9_7, hlt, Q0, Q1, Q2, Q3, Q4, Q5, Q6, Q7, Q8, Q9, Q10, Q11, Q12, Q13, Q14, Q15, Q16, Q17, Q18, Q19, Q20, Q21, Q22, Q23, Q24, Q25, Q26, Q27, Q28, Q29, Q30, Q31, Q32, Q33, Q35, Q36, Q37, Q38, Q39, Q40, Q41, Q42, Q43, Q44, Q45, Q46, Q47, Q48, Q49, Q50, Q51, Q52, Q53, Q54, Q55, Q56, Q57, Q58, Q59, Q60, Q61, Q62, Q63, Q64, Q65, Q66, Q67, Q68, Q69, Q70, Q71, Q72, Q73, Q99, Q100, Q101, Q102, Q103, Q74, Q75, Q77, Q78, Q79, Q80, Q81, Q82, Q83, Q84, clr, List.length_nil, List.length_cons, List.getElem?_cons_zero, List.getElem?_cons_succ, Nat.reduceAdd, Nat.zero_add, Nat.add_zero, Nat.reduceLeDiff, Nat.reduceSub, ↓reduceIte, List.drop_succ_cons, List.drop_zero, List.take_succ_cons, List.take_zero, Bool.false_eq_true, List.nil_append, List.cons_append, Bool.not_true, Bool.not_false, cond_true, cond_false, bne, Q85, Q86, Q87, Q88, Q89, Q90, Q91, Q92, Q93, Q94, Q95, Q96, Q97, Q98, Q110, Q111, Q116, Q117, Q118, Q119, Q120, Q121, Q122, Q123, Option.map_some, Option.map_none, Q34])
  obtain ⟨rfl, ds', x7, rfl, rfl⟩ := g3
  exact ⟨ds', x7, g1⟩
end Go.AE.YtgcbaefclkfnoaaDoor
end

/-! TermVars carried out. -/
section
set_option linter.unusedVariables false
set_option linter.unusedSimpArgs false
namespace Go.AE.YtgcbaefclkfnoaaDoor
open Go Go.AE Go.Proofs.YtgcbaefclkfnoaaDoor
open Go.Proofs.YtgcbaefclkfnoaaDoor.W (c9 c9_0 c9_1 c9_2 c9_3 c9_4 c9_5 c9_6 c9_7 c9_8 c9_9 c9_10 c9_11 c9_12 c9_13 c9_14 ok9)

structure Facts (C : CallF) (a : AV) (t : Tm) (x : Int) (u : Tm) (s d A Bv s2 : AV) : Prop where
  live : C 12 [] [] = some (.v (.bool true), [])
  big : C 13 [.slc 4 true true [a]] [] = some (.v (.bool false), [])
  sh : C 23 [a, .v (.int .i64 x)] [] = some (s, [])
  rsh : C 30 [a, .v (.int .i64 x)] [] = some (s2, [])
  vars : C 32 [a] [] = some (A, [])
  rvars : C 33 [a] [] = some (Bv, [])
  nums : C 31 [A, Bv] [] = some (.v (.bool true), [])
  rcopy : C 34 [a] [] = some (d, [])
  hs : IsT s u
  hs2 : IsT s2 u
  hd : IsT d t
  sA : ∀ h : List AO, A.snap1 h = some A
  sB : ∀ h : List AO, Bv.snap1 h = some Bv
theorem isL_rd {c : AV} {l : List Tm} (h : IsL c l) : ∃ es, All2 es l ∧ es.length ≤ maxLen ∧ c.cl = some [c] ∧ ∀ H, Rd H true 4 c es := by
  obtain ⟨es, h1, h2, h3⟩ := h.sl
  exact ⟨es, h2, h3, h1.cl, fun H => Rd.sl h1 (fun e he => by
    obtain ⟨i, hi⟩ := List.getElem?_of_mem he
    obtain ⟨t, _, ht⟩ := h2.get hi
    exact ht.elm)⟩
theorem all2_el {es : List AV} {l : List Tm} (h : All2 es l) : ∀ e ∈ es, El true 4 e := fun e he => by
  obtain ⟨i, hi⟩ := List.getElem?_of_mem he
  obtain ⟨t, _, ht⟩ := h.get hi
  exact ht.elm
set_option maxHeartbeats 1000000 in
theorem vars9_run {C : CallF} {k : Int} {str : ByteArray} {n : Int} {c : AV} {l : List Tm} {x : Int} {s d A Bv s2 : AV} {ut : Tm} (hf : Facts C (.agg [.v (.int .i64 k), .v (.string str), .v (.int .i64 n), c]) (.mk k str n l) x ut s d A Bv s2)
    (hc : IsL c l) (hm : l.length ≤ 100000) (ds : List AV) (hds : All2 ds l)
    (hcp : ∀ h : List AO, C 24 [.agg [.v (.int .i64 k), .v (.string str), .v (.int .i64 n), c]] h = some (.agg [.v (.int .i64 k), .v (.string str), .v (.int .i64 n), .own 4 h.length 0 0 l.length], h ++ [.row 24 4 0 ds 0]))
    (hsm : ∀ args h, C 15 args h = callW F 15 args h) : leave 0 c9 (exec C (l.length + 1) c9.body (start c9 [.agg [.v (.int .i64 k), .v (.string str), .v (.int .i64 n), c], .v (.int .i64 x)]) []) = some (.v (.bool true), []) := by
  rw [leave_lv]
  obtain ⟨hlive, hbig, hsh, hrsh, hvars, hrvars, hnums, hrcopy, hs, hs2, hd, sA, sB⟩ := hf
  have ha : IsT (.agg [.v (.int .i64 k), .v (.string str), .v (.int .i64 n), c]) (.mk k str n l) := .mk k str n c l hc
  have hfa := ha.facts
  have hdl := hds.length
  obtain ⟨es, r1, r2, r3, r4⟩ := isL_rd hc
  have b1 : ∀ h : List AO, bs1 h 4 (some (.agg [.v (.int .i64 k), .v (.string str), .v (.int .i64 n), c])) = some (.slc 4 true true [.agg [.v (.int .i64 k), .v (.string str), .v (.int .i64 n), c]], h) := fun h => bs1_some ha.cl.1 ha.cl.2
  have sl : ∀ h : List AO, (AV.slc 4 true true [.agg [.v (.int .i64 k), .v (.string str), .v (.int .i64 n), c]]).snap1 h = some (.slc 4 true true [.agg [.v (.int .i64 k), .v (.string str), .v (.int .i64 n), c]]) := fun _ => rfl
  have hbel : ∀ (m : Nat), AO.below m (tb k n str c) = true := fun m => below_mono (Nat.zero_le _) _ (show AO.below 0 (.box 24 [.v (.int .i64 k), .v (.string str), .v (.int .i64 n), c]) = true from ha.bel)
  -- the copy is the same
  have S1 : C 15 [.agg [.v (.int .i64 k), .v (.string str), .v (.int .i64 n), .own 4 1 0 0 l.length], .agg [.v (.int .i64 k), .v (.string str), .v (.int .i64 n), c]] [tb k n str c, .row 24 4 0 ds 0, tb k n str (.own 4 1 0 0 l.length)] = some (.v (.bool true), [tb k n str c, .row 24 4 0 ds 0, tb k n str (.own 4 1 0 0 l.length)]) := by
    rw [hsm]
    refine rsame_at (H := [tb k n str c, .row 24 4 0 ds 0, tb k n str (.own 4 1 0 0 l.length)]) (by simp only [List.all_cons, List.all_nil, hbel, Bool.and_true, Bool.true_and]; rfl) (fun X => by rw [← hdl]; exact Rd.own (rt := 24) (id := 1) (k := 0) rfl (all2_el hds)) (fun X => r4 _) hds r1 (by rw [hdl]; exact small_max hm) rfl r3
  obtain ⟨ds', x7, lp⟩ := vars9_loop (C := C) (x := x) (b := true) (a0 := tb k n str c) (k := k) (n := n) (s := str) hm ds hdl (all2_el hds) [.agg [.v (.int .i64 k), .v (.string str), .v (.int .i64 n), c], .v (.int .i64 x), .ptr 0 0, .v (.bool false), .v (.bool true), .ptr 2 0, .v (.bool true), .v undef, .v undef, .v (.bool false), .v (.int .i64 l.length), .v (.int .i64 0), .v undef] rfl
  have hsf := hs.facts
  have hs2f := hs2.facts
  have hdf := hd.facts
  have hsel := hs.bel
  cases hs with
  | mk ks ss ns cs ls hcs =>
  cases hs2 with
  | mk _ _ _ cs2 _ hcs2 =>
  cases hd with
  | mk _ _ _ cd _ hcd =>
  obtain ⟨e1, p1, p2, p3, p4⟩ := isL_rd hcs
  obtain ⟨e2, q1, q2, q3, q4⟩ := isL_rd hcs2
  obtain ⟨e3, o1, o2, o3, o4⟩ := isL_rd hcd
  have hbs : ∀ (m : Nat), AO.below m (tb ks ns ss cs) = true := fun m => below_mono (Nat.zero_le _) _ (show AO.below 0 (.box 24 [.v (.int .i64 ks), .v (.string ss), .v (.int .i64 ns), cs]) = true from hsel)
  obtain ⟨H4, hH4⟩ : ∃ H4, [tb k n str c, .row 24 4 0 ds' 0, tb k n str (.own 4 1 0 0 l.length), tb ks ns ss cs] = H4 := ⟨_, rfl⟩
  have hb4 : H4.all (AO.below H4.length) = true := by
    rw [← hH4]
    simp only [List.all_cons, List.all_nil, hbel, hbs, Bool.and_true, Bool.true_and]; rfl
  have S2 : C 15 [.agg [.v (.int .i64 ks), .v (.string ss), .v (.int .i64 ns), cs], .agg [.v (.int .i64 ks), .v (.string ss), .v (.int .i64 ns), cs2]] H4 = some (.v (.bool true), H4) := by
    rw [hsm]
    exact rsame_at hb4 (fun X => p4 _) (fun X => q4 _) p1 q1 p2 p3 q3
  have S3 : C 15 [.agg [.v (.int .i64 k), .v (.string str), .v (.int .i64 n), .own 4 4 0 0 l.length], .agg [.v (.int .i64 k), .v (.string str), .v (.int .i64 n), cd]] (H4 ++ [.row 24 4 0 ds 0]) = some (.v (.bool true), H4 ++ [.row 24 4 0 ds 0]) := by
    rw [hsm]
    refine rsame_at (by rw [List.all_append, Bool.and_eq_true]; exact ⟨all_below_mono (by simp) hb4, rfl⟩) (fun X => by rw [← hdl]; exact Rd.own (rt := 24) (id := 4) (k := 0) (by rw [← hH4]; rfl) (all2_el hds)) (fun X => o4 _) hds o1 (by rw [hdl]; exact small_max hm) rfl o3
  have cp1 : C 24 [.agg [.v (.int .i64 k), .v (.string str), .v (.int .i64 n), c]] [tb k n str c] = some (.agg [.v (.int .i64 k), .v (.string str), .v (.int .i64 n), .own 4 1 0 0 l.length], [tb k n str c, .row 24 4 0 ds 0]) := hcp [tb k n str c]
  have cp4 := hcp H4
  rw [show H4.length = 4 by rw [← hH4]; rfl] at cp4
  have l40 : Q76 H4 true 4 (.ptr 0 0) = some (.agg [.v (.int .i64 k), .v (.string str), .v (.int .i64 n), c]) := by rw [← hH4]; rfl
  have l43 : Q76 H4 true 4 (.ptr 3 0) = some (.agg [.v (.int .i64 ks), .v (.string ss), .v (.int .i64 ns), cs]) := by rw [← hH4]; rfl
  have l50 : Q76 (H4 ++ [.row 24 4 0 ds 0]) true 4 (.ptr 0 0) = some (.agg [.v (.int .i64 k), .v (.string str), .v (.int .i64 n), c]) := by rw [← hH4]; rfl
  have bx0 : bx [] 24 (some [.v (.int .i64 k), .v (.string str), .v (.int .i64 n), c]) = some (.ptr 0 0, [tb k n str c]) := rfl
  have l00 : Q76 [tb k n str c] true 4 (.ptr 0 0) = some (.agg [.v (.int .i64 k), .v (.string str), .v (.int .i64 n), c]) := rfl
  have bx2 : bx [tb k n str c, .row 24 4 0 ds 0] 24 (some [.v (.int .i64 0), .v (.string ⟨#[]⟩), .v (.int .i64 0), .v (.slice none 0 0)]) = some (.ptr 2 0, [tb k n str c, .row 24 4 0 ds 0, .box 24 [.v (.int .i64 0), .v (.string ⟨#[]⟩), .v (.int .i64 0), .v (.slice none 0 0)]]) := rfl
  have st2 : Q113 [tb k n str c, .row 24 4 0 ds 0, .box 24 [.v (.int .i64 0), .v (.string ⟨#[]⟩), .v (.int .i64 0), .v (.slice none 0 0)]] 4 (.ptr 2 0) (.agg [.v (.int .i64 k), .v (.string str), .v (.int .i64 n), .own 4 1 0 0 l.length]) = some [tb k n str c, .row 24 4 0 ds 0, tb k n str (.own 4 1 0 0 l.length)] := rfl
  have l32 : Q76 [tb k n str c, .row 24 4 0 ds 0, tb k n str (.own 4 1 0 0 l.length)] true 4 (.ptr 2 0) = some (.agg [.v (.int .i64 k), .v (.string str), .v (.int .i64 n), .own 4 1 0 0 l.length]) := rfl
  have l30 : Q76 [tb k n str c, .row 24 4 0 ds 0, tb k n str (.own 4 1 0 0 l.length)] true 4 (.ptr 0 0) = some (.agg [.v (.int .i64 k), .v (.string str), .v (.int .i64 n), c]) := rfl
  have l33 : Q76 [tb k n str c, .row 24 4 0 ds 0, tb k n str (.own 4 1 0 0 l.length)] false 1 (.ptr 2 3) = some (.own 4 1 0 0 l.length) := rfl
  have ln : evLen [tb k n str c, .row 24 4 0 ds 0, tb k n str (.own 4 1 0 0 l.length)] .slice (.own 4 1 0 0 l.length) = some l.length := row_len (rt := 24) (k := 0) (l := ds) rfl (by omega)
  have l30' : Q76 [tb k n str c, .row 24 4 0 ds' 0, tb k n str (.own 4 1 0 0 l.length)] true 4 (.ptr 0 0) = some (.agg [.v (.int .i64 k), .v (.string str), .v (.int .i64 n), c]) := rfl
  have bx3 : bx [tb k n str c, .row 24 4 0 ds' 0, tb k n str (.own 4 1 0 0 l.length)] 24 (some [.v (.int .i64 0), .v (.string ⟨#[]⟩), .v (.int .i64 0), .v (.slice none 0 0)]) = some (.ptr 3 0, [tb k n str c, .row 24 4 0 ds' 0, tb k n str (.own 4 1 0 0 l.length), .box 24 [.v (.int .i64 0), .v (.string ⟨#[]⟩), .v (.int .i64 0), .v (.slice none 0 0)]]) := rfl
  have st3 : Q113 [tb k n str c, .row 24 4 0 ds' 0, tb k n str (.own 4 1 0 0 l.length), .box 24 [.v (.int .i64 0), .v (.string ⟨#[]⟩), .v (.int .i64 0), .v (.slice none 0 0)]] 4 (.ptr 3 0) (.agg [.v (.int .i64 ks), .v (.string ss), .v (.int .i64 ns), cs]) = some H4 := by rw [← hH4]; rfl
  have hfa2 := hfa.2.1
  have hsn2 := hsf.2.1
  have hsn3 := hs2f.2.1
  have hsn4 := hdf.2.1
  have fin : ∀ v : List AV, v.length = 13 → v.getD 3 .junk = .v (.bool true) → lvf (H4 ++ [.row 24 4 0 ds 0]) (v.getD 3 .junk) = some (.v (.bool true), []) := fun v _ h => by rw [h]; rfl
  rw [show c9.body = (.seq (.region [] [] c9_0) (.seq (.region [] [] c9_1) (.seq (.seq (.region [] [] c9_2) (.cond (.var 9) (.seq (.region [] [] c9_3) .ret) .skip)) (.seq (.region [] [] c9_4) (.seq (.region [] [] c9_5) (.seq (.seq (.region [] [] c9_6) (.block 0 (.loop K9 [] c9_11))) (.seq (.region [] [] c9_12) (.seq (.region [] [] c9_13) (.seq (.region [] [] c9_14) .ret))))))))) from rfl, show c9.res = [.var 3] from rfl]
  rw [show ∀ p q : AV, start c9 [p, q] = [p, q, .v undef, .v undef, .v undef, .v undef, .v undef, .v undef, .v undef, .v undef, .v undef, .v undef, .v undef] from fun _ _ => rfl]
  generalize c9_11 = bb at lp ⊢
  simp only [V9, c9_0, c9_1, c9_2, c9_4, c9_5, c9_6, c9_12, c9_13, c9_14, hlive, hbig, b1, sl, bx0, l00, cp1, bx2, st2, l32, l30, S1, l33, ln, lp, l30', hsh, bx3, st3, l43, l40, hrsh, S2, hvars, hrvars, hnums, cp4, l50, hrcopy, S3, hfa2, sA, sB, snap_int, q9z, Q104, e_callh, List.map_cons, List.map_nil, Q0, Q1, Q2, Q3, Q4, Q5, Q6, Q7, Q8, Q9, Q10, Q11, Q12, Q13, Q14, Q15, Q16, Q17, Q18, Q19, Q20, Q21, Q22, Q23, Q24, Q25, Q26, Q27, Q28, Q29, Q30, Q31, Q32, Q33, Q35, Q36, Q37, Q38, Q39, Q40, Q41, Q42, Q43, Q44, Q45, Q46, Q47, Q48, Q49, Q50, Q51, Q52, Q53, Q54, Q55, Q56, Q57, Q58, Q59, Q60, Q61, Q62, Q63, Q64, Q65, Q66, Q67, Q68, Q69, Q70, Q71, Q72, Q73, Q99, Q100, Q101, Q102, Q103, Q74, Q75, Q77, Q78, Q79, Q80, Q81, Q82, Q83, Q84, clr, List.length_nil, List.length_cons, List.getElem?_cons_zero, List.getElem?_cons_succ, Nat.reduceAdd, Nat.zero_add, Nat.add_zero, Nat.reduceLeDiff, Nat.reduceSub, ↓reduceIte, List.drop_succ_cons, List.drop_zero, List.take_succ_cons, List.take_zero, Bool.false_eq_true, List.nil_append, List.cons_append, Bool.not_true, Bool.not_false, cond_true, cond_false, bne, Q85, Q86, Q87, Q88, Q89, Q90, Q91, Q92, Q93, Q94, Q95, Q96, Q97, Q98, Q110, Q111, Q116, Q117, Q118, Q119, Q120, Q121, Q122, Q123, Option.map_some, Option.map_none]
set_option maxHeartbeats 1000000 in
theorem vars9_run0 {C : CallF} {k : Int} {str : ByteArray} {n : Int} {c : AV} {x : Int} {s d A Bv s2 : AV} {ut : Tm} (hf : Facts C (.agg [.v (.int .i64 k), .v (.string str), .v (.int .i64 n), c]) (.mk k str n []) x ut s d A Bv s2)
    (hc : IsL c []) (c0 : AV) (hc0 : IsL c0 [])
    (hcp : ∀ h : List AO, C 24 [.agg [.v (.int .i64 k), .v (.string str), .v (.int .i64 n), c]] h = some (.agg [.v (.int .i64 k), .v (.string str), .v (.int .i64 n), c0], h))
    (hsm : ∀ args h, C 15 args h = callW F 15 args h) : leave 0 c9 (exec C 1 c9.body (start c9 [.agg [.v (.int .i64 k), .v (.string str), .v (.int .i64 n), c], .v (.int .i64 x)]) []) = some (.v (.bool true), []) := by
  rw [leave_lv]
  obtain ⟨hlive, hbig, hsh, hrsh, hvars, hrvars, hnums, hrcopy, hs, hs2, hd, sA, sB⟩ := hf
  have ha : IsT (.agg [.v (.int .i64 k), .v (.string str), .v (.int .i64 n), c]) (.mk k str n []) := .mk k str n c [] hc
  have hfa := ha.facts
  obtain ⟨es0, t1, t2, t3, t4⟩ := isL_rd hc0
  have hdl := t1.length
  obtain ⟨es, r1, r2, r3, r4⟩ := isL_rd hc
  have b1 : ∀ h : List AO, bs1 h 4 (some (.agg [.v (.int .i64 k), .v (.string str), .v (.int .i64 n), c])) = some (.slc 4 true true [.agg [.v (.int .i64 k), .v (.string str), .v (.int .i64 n), c]], h) := fun h => bs1_some ha.cl.1 ha.cl.2
  have sl : ∀ h : List AO, (AV.slc 4 true true [.agg [.v (.int .i64 k), .v (.string str), .v (.int .i64 n), c]]).snap1 h = some (.slc 4 true true [.agg [.v (.int .i64 k), .v (.string str), .v (.int .i64 n), c]]) := fun _ => rfl
  have hbel : ∀ (m : Nat), AO.below m (tb k n str c) = true := fun m => below_mono (Nat.zero_le _) _ (show AO.below 0 (.box 24 [.v (.int .i64 k), .v (.string str), .v (.int .i64 n), c]) = true from ha.bel)
  have hb0 : ∀ (m : Nat), AO.below m (tb k n str c0) = true := fun m => below_mono (Nat.zero_le _) _ (show AO.below 0 (.box 24 [.v (.int .i64 k), .v (.string str), .v (.int .i64 n), c0]) = true from (IsT.mk k str n c0 [] hc0).bel)
  have S1 : C 15 [.agg [.v (.int .i64 k), .v (.string str), .v (.int .i64 n), c0], .agg [.v (.int .i64 k), .v (.string str), .v (.int .i64 n), c]] [tb k n str c, tb k n str c0] = some (.v (.bool true), [tb k n str c, tb k n str c0]) := by
    rw [hsm]
    exact rsame_at (by simp only [List.all_cons, List.all_nil, hbel, hb0, Bool.and_true, Bool.true_and]) (fun X => t4 _) (fun X => r4 _) t1 r1 t2 t3 r3
  have lp : loopN (exec C 1 c9_11) K9 1 [.agg [.v (.int .i64 k), .v (.string str), .v (.int .i64 n), c], .v (.int .i64 x), .ptr 0 0, .v (.bool false), .v (.bool true), .ptr 1 0, .v (.bool true), .v undef, .v undef, .v (.bool false), .v (.int .i64 (0 : Nat)), .v (.int .i64 0), .v undef] [tb k n str c, tb k n str c0] = some (.exit 0, V9 x true 1 (0 : Nat) (0 : Nat) .junk (.v (.bool false)), [tb k n str c, tb k n str c0]) := by
    have hlt := lt_f (n := 0)
    refine loop_exit (n := 0) ?_
    show exec C 1 c9_11 (V9 x true 1 (0 : Nat) (0 : Nat) .junk .junk) _ = _
    simp only [V9, c9_11, c9_7, hlt, Q0, Q1, Q2, Q3, Q4, Q5, Q6, Q7, Q8, Q9, Q10, Q11, Q12, Q13, Q14, Q15, Q16, Q17, Q18, Q19, Q20, Q21, Q22, Q23, Q24, Q25, Q26, Q27, Q28, Q29, Q30, Q31, Q32, Q33, Q35, Q36, Q37, Q38, Q39, Q40, Q41, Q42, Q43, Q44, Q45, Q46, Q47, Q48, Q49, Q50, Q51, Q52, Q53, Q54, Q55, Q56, Q57, Q58, Q59, Q60, Q61, Q62, Q63, Q64, Q65, Q66, Q67, Q68, Q69, Q70, Q71, Q72, Q73, Q99, Q100, Q101, Q102, Q103, Q74, Q75, Q77, Q78, Q79, Q80, Q81, Q82, Q83, Q84, clr, List.length_nil, List.length_cons, List.getElem?_cons_zero, List.getElem?_cons_succ, Nat.reduceAdd, Nat.zero_add, Nat.add_zero, Nat.reduceLeDiff, Nat.reduceSub, ↓reduceIte, List.drop_succ_cons, List.drop_zero, List.take_succ_cons, List.take_zero, Bool.false_eq_true, List.nil_append, List.cons_append, Bool.not_true, Bool.not_false, cond_true, cond_false, bne, Q85, Q86, Q87, Q88, Q89, Q90, Q91, Q92, Q93, Q94, Q95, Q96, Q97, Q98, Q110, Q111, Q116, Q117, Q118, Q119, Q120, Q121, Q122, Q123, Option.map_some, Option.map_none, Q34]
  have hsf := hs.facts
  have hs2f := hs2.facts
  have hdf := hd.facts
  have hsel := hs.bel
  cases hs with
  | mk ks ss ns cs ls hcs =>
  cases hs2 with
  | mk _ _ _ cs2 _ hcs2 =>
  cases hd with
  | mk _ _ _ cd _ hcd =>
  obtain ⟨e1, p1, p2, p3, p4⟩ := isL_rd hcs
  obtain ⟨e2, q1, q2, q3, q4⟩ := isL_rd hcs2
  obtain ⟨e3, o1, o2, o3, o4⟩ := isL_rd hcd
  have hbs : ∀ (m : Nat), AO.below m (tb ks ns ss cs) = true := fun m => below_mono (Nat.zero_le _) _ (show AO.below 0 (.box 24 [.v (.int .i64 ks), .v (.string ss), .v (.int .i64 ns), cs]) = true from hsel)
  obtain ⟨H4, hH4⟩ : ∃ H4, [tb k n str c, tb k n str c0, tb ks ns ss cs] = H4 := ⟨_, rfl⟩
  have hb4 : H4.all (AO.below H4.length) = true := by
    rw [← hH4]
    simp only [List.all_cons, List.all_nil, hbel, hb0, hbs, Bool.and_true, Bool.true_and]
  have S2 : C 15 [.agg [.v (.int .i64 ks), .v (.string ss), .v (.int .i64 ns), cs], .agg [.v (.int .i64 ks), .v (.string ss), .v (.int .i64 ns), cs2]] H4 = some (.v (.bool true), H4) := by
    rw [hsm]
    exact rsame_at hb4 (fun X => p4 _) (fun X => q4 _) p1 q1 p2 p3 q3
  have S3 : C 15 [.agg [.v (.int .i64 k), .v (.string str), .v (.int .i64 n), c0], .agg [.v (.int .i64 k), .v (.string str), .v (.int .i64 n), cd]] (H4) = some (.v (.bool true), H4) := by
    rw [hsm]
    exact rsame_at hb4 (fun X => t4 _) (fun X => o4 _) t1 o1 t2 t3 o3
  have cp1 : C 24 [.agg [.v (.int .i64 k), .v (.string str), .v (.int .i64 n), c]] [tb k n str c] = some (.agg [.v (.int .i64 k), .v (.string str), .v (.int .i64 n), c0], [tb k n str c]) := hcp [tb k n str c]
  have cp4 := hcp H4
  have l40 : Q76 H4 true 4 (.ptr 0 0) = some (.agg [.v (.int .i64 k), .v (.string str), .v (.int .i64 n), c]) := by rw [← hH4]; rfl
  have l43 : Q76 H4 true 4 (.ptr 2 0) = some (.agg [.v (.int .i64 ks), .v (.string ss), .v (.int .i64 ns), cs]) := by rw [← hH4]; rfl
  have l50_ : Q76 (H4) true 4 (.ptr 0 0) = some (.agg [.v (.int .i64 k), .v (.string str), .v (.int .i64 n), c]) := by rw [← hH4]; rfl
  have bx0 : bx [] 24 (some [.v (.int .i64 k), .v (.string str), .v (.int .i64 n), c]) = some (.ptr 0 0, [tb k n str c]) := rfl
  have l00 : Q76 [tb k n str c] true 4 (.ptr 0 0) = some (.agg [.v (.int .i64 k), .v (.string str), .v (.int .i64 n), c]) := rfl
  have bx2 : bx [tb k n str c] 24 (some [.v (.int .i64 0), .v (.string ⟨#[]⟩), .v (.int .i64 0), .v (.slice none 0 0)]) = some (.ptr 1 0, [tb k n str c, .box 24 [.v (.int .i64 0), .v (.string ⟨#[]⟩), .v (.int .i64 0), .v (.slice none 0 0)]]) := rfl
  have st2 : Q113 [tb k n str c, .box 24 [.v (.int .i64 0), .v (.string ⟨#[]⟩), .v (.int .i64 0), .v (.slice none 0 0)]] 4 (.ptr 1 0) (.agg [.v (.int .i64 k), .v (.string str), .v (.int .i64 n), c0]) = some [tb k n str c, tb k n str c0] := rfl
  have l32 : Q76 [tb k n str c, tb k n str c0] true 4 (.ptr 1 0) = some (.agg [.v (.int .i64 k), .v (.string str), .v (.int .i64 n), c0]) := rfl
  have l30 : Q76 [tb k n str c, tb k n str c0] true 4 (.ptr 0 0) = some (.agg [.v (.int .i64 k), .v (.string str), .v (.int .i64 n), c]) := rfl
  have l33 : Q76 [tb k n str c, tb k n str c0] false 1 (.ptr 1 3) = some (c0) := rfl
  have t4' := t4 [tb k n str c, tb k n str c0]
  have hd0 : es0 = [] := List.length_eq_zero_iff.1 (by simpa using hdl)
  rw [hd0] at t4'
  have ln : evLen [tb k n str c, tb k n str c0] .slice (c0) = some 0 := by rw [t4'.len]; rfl
  have l30' : Q76 [tb k n str c, tb k n str c0] true 4 (.ptr 0 0) = some (.agg [.v (.int .i64 k), .v (.string str), .v (.int .i64 n), c]) := rfl
  have bx3 : bx [tb k n str c, tb k n str c0] 24 (some [.v (.int .i64 0), .v (.string ⟨#[]⟩), .v (.int .i64 0), .v (.slice none 0 0)]) = some (.ptr 2 0, [tb k n str c, tb k n str c0, .box 24 [.v (.int .i64 0), .v (.string ⟨#[]⟩), .v (.int .i64 0), .v (.slice none 0 0)]]) := rfl
  have st3 : Q113 [tb k n str c, tb k n str c0, .box 24 [.v (.int .i64 0), .v (.string ⟨#[]⟩), .v (.int .i64 0), .v (.slice none 0 0)]] 4 (.ptr 2 0) (.agg [.v (.int .i64 ks), .v (.string ss), .v (.int .i64 ns), cs]) = some H4 := by rw [← hH4]; rfl
  have hfa2 := hfa.2.1
  have hsn2 := hsf.2.1
  have hsn3 := hs2f.2.1
  have hsn4 := hdf.2.1
  have fin : ∀ v : List AV, v.length = 13 → v.getD 3 .junk = .v (.bool true) → lvf (H4) (v.getD 3 .junk) = some (.v (.bool true), []) := fun v _ h => by rw [h]; rfl
  rw [show c9.body = (.seq (.region [] [] c9_0) (.seq (.region [] [] c9_1) (.seq (.seq (.region [] [] c9_2) (.cond (.var 9) (.seq (.region [] [] c9_3) .ret) .skip)) (.seq (.region [] [] c9_4) (.seq (.region [] [] c9_5) (.seq (.seq (.region [] [] c9_6) (.block 0 (.loop K9 [] c9_11))) (.seq (.region [] [] c9_12) (.seq (.region [] [] c9_13) (.seq (.region [] [] c9_14) .ret))))))))) from rfl, show c9.res = [.var 3] from rfl]
  rw [show ∀ p q : AV, start c9 [p, q] = [p, q, .v undef, .v undef, .v undef, .v undef, .v undef, .v undef, .v undef, .v undef, .v undef, .v undef, .v undef] from fun _ _ => rfl]
  generalize c9_11 = bb at lp ⊢
  simp only [V9, c9_0, c9_1, c9_2, c9_4, c9_5, c9_6, c9_12, c9_13, c9_14, hlive, hbig, b1, sl, bx0, l00, cp1, bx2, st2, l32, l30, S1, l33, ln, lp, l30', hsh, bx3, st3, l43, l40, hrsh, S2, hvars, hrvars, hnums, cp4, hrcopy, S3, hfa2, sA, sB, snap_int, q9z, Q104, e_callh, List.map_cons, List.map_nil, Q0, Q1, Q2, Q3, Q4, Q5, Q6, Q7, Q8, Q9, Q10, Q11, Q12, Q13, Q14, Q15, Q16, Q17, Q18, Q19, Q20, Q21, Q22, Q23, Q24, Q25, Q26, Q27, Q28, Q29, Q30, Q31, Q32, Q33, Q35, Q36, Q37, Q38, Q39, Q40, Q41, Q42, Q43, Q44, Q45, Q46, Q47, Q48, Q49, Q50, Q51, Q52, Q53, Q54, Q55, Q56, Q57, Q58, Q59, Q60, Q61, Q62, Q63, Q64, Q65, Q66, Q67, Q68, Q69, Q70, Q71, Q72, Q73, Q99, Q100, Q101, Q102, Q103, Q74, Q75, Q77, Q78, Q79, Q80, Q81, Q82, Q83, Q84, clr, List.length_nil, List.length_cons, List.getElem?_cons_zero, List.getElem?_cons_succ, Nat.reduceAdd, Nat.zero_add, Nat.add_zero, Nat.reduceLeDiff, Nat.reduceSub, ↓reduceIte, List.drop_succ_cons, List.drop_zero, List.take_succ_cons, List.take_zero, Bool.false_eq_true, List.nil_append, List.cons_append, Bool.not_true, Bool.not_false, cond_true, cond_false, bne, Q85, Q86, Q87, Q88, Q89, Q90, Q91, Q92, Q93, Q94, Q95, Q96, Q97, Q98, Q110, Q111, Q116, Q117, Q118, Q119, Q120, Q121, Q122, Q123, Option.map_some, Option.map_none]
end Go.AE.YtgcbaefclkfnoaaDoor
end

/-! What all rows of this seat need: the world in which the library's two tables lie. -/
section
set_option linter.unusedVariables false
namespace Go.Proofs.YtgcbaefclkfnoaaDoor
open Go Go.AE Go.Proofs Go.RowKit Go.Lib Go.Shelf

def d32 : List Value := [0, 1, 28, 2, 29, 14, 24, 3, 30, 22, 20, 15, 25, 17, 4, 8, 31, 27, 13, 23, 21, 19, 16, 7, 26, 12, 18, 6, 11, 5, 10, 9].map fun z : Int => Value.int .u8 z
def d64 : List Value := [0, 1, 56, 2, 57, 49, 28, 3, 61, 58, 42, 50, 38, 29, 17, 4, 62, 47, 59, 36, 45, 43, 51, 22, 53, 39, 33, 30, 24, 18, 12, 5, 63, 55, 48, 27, 60, 41, 37, 16, 46, 35, 44, 21, 52, 32, 23, 11, 54, 26, 40, 15, 34, 20, 31, 10, 25, 14, 19, 9, 13, 8, 7, 6].map fun z : Int => Value.int .u8 z
def p10 : List Value := [1, 10, 100, 1000, 10000, 100000, 1000000, 10000000, 100000000, 1000000000, 10000000000, 100000000000, 1000000000000, 10000000000000, 100000000000000, 1000000000000000, 10000000000000000, 100000000000000000, 1000000000000000000, 10000000000000000000].map fun z : Int => Value.int .u64 z
noncomputable def laidWorld (os : Os) : World :=
  let w0 := World.holding Tryd.prog os ⟨#[], #[], []⟩
  let put (h : Array Obj) (g : Nat) (cs : Array Value) : Array Obj := h.modify g fun
    | .cells _ t frozen => .cells cs t frozen
    | o => o
  let h1 := put w0.heap (Tryd.lays196_ren.g 3) (Lib.firstTab.map fun z => Value.int .u8 z).toArray
  let h2 := put h1 (Tryd.lays196_ren.g 4) ((List.range 16).flatMap fun i => [Value.int .u8 (Lib.accLo i), Value.int .u8 (Lib.accHi i)]).toArray
  let h3 := put h2 4 d32.toArray
  let h4 := put h3 5 d64.toArray
  let h5 := put h4 3 p10.toArray
  { w0 with heap := h5 }
set_option maxRecDepth 1000000 in
theorem laid_met (os : Os) (args : Array Value) : laidMetH Tryd.prog Rows.termSizesRow.laid ((laidWorld os).forCall (fun _ _ => 0) ⟨#[], args, []⟩).memory :=
  (LaidIn.of_run (l := [("math/bits.deBruijn32tab", Rows.laid_math_bits_deBruijn32tab), ("math/bits.deBruijn64tab", Rows.laid_math_bits_deBruijn64tab), ("internal/strconv.uint64pow10", Rows.laid_internal_strconv_uint64pow10), ("unicode/utf8.acceptRanges", Rows.laid_unicode_utf8_acceptRanges), ("unicode/utf8.first", Rows.laid_unicode_utf8_first)]) [0, 1, 2, 3, 4, 5] 8 (by kernel_rfl) (by kernel_rfl) (by kernel_rfl) (by kernel_rfl)).met
def z64 : List Int := [0, 1, 56, 2, 57, 49, 28, 3, 61, 58, 42, 50, 38, 29, 17, 4, 62, 47, 59, 36, 45, 43, 51, 22, 53, 39, 33, 30, 24, 18, 12, 5, 63, 55, 48, 27, 60, 41, 37, 16, 46, 35, 44, 21, 52, 32, 23, 11, 54, 26, 40, 15, 34, 20, 31, 10, 25, 14, 19, 9, 13, 8, 7, 6]
theorem tz_of {W : World} (hL : laidMetH Tryd.prog Rows.termSizesRow.laid W) : W.cell? ⟨5, 15, none⟩ = some (.int .u8 4) ∧ 5 < W.heap.size := by
  obtain ⟨g, t, cs, fuel, p, hg, hty, hvar, hd⟩ := (Lib.laidMet.reads (l := Rows.termSizesRow.laid) hL (.tail _ (.head _)) : Lib.VarReads Tryd.prog W "math/bits.deBruijn64tab" Rows.laid_math_bits_deBruijn64tab)
  obtain rfl : g = 5 := Option.some.inj (hg.symm.trans (by kernel_rfl))
  obtain rfl : t = 122 := Option.some.inj (hty.symm.trans (by kernel_rfl))
  have hcs := Lib.cells_of_tab (zs := z64) Tryd.underlying122 Tryd.underlying5 (by kernel_rfl) (by kernel_rfl) hd
  have h1 := World.var?_cell hg hvar 15
  rw [← Array.getElem?_toList, hcs] at h1
  have h1 : W.cell? ⟨5, 15, none⟩ = some (.int .u8 4) := h1
  refine ⟨h1, ?_⟩
  unfold World.cell? at h1
  split at h1
  all_goals first
    | exact (Array.getElem?_eq_some_iff.1 ‹_›).1
    | cases h1
set_option maxRecDepth 1000000 in
theorem tabs_of {W : World} (hL : laidMetH Tryd.prog Rows.termSizesRow.laid W) : Lib.Utf8Tabs (Tryd.lays196_ren.g 3) (Tryd.lays196_ren.g 4) W ∧ (W.cell? ⟨5, 15, none⟩ = some (.int .u8 4) ∧ 5 < W.heap.size) :=
  ⟨utf8Tabs_of_readsT (U8Types.of196 Tryd.lays196) ⟨by kernel_rfl, by kernel_rfl, by kernel_rfl, by kernel_rfl, by kernel_rfl, by kernel_rfl, by kernel_rfl⟩ (Lib.laidMet.reads (l := Rows.termSizesRow.laid) hL (.tail _ (.tail _ (.tail _ (.tail _ (.head _)))))) (Lib.laidMet.reads (l := Rows.termSizesRow.laid) hL (.tail _ (.tail _ (.tail _ (.head _))))), tz_of hL⟩
end Go.Proofs.YtgcbaefclkfnoaaDoor
end

/-! TermVars: what the law's call comes to. -/
section
set_option linter.unusedVariables false
set_option linter.unusedSimpArgs false
namespace Go.AE.YtgcbaefclkfnoaaDoor
open Go Go.AE Go.Proofs Go.Proofs.YtgcbaefclkfnoaaDoor Go.RowKit
open Go.Proofs.YtgcbaefclkfnoaaDoor.W (c9 c9_0 c9_1 c9_2 c9_3 ok9)

open Classical in
theorem vars_law {a : AV} {t : Tm} {x : Int} (ha : IsT a t) (hr : rgT t) (hx : rg x) (Wd : World) (vals : Array Value) (hK : K Wd.heap.size Wd) (har : ArgsRep (AllCells Wd) Wd [] [a, .v (.int .i64 x)] vals) :
    Calls Tryd.prog 9 vals Wd fun e W' => e = .returned (.bool true) ∧ Below Wd.heap.size Wd W' := by
  have hI : AE.Inv Wd.heap.size Wd (AllCells Wd) [] Wd [] := ⟨Below.refl _ _, Nat.le_refl _, rfl, fun id o L h => by simp at h, fun id L h => by simp at h, fun i j Li Lj h => by simp at h, fun b x h => h⟩
  have hC : ∀ B w0, K B w0 → CallOk Tryd.prog B w0 (callW F) := fun B w0 hK => callW_callOk (fun n => callN_ok mixed hT hKs hF (fun f h => by cases h) n B w0 hK)
  have fin : ∀ (g : List AV → List AO → Option (AV × List AO)) (hg : ∀ B w0, K B w0 → ∀ args h r h', g args h = some (r, h') → (∀ (vals : Array Value) (w : World), (callFunc 24 vals).run Tryd.prog w = .ok (.enter 24 vals) w) ∧ ∀ I σ w (vals : Array Value), AE.Inv B w0 I σ w h → ArgsRep I w σ args vals → Calls Tryd.prog 24 vals w (AE.Ends B w0 I σ w r h'))
      (hX : ∀ args h r h', g args h = some (r, h') → ∃ X, h' = h ++ X) (k : Nat) (hl : leave 0 c9 (exec (withG (callW F) 24 g) k c9.body (start c9 [a, .v (.int .i64 x)]) []) = some (.v (.bool true), [])),
      Calls Tryd.prog 9 vals Wd fun e W' => e = .returned (.bool true) ∧ Below Wd.heap.size Wd W' := by
    intro g hg hX k hl
    refine (law_body mixed W.hT (withG_ok (hC _ _ hK) hKs hK hg) (fun f hf args h r h' he => ?_) ok9 har rfl hI hl).mono fun e W' h => ?_
    · have : f = 24 := by simpa [W.T, W.pushes] using hf
      subst this
      rw [withG_eq] at he
      exact hX _ _ _ _ he
    · obtain ⟨v, I', σ', rfl, hI', _, hr⟩ := h
      cases hr
      exact ⟨rfl, hI'.below⟩
  have b1 : ∀ h : List AO, bs1 h 4 (some a) = some (.slc 4 true true [a], h) := fun h => bs1_some ha.cl.1 ha.cl.2
  have sl : ∀ h : List AO, (AV.slc 4 true true [a]).snap1 h = some (.slc 4 true true [a]) := fun _ => rfl
  have hbig := big_ok (isL1 ha)
  have hlive := live_ok
  cases hB : bigT [t] with
  | true =>
    refine fin (fun _ _ => none) (fun _ _ _ _ _ _ _ he => by cases he) (fun _ _ _ _ he => by cases he) 0 ?_
    rw [hB] at hbig
    rw [leave_lv]
    have e12 : withG (callW F) 24 (fun _ _ => none) 12 [] [] = some (.v (.bool true), []) := (withG_ne (by decide)).trans hlive
    have e13 : withG (callW F) 24 (fun _ _ => none) 13 [.slc 4 true true [a]] [] = some (.v (.bool true), []) := (withG_ne (by decide)).trans hbig
    generalize withG (callW F) 24 (fun _ _ => none) = C at e12 e13
    have hfa := ha.facts
    have bxa : bx [] 24 (some a.cells) = some (.ptr 0 0, [.box 24 a.cells]) := rfl
    have e1 : Q76 [.box 24 a.cells] true 4 (.ptr 0 0) = some a := hfa.2.2.2.1 [] 24
    simp only [c9, start, List.replicate, c9_0, c9_1, c9_2, c9_3, e12, e13, hfa, bxa, e1, b1, sl, Q104, Q0, Q1, Q2, Q3, Q4, Q5, Q6, Q7, Q8, Q9, Q10, Q11, Q12, Q13, Q14, Q15, Q16, Q17, Q18, Q19, Q20, Q21, Q22, Q23, Q24, Q25, Q26, Q27, Q28, Q29, Q30, Q31, Q32, Q33, Q35, Q36, Q37, Q38, Q39, Q40, Q41, Q42, Q43, Q44, Q45, Q46, Q47, Q48, Q49, Q50, Q51, Q52, Q53, Q54, Q55, Q56, Q57, Q58, Q59, Q60, Q61, Q62, Q63, Q64, Q65, Q66, Q67, Q68, Q69, Q70, Q71, Q72, Q73, Q99, Q100, Q101, Q102, Q103, Q74, Q75, Q77, Q78, Q79, Q80, Q81, Q82, Q83, Q84, clr, List.length_nil, List.length_cons, List.getElem?_cons_zero, List.getElem?_cons_succ, Nat.reduceAdd, Nat.zero_add, Nat.add_zero, Nat.reduceLeDiff, Nat.reduceSub, ↓reduceIte, List.drop_succ_cons, List.drop_zero, List.take_succ_cons, List.take_zero, Bool.false_eq_true, List.nil_append, List.cons_append, Bool.not_true, Bool.not_false, cond_true, cond_false, bne, Q85, Q86, Q87, Q88, Q89, Q90, Q91, Q92, Q93, Q94, Q95, Q96, Q97, Q98, Q110, Q111, Q116, Q117, Q118, Q119, Q120, Q121, Q122, Q123, Option.map_some, Option.map_none]
  | false =>
    rw [hB] at hbig
    have hsz := big_size hB t (by simp)
    obtain ⟨s, hs, c1⟩ := shift34 x (by omega) ha
    obtain ⟨s2, hs2, c2⟩ := shift35 x _ t a (Nat.lt_succ_self _) (by omega) ha
    have v1 := vars32 ha hr (by omega)
    obtain ⟨rv, rs, v2⟩ := rvars_ok (by omega) ha
    rw [varsT_uq hr] at rs
    have hul := uq_len (plcT t)
    have hpl := plc_size t
    have nm := nums_ok (A := numsA (uq (plcT t))) (Bv := rv) (l := uq (plcT t)) (numsA_sl _) rs (by omega)
    obtain ⟨d, hd, c4⟩ := rcopy_ok (by omega) hr ha
    have facts : ∀ g, Facts (withG (callW F) 24 g) a t x (shiftT x t) s d (numsA (uq (plcT t))) rv s2 := fun g =>
      ⟨(withG_ne (by decide)).trans hlive, (withG_ne (by decide)).trans hbig, (withG_ne (by decide)).trans c1, (withG_ne (by decide)).trans c2, (withG_ne (by decide)).trans v1, (withG_ne (by decide)).trans v2, (withG_ne (by decide)).trans nm, (withG_ne (by decide)).trans c4, hs, hs2, hd, (numsA_sl _).snap, rs.snap⟩
    have hsm : ∀ g args h, withG (callW F) 24 g 15 args h = callW F 15 args h := fun g args h => withG_ne (by decide)
    have hent : ∀ (vals : Array Value) (w : World), (callFunc 24 vals).run Tryd.prog w = .ok (.enter 24 vals) w := fun vals w => CodeOk.enter ok24 vals w
    cases ha with
    | mk k str n c l hc =>
    have ha : IsT (.agg [.v (.int .i64 k), .v (.string str), .v (.int .i64 n), c]) (.mk k str n l) := .mk k str n c l hc
    rcases Nat.eq_zero_or_pos l.length with h0 | h0
    · obtain rfl : l = [] := List.length_eq_zero_iff.1 h0
      obtain ⟨r0, hr0, hcp⟩ := copy_ok (by omega) ha
      cases hr0 with
      | mk _ _ _ c0 _ hc0 =>
      refine fin (fun args h => if args = [.agg [.v (.int .i64 k), .v (.string str), .v (.int .i64 n), c]] then some (.agg [.v (.int .i64 k), .v (.string str), .v (.int .i64 n), c0], h) else none) (fun B w0 hK args h r h' he => ?_) (fun args h r h' he => ?_) 1 ?_
      · split at he
        · rename_i e
          cases he
          subst e
          exact ⟨hent, fun I σ w vals hI har => (hC B w0 hK).anywhere hcp hI (args_snap hI har (by simp [ha.snap]))⟩
        · cases he
      · split at he
        · cases he; exact ⟨[], by simp⟩
        · cases he
      · exact vars9_run0 (facts _) hc c0 hc0 (fun h => by rw [withG_eq, if_pos rfl]) (hsm _)
    · obtain ⟨ds, hds, hck⟩ := copyK (by omega) ha h0
      refine fin (fun args h => if args = [.agg [.v (.int .i64 k), .v (.string str), .v (.int .i64 n), c]] then some (.agg [.v (.int .i64 k), .v (.string str), .v (.int .i64 n), .own 4 h.length 0 0 l.length], h ++ [.row 24 4 0 ds 0]) else none) (fun B w0 hK args h r h' he => ?_) (fun args h r h' he => ?_) (l.length + 1) ?_
      · split at he
        · rename_i e
          cases he
          subst e
          exact ⟨hent, fun I σ w vals hI har => hck B w0 hK I σ w h vals hI har⟩
        · cases he
      · split at he
        · cases he; exact ⟨_, rfl⟩
        · cases he
      · exact vars9_run (facts _) hc (by have := sizeL_len l; rw [size] at hsz; omega) ds hds (fun h => by rw [withG_eq, if_pos rfl]) (hsm _)
end Go.AE.YtgcbaefclkfnoaaDoor
end

/-! The row and the card of TermVars, out of its plain law. -/
section
set_option linter.unusedVariables false
namespace Go.Proofs.YtgcbaefclkfnoaaDoor
open Go Go.AE Go.Proofs Go.ChangeShapes Go.WideShapes Go.ChangeAt Go.RowKit
open Go.ChangeMaps (open_string shut_string)
namespace termVars
theorem args {I : Cells} {W : World} {a0 a1 : AV} {v0 v1 : Value} (r0 : Rep I W [] a0 v0) (r1 : Rep I W [] a1 v1) : ArgsRep I W [] [a0, a1] #[v0, v1] := by
  refine ⟨rfl, fun i a h => ?_⟩
  match i, h with
  | 0, h => cases h; exact r0
  | 1, h => cases h; exact r1
def Plain : Prop := ∀ a0 a1 : AV, WT T 24 a0.cells → Q77 ti24.agg a0.cells = some a0 → WT T 2 a1.cells → Q77 ti2.agg a1.cells = some a1 →
  ∀ (Wd : World) (vals : Array Value), K Wd.heap.size Wd → ArgsRep (AllCells Wd) Wd [] [a0, a1] vals → Calls Tryd.prog 9 vals Wd fun e W' => e = .returned (.bool true) ∧ Below Wd.heap.size Wd W'

set_option maxRecDepth 100000 in
theorem lifted (plain : Plain) (os : Os) (started : os.Started) (H : Type) (enc : TypeId × Value → H) :
    ReturnsInHanded {} Tryd.checked os 9 .any (fun w args => (Rows.termVarsSpec.pre enc Tryd.prog Tryd.f9 [] false w args ∧ laidMetH Tryd.prog Rows.termVarsRow.laid w) ∧ sizedMet enc Tryd.prog Tryd.f9 (OpenSpec.ofChange Rows.termVarsSpec) false w args)
      (Rows.termVarsSpec.post enc Tryd.prog Tryd.f9 false true false false) := by
  refine returnsInHanded_of_change_and (C := Tryd.checked) (X := fun w _ => laidMetH Tryd.prog Rows.termVarsRow.laid w) (fun _ _ _ hh h => h.of_heap hh) own started (by kernel_rfl) Tryd.func9
    (ChangeSpec.witness_at (enc := enc) (C := Tryd.checked) (os := os) (X := fun w _ => laidMetH Tryd.prog Rows.termVarsRow.laid w) false (laidWorld os) #[ti24.zero, ti2.zero] 8 rfl (by kernel_rfl) (by kernel_rfl) (by kernel_rfl) (by kernel_rfl) (by kernel_rfl) (laid_met os _)) ?_
  intro W base args' ds gs before hval0 hW _ _ hL _
  have hval : ∀ (j : Nat) t v, Tryd.f9.params[j]? = some t → args'[j]? = some v → Value.okWide Tryd.prog W .any base t v := hval0
  have hW' := hW
  obtain ⟨p, q, hA0, hV, rfl, hfz, hnd⟩ := hW
  have hA : DataW.TrodAll enc Tryd.prog W 0 (fun _ => true) true Tryd.f9.params.toList args'.toList ds p := hA0
  rw [Tryd.params9] at hA hval
  obtain ⟨v0, vs0, d0, ds0, p0, q0, hargs, rfl, rfl, h0, r0⟩ := trodAll_cons hA
  obtain ⟨v1, vs1, d1, ds1, p1, q1, rfl, rfl, rfl, h1, r1⟩ := trodAll_cons r0
  obtain ⟨rfl, rfl, rfl⟩ := trodAll_nil r1
  obtain rfl : args' = #[v0, v1] := by cases args'; simp_all
  obtain ⟨rfl, rfl⟩ := trodVars_none hV
  obtain ⟨a0, w0, e0, x0⟩ := trod_arg hT hG (t := 24) (i := ti24) (by decide) rfl (hval 0 24 v0 rfl rfl) h0
  obtain ⟨a1, w1, e1, x1⟩ := trod_arg hT hG (t := 2) (i := ti2) (by decide) rfl (hval 1 2 v1 rfl rfl) h1
  have l0 : ∀ x ∈ p0, x.block < W.heap.size := by obtain ⟨m, hm⟩ := h0; exact DataW.trod_lt m _ _ _ hm
  have l1 : ∀ x ∈ p1, x.block < W.heap.size := by obtain ⟨m, hm⟩ := h1; exact DataW.trod_lt m _ _ _ hm
  refine (plain a0 a1 w0 e0 w1 e1 W _ ⟨rfl, tabs_of hL⟩ (args x0 x1)).mono fun e W' ⟨he, bel⟩ => ?_
  subst he
  exact ⟨_, rfl, _, _, _, [], _, [], hW', trodAll_mk1 (shut_bool Tryd.underlying4 _),
    (trodAll_cons_mk (Below.trod laidOut (by kernel_rfl) (of_decide_eq_true (by kernel_rfl)) h0 bel l0) (trodAll_cons_mk (Below.trod laidOut (by kernel_rfl) (of_decide_eq_true (by kernel_rfl)) h1 bel l1) trodAll_mk0)), rfl, bel.frame _, fun h => by cases h⟩
theorem over (plain : Plain) : Rows.termVarsRow.holds Tryd.pinned (OpenSpec.ofChange Rows.termVarsSpec) :=
  OpenClaim.holds_of_wide 9 Tryd.f9 rfl rfl rfl rfl rfl rfl rfl ⟨rfl, rfl, rfl, rfl, rfl⟩ rfl rfl rfl rfl rfl (by kernel_rfl) Tryd.func9 (by kernel_rfl)
    (of_decide_eq_true (by kernel_rfl)) (by unfold Func.isWrapper; first | (rw [if_pos (by decide +kernel)]; kernel_rfl) | (rw [if_neg (by decide +kernel)]; exact ⟨rfl, rfl⟩))
    (fun os started H enc _ => lifted plain os started H enc)
theorem proved (plain : Plain) : Rows.TermVarsCardSaid :=
  Claim7.holds_tied_plain_at .later [] Rows.termVarsCard.laidKinds true Rows.termVarsCard.stood.harness Rows.termVarsCard.stood.looks
    (over plain) (fun _ h => by cases h) (by kernel_rfl) (fun _ h => by cases h) termVars_row_tie rfl ⟨rfl, rfl⟩ (by kernel_rfl) rfl
    (fun f fn hf hfn => by
      obtain rfl : f = 9 := Option.some.inj ((show Tryd.prog.funcNamed Rows.termVarsRow.func = some 9 by kernel_rfl).symm.trans hf) |>.symm
      obtain rfl : fn = Tryd.f9 := (Option.some.inj (Tryd.func9.symm.trans hfn)).symm
      refine ⟨by kernel_rfl, fun j t ht => ?_⟩
      rw [Tryd.params9] at ht
      match j, ht with
      | 0, ht => cases ht; exact (show Tryd.prog.wantsStandIn 24 = false by kernel_rfl)
      | 1, ht => cases ht; exact (show Tryd.prog.wantsStandIn 2 = false by kernel_rfl)
      | _ + 2, ht => simp at ht)
    (by kernel_rfl)
end termVars
end Go.Proofs.YtgcbaefclkfnoaaDoor
end
