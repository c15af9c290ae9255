/- Texts of this claim, put together. -/
import Derived.Test.YtkdjdhfoodlnfaaPart1
import Derived.Test.YtkdjdhfoodlnfaaEval3
import Derived.Test.YtkdjdhfoodlnfaaEval4
/-! sort.Search; the least of places; whether a log is too great. -/
section
set_option linter.unusedVariables false
set_option linter.unusedSimpArgs false
namespace Go.AE.Ytkdjdhfoodlnfaa
open Go Go.AE Go.Proofs.Ytkdjdhfoodlnfaa

def cvI (k : IntKind) (h : List AO) : AV → Option (AV × List AO)
  | .v (.int _ n) => some (.v (.int k (k.wrap n)), h)
  | _ => none
theorem e_conv {call : CallF} {vars env : List AV} {h : List AO} {k : IntKind} {x : Opd} : evOp call vars env h (.conv k x) = cvI k h (getO vars env x) := by
  simp only [evOp, cvI]
  rfl
theorem cvI_int {k k' : IntKind} {h : List AO} {n : Int} : cvI k h (.v (.int k' n)) = some (.v (.int k (k.wrap n)), h) := rfl
theorem e_shf {call : CallF} {vars env : List AV} {h : List AO} {l : Bool} {x y : Opd} : evOp call vars env h (.shf l x y) = withH h (evShf l (getO vars env x) (getO vars env y)) := map_withH
theorem shf1 {a : Nat} : evShf false (.v (.int .u64 (a : Int))) (.v (.int .u64 1)) = some (.v (.int .u64 ((a / 2 : Nat) : Int))) := by
  have : ((a : Int).fdiv 2) = ((a / 2 : Nat) : Int) := by
    rw [Int.fdiv_eq_ediv_of_nonneg _ (by decide)]; omega
  simp only [evShf]
  have h2 : (2 : Int) ^ min (1 : Int).toNat IntKind.u64.bits = 2 := by decide
  rw [if_pos (by decide)]
  simp only [Bool.false_eq_true, if_false, h2, this]
theorem u64_nat {n : Nat} (h : n < 18446744073709551616) : IntKind.u64.wrap (n : Int) = n := by
  have h1 : IntKind.u64.wrap (n : Int) = (n : Int) % 18446744073709551616 := by
    simp [IntKind.wrap, IntKind.signed, IntKind.bits]
  rw [h1]; omega
theorem i64_nat {n : Nat} (h : n ≤ maxLen) : IntKind.i64.wrap (n : Int) = n := by
  have : maxLen = 9223372036854775807 := rfl
  rw [IntWalk.i64_in] <;> omega
theorem cast_add {i j : Nat} : ((i : Int) + (j : Int)) = ((i + j : Nat) : Int) := by omega
def V23 (f : AV) (i j : Int) : List AV := [.junk, f, .junk, .v (.int .i64 i), .v (.int .i64 j), .junk, .junk, .junk]
def K23 : List Bool := [false, true, false, true, true, false, false, false]
theorem search_ok {g : FuncId} {first cap : List AV} {H : List AO} {n : Nat} {p : Nat → Bool} (hb : H.all (AO.below H.length) = true) (hn : n ≤ 1000000) (hp : ∀ k, k < n → callW F g (first ++ [.v (.int .i64 k)] ++ cap) H = some (.v (.bool (p k)), H))
    (mono : ∀ a b, a ≤ b → b < n → p a = true → p b = true) :
    ∃ r : Nat, callW F 23 [.v (.int .i64 n), .fn (.func g) first cap] H = some (.v (.int .i64 r), H) ∧ r ≤ n ∧ (∀ k, k < r → p k = false) ∧ (r < n → p r = true) := by
  have hmx : maxLen = 9223372036854775807 := rfl
  obtain ⟨e, v', h', g1, g2, rfl, r, x7, rfl, q1, q2, q3, rfl⟩ := loop_rule0 (call := callW F) (K := n + 1) (b := c23_7) (keep := K23)
    (fun t v h => h = H ∧ ∃ i j : Nat, v = V23 (.fn (.func g) first cap) i j ∧ i ≤ j ∧ j ≤ n ∧ j - i + t ≤ n ∧ (∀ k, k < i → p k = false) ∧ (j < n → p j = true))
    (fun e v h => e = .exit 0 ∧ ∃ (r : Nat) (x7 : AV), v = [.junk, .fn (.func g) first cap, .junk, .v (.int .i64 r), .v (.int .i64 r), .junk, .v (.bool false), x7] ∧ r ≤ n ∧ (∀ k, k < r → p k = false) ∧ (r < n → p r = true) ∧ h = H)
    n (m := n + 1) (v := [.v (.int .i64 n), .fn (.func g) first cap, .v (.int .i64 0), .v (.int .i64 ((0 : Nat) : Int)), .v (.int .i64 n), .v undef, .v undef, .v undef]) (h := H) (by omega) ⟨rfl, 0, n, rfl, by omega, by omega, by omega, fun k hk => by omega, fun h => by omega⟩ (by
      rintro t v h ht ⟨rfl, i, j, rfl, hij, hjn, hd, a1, a2⟩
      by_cases hlt : i < j
      · have l1 := lt_t hlt
        have w1 := i64_nat (n := i + j) (by omega)
        have w2 := u64_nat (n := i + j) (by omega)
        have sh := shf1 (a := i + j)
        obtain ⟨m, hme⟩ : ∃ m, m = (i + j) / 2 := ⟨_, rfl⟩
        rw [← hme] at sh
        have w3 := i64_nat (n := m) (by omega)
        have hm : m < j := by omega
        have hm2 : i ≤ m := by omega
        have hc := hp m (by omega)
        have w4 : IntKind.i64.wrap ((m : Int) + 1) = ((m + 1 : Nat) : Int) := wrap_succ hm (by omega)
        cases hpm : p m with
        | true =>
          rw [hpm] at hc
          refine ⟨.normal, [.junk, .fn (.func g) first cap, .junk, .v (.int .i64 i), .v (.int .i64 m), .v (.int .i64 m), .v (.bool true), .v (.bool false)], h, ?_, by omega, rfl, i, m, rfl, hm2, by omega, by omega, a1, fun _ => hpm⟩
          simp only [V23, c23_7, c23_2, c23_3, c23_4, c23_6, l1, cast_add, e_conv, cvI_int, e_shf, sh, w1, w2, w3, w4, Q117, Q118, hc, Q0, Q1, Q2, Q3, Q4, Q5, Q6, Q7, Q8, Q9, Q10, Q11, Q12, Q13, Q14, Q15, Q16, Q17, Q18, Q19, Q20, Q21, Q22, Q23, Q24, Q25, Q26, Q27, Q28, Q29, Q30, Q31, Q32, Q33, Q35, Q36, Q37, Q38, Q39, Q40, Q41, Q42, Q43, Q44, Q45, Q46, Q47, Q48, Q49, Q50, Q51, Q52, Q53, Q54, Q55, Q56, Q57, Q58, Q59, Q60, Q61, Q62, Q63, Q64, Q65, Q66, Q67, Q68, Q69, Q70, Q71, Q72, Q73, Q99, Q100, Q101, Q102, Q103, Q74, Q75, Q77, Q78, Q79, Q80, Q81, Q82, Q83, Q84, clr, List.length_nil, List.length_cons, List.getElem?_cons_zero, List.getElem?_cons_succ, Nat.reduceAdd, Nat.zero_add, Nat.add_zero, Nat.reduceLeDiff, Nat.reduceSub, ↓reduceIte, List.drop_succ_cons, List.drop_zero, List.take_succ_cons, List.take_zero, Bool.false_eq_true, List.nil_append, List.cons_append, Bool.not_true, Bool.not_false, cond_true, cond_false, bne, Q85, Q86, Q87, Q88, Q89, Q90, Q91, Q92, Q93, Q94, Q95, Q96, Q97, Q98, Q110, Q111, Q116, Q117, Q118, Q119, Q120, Q121, Q122, Q123, Option.map_some, Option.map_none, Q34]
        | false =>
          rw [hpm] at hc
          refine ⟨.normal, [.junk, .fn (.func g) first cap, .junk, .v (.int .i64 ((m + 1 : Nat) : Int)), .v (.int .i64 j), .v (.int .i64 m), .v (.bool true), .v (.bool true)], h, ?_, by omega, rfl, m + 1, j, rfl, by omega, hjn, by omega, ?_, a2⟩
          · simp only [V23, c23_7, c23_2, c23_3, c23_4, c23_5, l1, cast_add, e_conv, cvI_int, e_shf, sh, w1, w2, w3, w4, Q117, Q118, hc, Q0, Q1, Q2, Q3, Q4, Q5, Q6, Q7, Q8, Q9, Q10, Q11, Q12, Q13, Q14, Q15, Q16, Q17, Q18, Q19, Q20, Q21, Q22, Q23, Q24, Q25, Q26, Q27, Q28, Q29, Q30, Q31, Q32, Q33, Q35, Q36, Q37, Q38, Q39, Q40, Q41, Q42, Q43, Q44, Q45, Q46, Q47, Q48, Q49, Q50, Q51, Q52, Q53, Q54, Q55, Q56, Q57, Q58, Q59, Q60, Q61, Q62, Q63, Q64, Q65, Q66, Q67, Q68, Q69, Q70, Q71, Q72, Q73, Q99, Q100, Q101, Q102, Q103, Q74, Q75, Q77, Q78, Q79, Q80, Q81, Q82, Q83, Q84, clr, List.length_nil, List.length_cons, List.getElem?_cons_zero, List.getElem?_cons_succ, Nat.reduceAdd, Nat.zero_add, Nat.add_zero, Nat.reduceLeDiff, Nat.reduceSub, ↓reduceIte, List.drop_succ_cons, List.drop_zero, List.take_succ_cons, List.take_zero, Bool.false_eq_true, List.nil_append, List.cons_append, Bool.not_true, Bool.not_false, cond_true, cond_false, bne, Q85, Q86, Q87, Q88, Q89, Q90, Q91, Q92, Q93, Q94, Q95, Q96, Q97, Q98, Q110, Q111, Q116, Q117, Q118, Q119, Q120, Q121, Q122, Q123, Option.map_some, Option.map_none, Q34]
          · intro k hk
            cases hpk : p k with
            | false => rfl
            | true => rw [mono k m (by omega) (by omega) hpk] at hpm; cases hpm
      · have hie : i = j := by omega
        subst hie
        have l1 := lt_f (n := i)
        refine ⟨.exit 0, [.junk, .fn (.func g) first cap, .junk, .v (.int .i64 i), .v (.int .i64 i), .junk, .v (.bool false), .junk], h, ?_, rfl, i, .junk, rfl, hjn, a1, a2, rfl⟩
        simp only [V23, c23_7, c23_2, l1, Q0, Q1, Q2, Q3, Q4, Q5, Q6, Q7, Q8, Q9, Q10, Q11, Q12, Q13, Q14, Q15, Q16, Q17, Q18, Q19, Q20, Q21, Q22, Q23, Q24, Q25, Q26, Q27, Q28, Q29, Q30, Q31, Q32, Q33, Q35, Q36, Q37, Q38, Q39, Q40, Q41, Q42, Q43, Q44, Q45, Q46, Q47, Q48, Q49, Q50, Q51, Q52, Q53, Q54, Q55, Q56, Q57, Q58, Q59, Q60, Q61, Q62, Q63, Q64, Q65, Q66, Q67, Q68, Q69, Q70, Q71, Q72, Q73, Q99, Q100, Q101, Q102, Q103, Q74, Q75, Q77, Q78, Q79, Q80, Q81, Q82, Q83, Q84, clr, List.length_nil, List.length_cons, List.getElem?_cons_zero, List.getElem?_cons_succ, Nat.reduceAdd, Nat.zero_add, Nat.add_zero, Nat.reduceLeDiff, Nat.reduceSub, ↓reduceIte, List.drop_succ_cons, List.drop_zero, List.take_succ_cons, List.take_zero, Bool.false_eq_true, List.nil_append, List.cons_append, Bool.not_true, Bool.not_false, cond_true, cond_false, bne, Q85, Q86, Q87, Q88, Q89, Q90, Q91, Q92, Q93, Q94, Q95, Q96, Q97, Q98, Q110, Q111, Q116, Q117, Q118, Q119, Q120, Q121, Q122, Q123, Option.map_some, Option.map_none, Q34])
  refine ⟨r, callW_own (c := c23) rfl rfl (n + 1) ?_, q1, q2, q3⟩
  rw [show c23.body = (.seq (.region [] [] c23_0) (.seq (.region [] [] c23_1) (.seq (.block 0 (.loop K23 [] c23_7)) (.seq (.region [] [] c23_8) .ret)))) from rfl]
  generalize c23_7 = bb at g1 ⊢
  have body : exec (callW F) (n + 1) (.seq (.region [] [] c23_0) (.seq (.region [] [] c23_1) (.seq (.block 0 (.loop K23 [] bb)) (.seq (.region [] [] c23_8) .ret)))) (start c23 [.v (.int .i64 n), .fn (.func g) first cap]) (h' ++ []) = some (.ret, [.junk, .fn (.func g) first cap, .v (.int .i64 r), .v (.int .i64 r), .v (.int .i64 r), .junk, .v (.bool false), x7], h' ++ []) := by
    rw [List.append_nil]
    have z : ((0 : Nat) : Int) = 0 := rfl
    rw [z] at g1
    simp only [c23, start, List.replicate, c23_0, c23_1, c23_8, g1, Q0, Q1, Q2, Q3, Q4, Q5, Q6, Q7, Q8, Q9, Q10, Q11, Q12, Q13, Q14, Q15, Q16, Q17, Q18, Q19, Q20, Q21, Q22, Q23, Q24, Q25, Q26, Q27, Q28, Q29, Q30, Q31, Q32, Q33, Q35, Q36, Q37, Q38, Q39, Q40, Q41, Q42, Q43, Q44, Q45, Q46, Q47, Q48, Q49, Q50, Q51, Q52, Q53, Q54, Q55, Q56, Q57, Q58, Q59, Q60, Q61, Q62, Q63, Q64, Q65, Q66, Q67, Q68, Q69, Q70, Q71, Q72, Q73, Q99, Q100, Q101, Q102, Q103, Q74, Q75, Q77, Q78, Q79, Q80, Q81, Q82, Q83, Q84, clr, List.length_nil, List.length_cons, List.getElem?_cons_zero, List.getElem?_cons_succ, Nat.reduceAdd, Nat.zero_add, Nat.add_zero, Nat.reduceLeDiff, Nat.reduceSub, ↓reduceIte, List.drop_succ_cons, List.drop_zero, List.take_succ_cons, List.take_zero, Bool.false_eq_true, List.nil_append, List.cons_append, Bool.not_true, Bool.not_false, cond_true, cond_false, bne, Q85, Q86, Q87, Q88, Q89, Q90, Q91, Q92, Q93, Q94, Q95, Q96, Q97, Q98, Q110, Q111, Q116, Q117, Q118, Q119, Q120, Q121, Q122, Q123, Option.map_some, Option.map_none, Q34]
  rw [body, leave_own rfl hb, show c23.res = [.var 2] from rfl, own_res1 (x := .v (.int .i64 r)) rfl]
  exact lvo_one rfl
/-! ### The least of places -/
def Nss (c : AV) (ll : List (List Int)) : Prop := ∃ es, Sl 1 c es ∧ AllR Ns es ll ∧ es.length ≤ maxLen
theorem Nss.len {c : AV} {l : List (List Int)} (h : Nss c l) (H : List AO) : evLen H .slice c = some l.length := by
  obtain ⟨es, hs, ha, _⟩ := h
  rw [← ha.length]; exact hs.len H
theorem Nss.max {c : AV} {l : List (List Int)} (h : Nss c l) : l.length ≤ maxLen := by
  obtain ⟨es, hs, ha, hm⟩ := h
  rw [← ha.length]; exact hm
theorem Nss.sn {c : AV} {l : List (List Int)} (h : Nss c l) (H : List AO) : c.snap1 H = some c := by
  obtain ⟨es, hs, _⟩ := h
  exact hs.sn1 H
theorem Ns.cells {c : AV} {x : List Int} (h : Ns c x) : c.cells = [c] := by
  obtain ⟨hs, _⟩ := h
  generalize x.map iv = es at hs
  cases hs <;> rfl
theorem Nss.at {c : AV} {l : List (List Int)} (h : Nss c l) {i : Nat} (hi : i < l.length) : ∃ d, (∀ H, iaV H 1 c (some i) = some (.ip [d])) ∧ Ns d l[i] := by
  obtain ⟨es, hs, ha, _⟩ := h
  obtain ⟨a, e1, e2⟩ := ha.get' (List.getElem?_eq_getElem hi)
  have q := fun H => hs.ia e1 H
  rw [Ns.cells e2] at q
  exact ⟨a, q, e2⟩
def cv (call : CallF) (h : List AO) (xs : List AV) : AV → Option (AV × List AO)
  | .fn (.func f) first cap => call f (first ++ xs ++ cap) h
  | _ => none
theorem e_callv {call : CallF} {vars env : List AV} {h : List AO} {x : Opd} {args : List Opd} : evOp call vars env h (.callv x args) = cv call h (args.map (getO vars env)) (getO vars env x) := by
  simp only [evOp, cv]
  rfl
theorem cv_fn {call : CallF} {h : List AO} {f : FuncId} {xs first cap : List AV} : cv call h xs (.fn (.func f) first cap) = call f (first ++ xs ++ cap) h := rfl
def leastL (m : List Int) : List (List Int) → List Int
  | [] => m
  | x :: l => leastL (if decide (cmpL x m < 0) = true then x else m) l
def V29 (c fn m : AV) (i : Int) : List AV := [c, fn, .junk, m, .v (.int .i64 i), .junk, .junk, .junk]
def K29 : List Bool := [true, true, false, true, true, false, false, false]
theorem g_fnk {vars env : List AV} {f : FuncId} : getO vars env (.fn f) = .fn (.func f) [] [] := rfl
theorem least1_ok {c : AV} {o : List Int} {ll : List (List Int)} (hc : Nss c (o :: ll)) : ∃ r, Ns r (leastL o ll) ∧ callW F 29 [c, .fn (.func 25) [] []] [] = some (r, []) := by
  have q1 := fun H => hc.len H
  have hmax := hc.max
  have hmx : maxLen = 9223372036854775807 := rfl
  obtain ⟨d0, e0, n0⟩ := hc.at (i := 0) (by simp)
  simp only [List.getElem_cons_zero] at n0
  generalize hL : (o :: ll) = L at *
  have hLl : L.length = ll.length + 1 := by rw [← hL]; rfl
  obtain ⟨e, v', h', g1, g2, rfl, rfl, r, x7, n1, rfl⟩ := loop_rule0 (call := callW F) (K := L.length + 1) (b := c29_9) (keep := K29)
    (fun t v h => h = [] ∧ ∃ (m : AV) (mm : List Int), v = V29 c (.fn (.func 25) [] []) m ((t + 1 : Nat) : Int) ∧ Ns m mm ∧ leastL mm (L.drop (t + 1)) = leastL o ll ∧ t + 1 ≤ L.length)
    (fun e v h => e = .exit 0 ∧ h = [] ∧ ∃ (r x7 : AV), Ns r (leastL o ll) ∧ v = [c, .fn (.func 25) [] [], .junk, r, .v (.int .i64 L.length), .junk, .v (.bool false), x7])
    ll.length (m := L.length + 1) (v := [c, .fn (.func 25) [] [], .v (.slice none 0 0), d0, .v (.int .i64 1), .v (.bool false), .v undef, .v undef]) (h := []) (by omega) ⟨rfl, d0, o, rfl, n0, by rw [← hL]; rfl, by omega⟩ (by
      rintro t v h ht ⟨rfl, m, mm, rfl, hm, hl, htl⟩
      by_cases hlt : t + 1 < L.length
      · have l1 := lt_t hlt
        have w := wrap_succ (i := t + 1) (len := L.length) hlt hmax
        obtain ⟨d, e1, n1⟩ := hc.at hlt
        have hcm := compare_ok n1 hm
        rw [List.drop_eq_getElem_cons hlt, leastL] at hl
        cases hq : decide (cmpL L[t + 1] mm < 0) with
        | true =>
          rw [hq, if_pos rfl] at hl
          refine ⟨.normal, [c, .fn (.func 25) [] [], .junk, d, .v (.int .i64 ((t + 1 + 1 : Nat) : Int)), .junk, .v (.bool true), .v (.bool true)], [], ?_, by omega, rfl, d, L[t + 1], rfl, n1, hl, by omega⟩
          simp only [V29, c29_9, c29_5, c29_6, c29_7, c29_8, q1, l1, e1, w, ip_ld, e_callv, cv_fn, List.map_cons, List.map_nil, hcm, hq, Q0, Q1, Q2, Q3, Q4, Q5, Q6, Q7, Q8, Q9, Q10, Q11, Q12, Q13, Q14, Q15, Q16, Q17, Q18, Q19, Q20, Q21, Q22, Q23, Q24, Q25, Q26, Q27, Q28, Q29, Q30, Q31, Q32, Q33, Q35, Q36, Q37, Q38, Q39, Q40, Q41, Q42, Q43, Q44, Q45, Q46, Q47, Q48, Q49, Q50, Q51, Q52, Q53, Q54, Q55, Q56, Q57, Q58, Q59, Q60, Q61, Q62, Q63, Q64, Q65, Q66, Q67, Q68, Q69, Q70, Q71, Q72, Q73, Q99, Q100, Q101, Q102, Q103, Q74, Q75, Q77, Q78, Q79, Q80, Q81, Q82, Q83, Q84, clr, List.length_nil, List.length_cons, List.getElem?_cons_zero, List.getElem?_cons_succ, Nat.reduceAdd, Nat.zero_add, Nat.add_zero, Nat.reduceLeDiff, Nat.reduceSub, ↓reduceIte, List.drop_succ_cons, List.drop_zero, List.take_succ_cons, List.take_zero, Bool.false_eq_true, List.nil_append, List.cons_append, Bool.not_true, Bool.not_false, cond_true, cond_false, bne, Q85, Q86, Q87, Q88, Q89, Q90, Q91, Q92, Q93, Q94, Q95, Q96, Q97, Q98, Q110, Q111, Q116, Q117, Q118, Q119, Q120, Q121, Q122, Q123, Option.map_some, Option.map_none, Q34]
        | false =>
          rw [hq, if_neg (by simp)] at hl
          refine ⟨.normal, [c, .fn (.func 25) [] [], .junk, m, .v (.int .i64 ((t + 1 + 1 : Nat) : Int)), .junk, .v (.bool true), .v (.bool false)], [], ?_, by omega, rfl, m, mm, rfl, hm, hl, by omega⟩
          simp only [V29, c29_9, c29_5, c29_6, c29_8, q1, l1, e1, w, ip_ld, e_callv, cv_fn, List.map_cons, List.map_nil, hcm, hq, Q0, Q1, Q2, Q3, Q4, Q5, Q6, Q7, Q8, Q9, Q10, Q11, Q12, Q13, Q14, Q15, Q16, Q17, Q18, Q19, Q20, Q21, Q22, Q23, Q24, Q25, Q26, Q27, Q28, Q29, Q30, Q31, Q32, Q33, Q35, Q36, Q37, Q38, Q39, Q40, Q41, Q42, Q43, Q44, Q45, Q46, Q47, Q48, Q49, Q50, Q51, Q52, Q53, Q54, Q55, Q56, Q57, Q58, Q59, Q60, Q61, Q62, Q63, Q64, Q65, Q66, Q67, Q68, Q69, Q70, Q71, Q72, Q73, Q99, Q100, Q101, Q102, Q103, Q74, Q75, Q77, Q78, Q79, Q80, Q81, Q82, Q83, Q84, clr, List.length_nil, List.length_cons, List.getElem?_cons_zero, List.getElem?_cons_succ, Nat.reduceAdd, Nat.zero_add, Nat.add_zero, Nat.reduceLeDiff, Nat.reduceSub, ↓reduceIte, List.drop_succ_cons, List.drop_zero, List.take_succ_cons, List.take_zero, Bool.false_eq_true, List.nil_append, List.cons_append, Bool.not_true, Bool.not_false, cond_true, cond_false, bne, Q85, Q86, Q87, Q88, Q89, Q90, Q91, Q92, Q93, Q94, Q95, Q96, Q97, Q98, Q110, Q111, Q116, Q117, Q118, Q119, Q120, Q121, Q122, Q123, Option.map_some, Option.map_none, Q34]
      · have hie : t + 1 = L.length := by omega
        have l1 := lt_f (n := L.length)
        rw [hie, List.drop_length, leastL] at hl
        rw [hl] at hm
        refine ⟨.exit 0, [c, .fn (.func 25) [] [], .junk, m, .v (.int .i64 L.length), .junk, .v (.bool false), .junk], [], ?_, rfl, rfl, m, .junk, hm, rfl⟩
        rw [hie]
        simp only [V29, c29_9, c29_5, q1, l1, Q0, Q1, Q2, Q3, Q4, Q5, Q6, Q7, Q8, Q9, Q10, Q11, Q12, Q13, Q14, Q15, Q16, Q17, Q18, Q19, Q20, Q21, Q22, Q23, Q24, Q25, Q26, Q27, Q28, Q29, Q30, Q31, Q32, Q33, Q35, Q36, Q37, Q38, Q39, Q40, Q41, Q42, Q43, Q44, Q45, Q46, Q47, Q48, Q49, Q50, Q51, Q52, Q53, Q54, Q55, Q56, Q57, Q58, Q59, Q60, Q61, Q62, Q63, Q64, Q65, Q66, Q67, Q68, Q69, Q70, Q71, Q72, Q73, Q99, Q100, Q101, Q102, Q103, Q74, Q75, Q77, Q78, Q79, Q80, Q81, Q82, Q83, Q84, clr, List.length_nil, List.length_cons, List.getElem?_cons_zero, List.getElem?_cons_succ, Nat.reduceAdd, Nat.zero_add, Nat.add_zero, Nat.reduceLeDiff, Nat.reduceSub, ↓reduceIte, List.drop_succ_cons, List.drop_zero, List.take_succ_cons, List.take_zero, Bool.false_eq_true, List.nil_append, List.cons_append, Bool.not_true, Bool.not_false, cond_true, cond_false, bne, Q85, Q86, Q87, Q88, Q89, Q90, Q91, Q92, Q93, Q94, Q95, Q96, Q97, Q98, Q110, Q111, Q116, Q117, Q118, Q119, Q120, Q121, Q122, Q123, Option.map_some, Option.map_none, Q34])
  refine ⟨r, n1, callW_pure (c := c29) rfl rfl (L.length + 1) ?_⟩
  have z1 : decide ((L.length : Int) < 1) = false := decide_eq_false (by omega)
  have k0 : natV (.v (.int .i64 0)) = some 0 := rfl
  rw [show c29.body = (.seq (.region [] [] c29_0) (.seq (.seq (.region [] [] c29_1) (.cond (.var 5) (.region [] [] c29_2) .skip)) (.seq (.region [] [] c29_3) (.seq (.seq (.region [] [] c29_4) (.block 0 (.loop K29 [] c29_9))) (.seq (.region [] [] c29_10) .ret))))) from rfl]
  generalize c29_9 = bb at g1 ⊢
  have lr : ∀ h, lvf h r = some (r, []) := by
    intro h
    obtain ⟨hs, _⟩ := n1
    generalize (leastL o ll).map iv = es at hs
    cases hs <;> rfl
  simp only [c29, start, List.replicate, c29_0, c29_1, c29_3, c29_4, c29_10, q1, z1, e0, k0, ip_ld, g1, lr, Q0, Q1, Q2, Q3, Q4, Q5, Q6, Q7, Q8, Q9, Q10, Q11, Q12, Q13, Q14, Q15, Q16, Q17, Q18, Q19, Q20, Q21, Q22, Q23, Q24, Q25, Q26, Q27, Q28, Q29, Q30, Q31, Q32, Q33, Q35, Q36, Q37, Q38, Q39, Q40, Q41, Q42, Q43, Q44, Q45, Q46, Q47, Q48, Q49, Q50, Q51, Q52, Q53, Q54, Q55, Q56, Q57, Q58, Q59, Q60, Q61, Q62, Q63, Q64, Q65, Q66, Q67, Q68, Q69, Q70, Q71, Q72, Q73, Q99, Q100, Q101, Q102, Q103, Q74, Q75, Q77, Q78, Q79, Q80, Q81, Q82, Q83, Q84, clr, List.length_nil, List.length_cons, List.getElem?_cons_zero, List.getElem?_cons_succ, Nat.reduceAdd, Nat.zero_add, Nat.add_zero, Nat.reduceLeDiff, Nat.reduceSub, ↓reduceIte, List.drop_succ_cons, List.drop_zero, List.take_succ_cons, List.take_zero, Bool.false_eq_true, List.nil_append, List.cons_append, Bool.not_true, Bool.not_false, cond_true, cond_false, bne, Q85, Q86, Q87, Q88, Q89, Q90, Q91, Q92, Q93, Q94, Q95, Q96, Q97, Q98, Q110, Q111, Q116, Q117, Q118, Q119, Q120, Q121, Q122, Q123, Option.map_some, Option.map_none, Q34]
end Go.AE.Ytkdjdhfoodlnfaa
end

/-! Places are in a total order; what Put does to a log in order. -/
section
set_option linter.unusedVariables false
set_option linter.unusedSimpArgs false
namespace Go.AE.Ytkdjdhfoodlnfaa
open Go Go.AE Go.Proofs.Ytkdjdhfoodlnfaa

theorem cmp_lt {a b : Int} {l m : List Int} (h : a < b) : cmpL (a :: l) (b :: m) = -1 := by rw [cmpL, if_pos (decide_eq_true h)]
theorem cmp_gt {a b : Int} {l m : List Int} (h : b < a) : cmpL (a :: l) (b :: m) = 1 := by rw [cmpL, if_neg (by simp; omega), if_pos (decide_eq_true h)]
theorem cmp_eq {a : Int} {l m : List Int} : cmpL (a :: l) (a :: m) = cmpL l m := by rw [cmpL, if_neg (by simp), if_neg (by simp)]
theorem cmp_anti : ∀ (x y : List Int), cmpL y x = - cmpL x y
  | [], [] => rfl
  | [], _ :: _ => rfl
  | _ :: _, [] => rfl
  | a :: l, b :: m => by
    rcases Int.lt_trichotomy a b with h | h | h
    · rw [cmp_lt h, cmp_gt h]; rfl
    · subst h; rw [cmp_eq, cmp_eq]; exact cmp_anti l m
    · rw [cmp_lt h, cmp_gt h]
theorem cmp_zero : ∀ (x y : List Int), cmpL x y = 0 ↔ x = y
  | [], [] => by simp [cmpL]
  | [], _ :: _ => by simp [cmpL]
  | _ :: _, [] => by simp [cmpL]
  | a :: l, b :: m => by
    rcases Int.lt_trichotomy a b with h | h | h
    · rw [cmp_lt h, List.cons.injEq]; constructor
      · intro h2; cases h2
      · rintro ⟨rfl, _⟩; omega
    · subst h; rw [cmp_eq, cmp_zero l m]; simp
    · rw [cmp_gt h, List.cons.injEq]; constructor
      · intro h2; cases h2
      · rintro ⟨rfl, _⟩; omega
theorem cmp_trans : ∀ (x y z : List Int), cmpL x y < 0 → cmpL y z < 0 → cmpL x z < 0
  | [], [], _, h, _ => absurd h (by decide)
  | [], _ :: _, [], _, h => absurd h (by simp [cmpL])
  | [], _ :: _, _ :: _, _, _ => by simp [cmpL]
  | _ :: _, [], _, h, _ => absurd h (by simp [cmpL])
  | _ :: _, _ :: _, [], _, h => absurd h (by simp [cmpL])
  | a :: l, b :: m, c :: n, h1, h2 => by
    rcases Int.lt_trichotomy a b with h | h | h
    · rcases Int.lt_trichotomy b c with h' | h' | h'
      · rw [cmp_lt (by omega)]; decide
      · subst h'; rw [cmp_lt h]; decide
      · rw [cmp_gt h'] at h2; exact absurd h2 (by decide)
    · subst h
      rcases Int.lt_trichotomy a c with h' | h' | h'
      · rw [cmp_lt h']; decide
      · subst h'; rw [cmp_eq] at h1 h2 ⊢; exact cmp_trans l m n h1 h2
      · rw [cmp_gt h'] at h2; exact absurd h2 (by decide)
    · rw [cmp_gt h] at h1; exact absurd h1 (by decide)
theorem cmp_refl (x : List Int) : cmpL x x = 0 := (cmp_zero x x).2 rfl
theorem cmp_le_trans {x y z : List Int} (h1 : cmpL x y ≤ 0) (h2 : cmpL y z ≤ 0) : cmpL x z ≤ 0 := by
  by_cases a : cmpL x y = 0
  · rw [(cmp_zero _ _).1 a]; exact h2
  · by_cases b : cmpL y z = 0
    · rw [← (cmp_zero _ _).1 b]; exact h1
    · have := cmp_trans x y z (by omega) (by omega); omega
theorem cmp_lt_le {x y z : List Int} (h1 : cmpL x y < 0) (h2 : cmpL y z ≤ 0) : cmpL x z < 0 := by
  by_cases b : cmpL y z = 0
  · rw [← (cmp_zero _ _).1 b]; exact h1
  · exact cmp_trans x y z h1 (by omega)
theorem cmp_le_lt {x y z : List Int} (h1 : cmpL x y ≤ 0) (h2 : cmpL y z < 0) : cmpL x z < 0 := by
  by_cases b : cmpL x y = 0
  · rw [(cmp_zero _ _).1 b]; exact h2
  · exact cmp_trans x y z (by omega) h2
/-! ### Logs in order -/
theorem ord_cons {a : En} {l : List En} : ordL (a :: l) = true ↔ (∀ x ∈ l, cmpL a.lab x.lab < 0) ∧ ordL l = true := by
  induction l generalizing a with
  | nil => simp [ordL]
  | cons b l ih =>
    rw [ordL, Bool.and_eq_true, decide_eq_true_eq, ih]
    constructor
    · rintro ⟨h1, h2, h3⟩
      refine ⟨?_, h2, h3⟩
      intro x hx
      rcases List.mem_cons.1 hx with rfl | hx
      · exact h1
      · exact cmp_trans _ _ _ h1 (h2 x hx)
    · rintro ⟨h1, h2, h3⟩
      exact ⟨h1 b (List.mem_cons_self ..), h2, h3⟩
theorem ord_at {l : List En} (h : ordL l = true) {i j : Nat} (hij : i < j) (hj : j < l.length) : cmpL (l[i]'(by omega)).lab l[j].lab < 0 := by
  induction l generalizing i j with
  | nil => simp at hj
  | cons a l ih =>
    obtain ⟨h1, h2⟩ := ord_cons.1 h
    cases j with
    | zero => omega
    | succ j =>
      cases i with
      | zero => exact h1 _ (List.getElem_mem _)
      | succ i => exact ih h2 (by omega) (by simpa using hj)
def putL : List En → En → Option (List En)
  | [], e => some [e]
  | x :: l, e => if cmpL x.lab e.lab < 0 then (putL l e).map (x :: ·) else if cmpL x.lab e.lab = 0 then none else some (e :: x :: l)
theorem put_at : ∀ (l : List En) (e : En) (r : Nat), r ≤ l.length → (∀ (k : Nat) (h : k < l.length), k < r → cmpL l[k].lab e.lab < 0) → (∀ (h : r < l.length), cmpL l[r].lab e.lab ≥ 0) →
    putL l e = if h : r < l.length then (if cmpL l[r].lab e.lab = 0 then none else some (l.take r ++ e :: l.drop r)) else some (l.take r ++ e :: l.drop r)
  | [], e, r, hr, _, _ => by
    simp at hr
    subst hr
    simp [putL]
  | x :: l, e, 0, _, _, h2 => by
    have := h2 (by simp)
    simp only [List.getElem_cons_zero] at this
    rw [putL, if_neg (by omega), dif_pos (by simp)]
    simp only [List.getElem_cons_zero, List.take_zero, List.drop_zero, List.nil_append]
  | x :: l, e, r + 1, hr, h1, h2 => by
    have h0 := h1 0 (by simp) (by omega)
    simp only [List.getElem_cons_zero] at h0
    rw [putL, if_pos h0, put_at l e r (by simpa using hr) (fun k h hk => by have := h1 (k + 1) (by simp; omega) (by omega); simpa using this) (fun h => by have := h2 (by simp; omega); simpa using this)]
    by_cases hl : r < l.length
    · rw [dif_pos hl, dif_pos (by simp; omega)]
      simp only [List.getElem_cons_succ]
      split <;> simp
    · rw [dif_neg hl, dif_neg (by simp; omega)]
      simp
theorem put_mem {l : List En} {e : En} {m : List En} (h : putL l e = some m) : ∀ x, x ∈ m ↔ x = e ∨ x ∈ l := by
  induction l generalizing m with
  | nil => simp [putL] at h; subst h; simp
  | cons a l ih =>
    rw [putL] at h
    split at h
    · cases hp : putL l e with
      | none => rw [hp] at h; cases h
      | some m' =>
        rw [hp] at h
        simp at h
        subst h
        intro x
        rw [List.mem_cons, ih hp, List.mem_cons]
        constructor
        · rintro (h | h | h) <;> simp [h]
        · rintro (h | h | h) <;> simp [h]
    · split at h
      · cases h
      · simp at h; subst h; intro x; simp
theorem put_len {l : List En} {e : En} {m : List En} (h : putL l e = some m) : m.length = l.length + 1 := by
  induction l generalizing m with
  | nil => simp [putL] at h; subst h; simp
  | cons a l ih =>
    rw [putL] at h
    split at h
    · cases hp : putL l e with
      | none => rw [hp] at h; cases h
      | some m' =>
        rw [hp] at h
        simp at h
        subst h
        simp [ih hp]
    · split at h
      · cases h
      · simp at h; subst h; simp
theorem put_ord {l : List En} {e : En} {m : List En} (ho : ordL l = true) (h : putL l e = some m) : ordL m = true := by
  induction l generalizing m with
  | nil => simp [putL] at h; subst h; rfl
  | cons a l ih =>
    obtain ⟨h1, h2⟩ := ord_cons.1 ho
    rw [putL] at h
    split at h
    · rename_i hlt
      cases hp : putL l e with
      | none => rw [hp] at h; cases h
      | some m' =>
        rw [hp] at h
        simp at h
        subst h
        refine ord_cons.2 ⟨?_, ih h2 hp⟩
        intro x hx
        rcases (put_mem hp x).1 hx with rfl | hx
        · exact hlt
        · exact h1 x hx
    · split at h
      · cases h
      · rename_i h3 h4
        simp at h
        subst h
        have h5 : cmpL e.lab a.lab < 0 := by rw [cmp_anti]; omega
        refine ord_cons.2 ⟨?_, ho⟩
        intro x hx
        rcases List.mem_cons.1 hx with rfl | hx
        · exact h5
        · exact cmp_trans _ _ _ h5 (h1 x hx)
theorem put_none {l : List En} {e : En} (ho : ordL l = true) : putL l e = none ↔ ∃ x ∈ l, x.lab = e.lab := by
  induction l with
  | nil => simp [putL]
  | cons a l ih =>
    obtain ⟨h1, h2⟩ := ord_cons.1 ho
    rw [putL]
    split
    · rename_i hlt
      rw [Option.map_eq_none_iff, ih h2]
      have hne : a.lab ≠ e.lab := by intro h; rw [h, cmp_refl] at hlt; omega
      simp [hne]
    · rename_i hge
      split
      · rename_i h0
        simp [(cmp_zero _ _).1 h0]
      · rename_i h0
        simp only [reduceCtorEq, false_iff, not_exists, not_and, List.mem_cons, forall_eq_or_imp]
        refine ⟨fun h => h0 ((cmp_zero _ _).2 h), fun x hx h => ?_⟩
        have := h1 x hx
        rw [h] at this
        omega
end Go.AE.Ytkdjdhfoodlnfaa
end

/-! Ready, Drop, Put, big: walked. -/
section
set_option linter.unusedVariables false
set_option linter.unusedSimpArgs false
namespace Go.AE.Ytkdjdhfoodlnfaa
open Go Go.AE Go.Proofs.Ytkdjdhfoodlnfaa

theorem first_at {α : Type} {R : AV → α → Prop} {p : AV → Bool} {q : α → Bool} (hpq : ∀ a x, R a x → p a = q x) : ∀ {es : List AV} {l : List α}, AllR R es l → ∀ (k : Nat),
    firstAt p es k = if (l.takeWhile (fun x => !q x)).length < l.length then ((k + (l.takeWhile (fun x => !q x)).length : Nat) : Int) else -1
  | _, _, .nil, k => by simp [firstAt]
  | _, _, .cons a x es l h hs, k => by
    rw [firstAt, hpq a x h, List.takeWhile_cons]
    cases hq : q x with
    | true => simp
    | false =>
      rw [if_neg (by simp), first_at hpq hs (k + 1)]
      simp only [Bool.not_false, if_true, List.length_cons, Nat.add_lt_add_iff_right]
      split
      · congr 1; omega
      · rfl
theorem filter_R {α : Type} {R : AV → α → Prop} {p : AV → Bool} {q : α → Bool} (hpq : ∀ a x, R a x → p a = q x) : ∀ {es : List AV} {l : List α}, AllR R es l → AllR R (es.filter p) (l.filter q)
  | _, _, .nil => .nil
  | _, _, .cons a x es l h hs => by
    rw [List.filter_cons, List.filter_cons, hpq a x h]
    cases q x with
    | true => exact .cons _ _ _ _ h (filter_R hpq hs)
    | false => exact filter_R hpq hs
theorem Ns.bel {t : TypeId} {c : AV} {x : List Int} (h : Ns c x) (n : Nat) : AO.below n (.box t [c]) = true := by
  obtain ⟨hs, _⟩ := h
  generalize x.map iv = es at hs
  cases hs <;> rfl
theorem IsEn.elm {a : AV} {x : En} (h : IsEn a x) : El true 4 a := by
  have cl := h.cl
  cases h with
  | mk c lab hc k d ts hd e =>
    obtain ⟨hs, _⟩ := hc
    generalize lab.map iv = es at hs
    cases hs <;> cases hd <;> exact ⟨rfl, rfl, fun _ => rfl, cl, rfl, rfl⟩
theorem Lg.elm {es : List AV} {l : List En} (h : AllR IsEn es l) : ∀ e ∈ es, El true 4 e := by
  intro e he
  obtain ⟨x, _, hx⟩ := h.mem e he
  exact hx.elm
def ansB : Option (AV × List AO) → Bool
  | some (.v (.bool b), _) => b
  | _ => false
def readyL (l : List En) : List (List Int) → Nat
  | [] => l.length
  | o :: ll => (l.takeWhile (fun x => decide (cmpL x.lab (leastL o ll) < 0))).length
theorem ready_ok {c d : AV} {l : List En} {op : List (List Int)} (hc : Lg c l) (hd : Nss d op) : callW F 15 [c, d] [] = some (.v (.int .i64 (readyL l op)), []) := by
  have q1 := fun H => hc.len H
  have q2 := fun H => hd.len H
  cases op with
  | nil =>
    refine callW_pure (c := c15) rfl rfl 0 ?_
    have z : ((([] : List (List Int)).length : Int) == 0) = true := rfl
    generalize ([] : List (List Int)).length = n0 at q2 z
    simp only [c15, start, List.replicate, c15_0, c15_1, c15_2, q1, q2, z, readyL, Q0, Q1, Q2, Q3, Q4, Q5, Q6, Q7, Q8, Q9, Q10, Q11, Q12, Q13, Q14, Q15, Q16, Q17, Q18, Q19, Q20, Q21, Q22, Q23, Q24, Q25, Q26, Q27, Q28, Q29, Q30, Q31, Q32, Q33, Q35, Q36, Q37, Q38, Q39, Q40, Q41, Q42, Q43, Q44, Q45, Q46, Q47, Q48, Q49, Q50, Q51, Q52, Q53, Q54, Q55, Q56, Q57, Q58, Q59, Q60, Q61, Q62, Q63, Q64, Q65, Q66, Q67, Q68, Q69, Q70, Q71, Q72, Q73, Q99, Q100, Q101, Q102, Q103, Q74, Q75, Q77, Q78, Q79, Q80, Q81, Q82, Q83, Q84, clr, List.length_nil, List.length_cons, List.getElem?_cons_zero, List.getElem?_cons_succ, Nat.reduceAdd, Nat.zero_add, Nat.add_zero, Nat.reduceLeDiff, Nat.reduceSub, ↓reduceIte, List.drop_succ_cons, List.drop_zero, List.take_succ_cons, List.take_zero, Bool.false_eq_true, List.nil_append, List.cons_append, Bool.not_true, Bool.not_false, cond_true, cond_false, bne, Q85, Q86, Q87, Q88, Q89, Q90, Q91, Q92, Q93, Q94, Q95, Q96, Q97, Q98, Q110, Q111, Q116, Q117, Q118, Q119, Q120, Q121, Q122, Q123, Option.map_some, Option.map_none, Q34]
  | cons o ll =>
    obtain ⟨r, hr, h29⟩ := least1_ok hd
    have z : (((o :: ll).length : Int) == 0) = false := by simp; omega
    have cr := Ns.cl1 hr
    obtain ⟨es, hs, ha, hm⟩ := hc
    have hb : ([.box 23 [r]] : List AO).all (AO.below ([.box 23 [r]] : List AO).length) = true := by simp only [List.all_cons, List.all_nil, hr.bel, Bool.and_true]
    let p : AV → Bool := fun a => ansB (callW F 31 [a, .ptr 0 0] [.box 23 [r]])
    have hp : ∀ a x, IsEn a x → p a = decide (cmpL x.lab (leastL o ll) ≥ 0) := by
      intro a x h
      simp only [p, least_ok h hr (H := [.box 23 [r]]) (i := 0) rfl hb, ansB]
    have hi := index_run (F := F) (fi := 30) (g := 31) (agg := true) (sz := 4) (first := []) (cap := [.ptr 0 0]) (p := p) (H := [.box 23 [r]]) (s := c) (l := es) rfl hb (Rd.sl hs (Lg.elm ha)) hm (by
      intro a ha'
      obtain ⟨x, _, hx⟩ := ha.mem a ha'
      rw [hp a x hx]
      exact least_ok hx hr rfl hb)
    rw [first_at hp ha 0] at hi
    have tw : (fun x : En => !decide (cmpL x.lab (leastL o ll) ≥ 0)) = (fun x : En => decide (cmpL x.lab (leastL o ll) < 0)) := by
      funext x
      by_cases h : cmpL x.lab (leastL o ll) < 0
      · rw [decide_eq_true h, decide_eq_false (by omega)]; rfl
      · rw [decide_eq_false h, decide_eq_true (by omega)]; rfl
    rw [tw, Nat.zero_add] at hi
    have st : Q113 [.box 23 [.v (.slice none 0 0)]] 1 (.ptr 0 0) r = some [.box 23 [r]] := by
      simp only [Q113, List.getElem?_cons_zero]
      have s1 := hr.sn ([.box 23 [.v (.slice none 0 0)]] : List AO)
      simp only [cr, s1]
      first | rfl | simp [Q112]
    refine callW_pure (c := c15) rfl rfl 0 ?_
    have hle : (l.takeWhile (fun x => decide (cmpL x.lab (leastL o ll) < 0))).length ≤ l.length := (List.takeWhile_sublist _).length_le
    simp only [readyL]
    generalize (l.takeWhile (fun x => decide (cmpL x.lab (leastL o ll) < 0))).length = n at hi hle
    generalize (o :: ll).length = n1 at q2 z
    by_cases hn : n < l.length
    · rw [if_pos hn] at hi
      have z2 : decide ((n : Int) < 0) = false := decide_eq_false (by omega)
      simp only [c15, start, List.replicate, c15_0, c15_1, c15_3, c15_4, c15_5, c15_7, q1, q2, z, Q121, g_fnk, h29, Q34, st, e_mkfn, List.map_cons, List.map_nil, hi, z2, Q0, Q1, Q2, Q3, Q4, Q5, Q6, Q7, Q8, Q9, Q10, Q11, Q12, Q13, Q14, Q15, Q16, Q17, Q18, Q19, Q20, Q21, Q22, Q23, Q24, Q25, Q26, Q27, Q28, Q29, Q30, Q31, Q32, Q33, Q35, Q36, Q37, Q38, Q39, Q40, Q41, Q42, Q43, Q44, Q45, Q46, Q47, Q48, Q49, Q50, Q51, Q52, Q53, Q54, Q55, Q56, Q57, Q58, Q59, Q60, Q61, Q62, Q63, Q64, Q65, Q66, Q67, Q68, Q69, Q70, Q71, Q72, Q73, Q99, Q100, Q101, Q102, Q103, Q74, Q75, Q77, Q78, Q79, Q80, Q81, Q82, Q83, Q84, clr, List.length_nil, List.length_cons, List.getElem?_cons_zero, List.getElem?_cons_succ, Nat.reduceAdd, Nat.zero_add, Nat.add_zero, Nat.reduceLeDiff, Nat.reduceSub, ↓reduceIte, List.drop_succ_cons, List.drop_zero, List.take_succ_cons, List.take_zero, Bool.false_eq_true, List.nil_append, List.cons_append, Bool.not_true, Bool.not_false, cond_true, cond_false, bne, Q85, Q86, Q87, Q88, Q89, Q90, Q91, Q92, Q93, Q94, Q95, Q96, Q97, Q98, Q110, Q111, Q116, Q117, Q118, Q119, Q120, Q121, Q122, Q123, Option.map_some, Option.map_none, Q34]
    · rw [if_neg hn] at hi
      have hnl : n = l.length := by omega
      have z2 : decide ((-1 : Int) < 0) = true := rfl
      subst hnl
      simp only [c15, start, List.replicate, c15_0, c15_1, c15_3, c15_4, c15_5, c15_6, q1, q2, z, Q121, g_fnk, h29, Q34, st, e_mkfn, List.map_cons, List.map_nil, hi, z2, Q0, Q1, Q2, Q3, Q4, Q5, Q6, Q7, Q8, Q9, Q10, Q11, Q12, Q13, Q14, Q15, Q16, Q17, Q18, Q19, Q20, Q21, Q22, Q23, Q24, Q25, Q26, Q27, Q28, Q29, Q30, Q31, Q32, Q33, Q35, Q36, Q37, Q38, Q39, Q40, Q41, Q42, Q43, Q44, Q45, Q46, Q47, Q48, Q49, Q50, Q51, Q52, Q53, Q54, Q55, Q56, Q57, Q58, Q59, Q60, Q61, Q62, Q63, Q64, Q65, Q66, Q67, Q68, Q69, Q70, Q71, Q72, Q73, Q99, Q100, Q101, Q102, Q103, Q74, Q75, Q77, Q78, Q79, Q80, Q81, Q82, Q83, Q84, clr, List.length_nil, List.length_cons, List.getElem?_cons_zero, List.getElem?_cons_succ, Nat.reduceAdd, Nat.zero_add, Nat.add_zero, Nat.reduceLeDiff, Nat.reduceSub, ↓reduceIte, List.drop_succ_cons, List.drop_zero, List.take_succ_cons, List.take_zero, Bool.false_eq_true, List.nil_append, List.cons_append, Bool.not_true, Bool.not_false, cond_true, cond_false, bne, Q85, Q86, Q87, Q88, Q89, Q90, Q91, Q92, Q93, Q94, Q95, Q96, Q97, Q98, Q110, Q111, Q116, Q117, Q118, Q119, Q120, Q121, Q122, Q123, Option.map_some, Option.map_none, Q34]
def dropL (l : List En) (y : List Int) (d : Int) : List En := l.filter (fun x => !prunedL x.lab y d)
end Go.AE.Ytkdjdhfoodlnfaa
end

/-! Put, all of whose objects stay: walked. -/
section
set_option linter.unusedVariables false
set_option linter.unusedSimpArgs false
namespace Go.AE.Ytkdjdhfoodlnfaa
open Go Go.AE Go.Proofs.Ytkdjdhfoodlnfaa

theorem AllR.ins {α : Type} {R : AV → α → Prop} {a : AV} {x : α} (h : R a x) : ∀ {es : List AV} {l : List α}, AllR R es l → ∀ (r : Nat), AllR R (insAt es r a) (l.take r ++ x :: l.drop r)
  | _, _, .nil, r => by simp [insAt]; exact .cons _ _ _ _ h .nil
  | _, _, .cons b y es l hb hs, 0 => by simp [insAt]; exact .cons _ _ _ _ h (.cons _ _ _ _ hb hs)
  | _, _, .cons b y es l hb hs, r + 1 => by
    have := AllR.ins h hs r
    simp only [insAt, List.take_succ_cons, List.drop_succ_cons, List.cons_append] at this ⊢
    exact .cons _ _ _ _ hb this
theorem lvf_own2 {rt : TypeId} {h : List AO} {sz id ver n k : Nat} {l : List AV} {x : Value} (hr : h[id]? = some (.row rt sz ver l k)) (hn : n ≤ l.length) : lvf h (.tup [.own sz id ver 0 n, .v x]) = some (.tup [.slc sz false false (l.take n), .v x], []) := by
  simp [lvf, AV.frz2, AV.frz1, AV.frz0, row_at hr hn]
def lk2 (i j : Nat) : CRun → Option (AV × List AO)
  | some (.ret, vars, h) => some (.tup [getO vars [] (.var i), getO vars [] (.var j)], h)
  | _ => none
theorem lk2_ret {i j : Nat} {vars : List AV} {h : List AO} : lk2 i j (some (.ret, vars, h)) = some (.tup [getO vars [] (.var i), getO vars [] (.var j)], h) := rfl
theorem leave_lk2 {c : CFun} {i j : Nat} (hr : c.res = [.var i, .var j]) {run : CRun} {x : AV × List AO} (h : lk2 i j run = some x) : leaveKeep c run = some x := by
  unfold lk2 at h
  split at h
  · rename_i vars h'
    cases h
    simp only [leaveKeep, hr, List.mapM_cons, List.mapM_nil, resOf, Option.pure_def, Option.bind_eq_bind, Option.bind_some, Option.map_some, pack]
    rfl
  · cases h
theorem keep11 {s s' a r : AV} {k : List AO} (h : lk2 4 5 (exec (callW F) 0 c11.body (start c11 [s, a]) []) = some (r, k)) (h1 : r.ok2 = true) (h2 : k.all AO.ok = true) {H : List AO} (hs : s'.snap1 H = some s) (ha : a.snap1 H = some a) :
    callW F 11 [s', a] H = some (r.sh2 H.length, H ++ k.map (AO.sh H.length)) :=
  callW_pk (c := c11) rfl (show [s', a].mapM (AV.snap1 H) = some [s, a] from by simp [hs, ha]) rfl 0 (leave_lk2 rfl h) h1 h2
theorem Sl.sh {sz : Nat} {c : AV} {es : List AV} (h : Sl sz c es) (n : Nat) : c.sh1 n = c ∧ c.ok1 = true := by cases h <;> exact ⟨rfl, rfl⟩
theorem Ns.sh {c : AV} {x : List Int} (h : Ns c x) (n : Nat) : c.sh1 n = c ∧ c.ok1 = true := Sl.sh h.1 n
theorem IsL.sh {c : AV} {x : List Tm} (h : IsL c x) (n : Nat) : c.sh1 n = c ∧ c.ok1 = true := by cases h <;> exact ⟨rfl, rfl⟩
theorem sh2_tup {vs : List AV} (n : Nat) : (AV.tup vs).sh2 n = .tup (vs.map (AV.sh1 n)) := rfl
theorem sh1_own {sz id ver off m : Nat} (n : Nat) : (AV.own sz id ver off m).sh1 n = .own sz (n + id) ver off m := rfl
theorem sh1_v {x : Value} (n : Nat) : (AV.v x).sh1 n = .v x := rfl
theorem sh_box {t : TypeId} {cs : List AV} (n : Nat) : AO.sh n (.box t cs) = .box t (cs.map (AV.sh1 n)) := rfl
theorem sh_row {t : TypeId} {sz v k : Nat} {l : List AV} (n : Nat) : AO.sh n (.row t sz v l k) = .row t sz v l k := rfl
theorem int_sh {k : IntKind} {x : Int} (n : Nat) : (AV.v (.int k x)).sh1 n = .v (.int k x) ∧ (AV.v (.int k x)).ok1 = true := ⟨rfl, rfl⟩
theorem put_ok {s a : AV} {l : List En} {x : En} (hs : Lg s l) (hl : l.length ≤ 900000) (ho : ordL l = true) (ha : IsEn a x) :
    (putL l x = none ∧ ∀ s' H, s'.snap1 H = some s → callW F 11 [s', a] H = some (.tup [.v (.slice none 0 0), .v (.int .i64 1)], H ++ [.box 22 [s], .box 29 a.cells])) ∨
    (∃ m v L, putL l x = some m ∧ AllR IsEn L m ∧ ∀ s' H, s'.snap1 H = some s → callW F 11 [s', a] H = some (.tup [.own 4 (H.length + 2) v 0 L.length, .v (.int .i64 0)], H ++ [.box 22 [s], .box 29 a.cells, .row 29 4 v L 0])) := by
  have cl := ha.cl
  have hel := ha.elm
  have q1 := fun H => hs.len H
  have hs' := hs
  obtain ⟨es, hsl, hae, hm⟩ := hs
  have hen : es.length = l.length := hae.length
  cases ha with
  | mk c1 lab hc k dd ts hd e =>
  simp only [AV.cells] at cl
  have hsc := hsl.cl
  have hbs : ∀ n, AO.below n (.box 22 [s]) = true := fun n => by cases hsl <;> rfl
  have hbe : ∀ n, AO.below n (.box 29 [c1, .v (.int .i64 k), dd, .v (.int .i64 e)]) = true := fun n => below_mono (Nat.zero_le n) _ hel.bel
  let H0 : List AO := [.box 22 [s], .box 29 [c1, .v (.int .i64 k), dd, .v (.int .i64 e)]]
  have hb : H0.all (AO.below H0.length) = true := by simp only [H0, List.all_cons, List.all_nil, hbs, hbe, Bool.and_true]
  let p : Nat → Bool := fun j => if h : j < l.length then decide (cmpL l[j].lab lab ≥ 0) else true
  have pe : ∀ j (h : j < l.length), p j = decide (cmpL l[j].lab lab ≥ 0) := fun j h => by simp only [p]; rw [dif_pos h]
  obtain ⟨r, h23, hr, r1, r2⟩ := search_ok (g := 24) (first := []) (cap := [.ptr 0 0, .ptr 1 0]) (H := H0) (n := l.length) (p := p) hb (by omega) (by
    intro j hj
    rw [pe j hj]
    exact find_ok hs' hc rfl rfl hb hj) (by
    intro i j hij hj h
    rw [pe i (by omega), decide_eq_true_eq] at h
    rw [pe j hj, decide_eq_true_eq]
    rcases Nat.lt_or_eq_of_le hij with h1 | rfl
    · have := ord_at ho h1 hj
      have h2 := cmp_le_lt (x := lab) (y := l[i].lab) (z := l[j].lab) (by rw [cmp_anti]; omega) this
      rw [cmp_anti]; omega
    · exact h)
  have hput := put_at l ⟨lab, k, ts, e⟩ r hr (by
    intro j hj hjr
    have := r1 j hjr
    rw [pe j hj, decide_eq_false_iff_not] at this
    simp only; omega) (by
    intro h
    have := r2 h
    rw [pe r h, decide_eq_true_eq] at this
    exact this)
  simp only [H0, List.nil_append] at h23
  have l0 : ∀ G, Q76 (.box 22 [s] :: G) false 1 (.ptr 0 0) = some s := fun _ => rfl
  have l1 : ∀ x G, Q76 (x :: .box 29 [c1, .v (.int .i64 k), dd, .v (.int .i64 e)] :: G) false 1 (.ptr 1 0) = some c1 := fun _ _ => rfl
  have l4 : ∀ x G, Q76 (x :: .box 29 [c1, .v (.int .i64 k), dd, .v (.int .i64 e)] :: G) true 4 (.ptr 1 0) = some (.agg [c1, .v (.int .i64 k), dd, .v (.int .i64 e)]) := fun _ _ => rfl
  have s2 := fun H => hc.sn H
  have sn := hel.snap
  have lt2 : ∀ h, lvf h (.tup [.v (.slice none 0 0), .v (.int .i64 1)]) = some (.tup [.v (.slice none 0 0), .v (.int .i64 1)], []) := fun _ => rfl
  have lt1 : ∀ h (l : List AV), lvf h (.tup [.slc 4 false false l, .v (.int .i64 0)]) = some (.tup [.slc 4 false false l, .v (.int .i64 0)], []) := fun _ _ => rfl
  have hbx : bx [] 22 (some [s]) = some (.ptr 0 0, [.box 22 [s]]) := rfl
  -- the last step
  have ins : ∃ v L, AllR IsEn L (l.take r ++ (⟨lab, k, ts, e⟩ : En) :: l.drop r) ∧
      lk2 4 5 (exec (callW F) 0 (.seq (.region [] [] c11_4) .ret) [s, .agg [c1, .v (.int .i64 k), dd, .v (.int .i64 e)], .ptr 0 0, .ptr 1 0, .v (.slice none 0 0), .v (.int .i64 0), .v (.int .i64 r), .v (.bool false)] [.box 22 [s], .box 29 [c1, .v (.int .i64 k), dd, .v (.int .i64 e)]]) = some (.tup [.own 4 2 v 0 L.length, .v (.int .i64 0)], [.box 22 [s], .box 29 [c1, .v (.int .i64 k), dd, .v (.int .i64 e)], .row 29 4 v L 0]) := by
    have hcl := clone_call (F' := F) (f := 27) (rt := 29) (sz := 4) (bytes := 64) rfl (hsl.elems [.box 22 [s], .box 29 [c1, .v (.int .i64 k), dd, .v (.int .i64 e)]]) (fits_small (by omega) (by omega))
    have hins := AllR.ins (R := IsEn) (.mk c1 lab hc k dd ts hd e) hae r
    have hil : (insAt es r (.agg [c1, .v (.int .i64 k), dd, .v (.int .i64 e)])).length = l.length + 1 := by rw [insAt_len (by omega), hen]
    cases es with
    | nil =>
      have hl0 : l.length = 0 := by rw [← hen]; rfl
      have hr0 : r = 0 := by omega
      subst hr0
      simp only [cloneR] at hcl
      have h26 : ∀ ex nn, callW F 26 [.slc 4 true false [], .v (.int .i64 0), .slc 4 ex nn [.agg [c1, .v (.int .i64 k), dd, .v (.int .i64 e)]]] [.box 22 [s], .box 29 [c1, .v (.int .i64 k), dd, .v (.int .i64 e)]] = some (.own 4 2 0 0 1, [.box 22 [s], .box 29 [c1, .v (.int .i64 k), dd, .v (.int .i64 e)], .row 29 4 0 [.agg [c1, .v (.int .i64 k), dd, .v (.int .i64 e)]] 0]) := by
        intro ex nn
        refine callW_oracle (g := insG 29 4 64) rfl ?_
        have : fits 1 64 = true := fits_small (by omega) (by omega)
        simp [insG, this]
      have lf := lvf_own2 (x := .int .i64 0) (h := [.box 22 [s], .box 29 [c1, .v (.int .i64 k), dd, .v (.int .i64 e)], .row 29 4 0 [.agg [c1, .v (.int .i64 k), dd, .v (.int .i64 e)]] 0]) (rt := 29) (sz := 4) (ver := 0) (k := 0) (id := 2) (n := 1) (l := [.agg [c1, .v (.int .i64 k), dd, .v (.int .i64 e)]]) rfl (by simp)
      simp only [List.take_succ_cons, List.take_zero] at lf
      refine ⟨0, [.agg [c1, .v (.int .i64 k), dd, .v (.int .i64 e)]], hins, ?_⟩
      have z0 : ((0 : Nat) : Int) = 0 := rfl
      have hres : c11.res = [.var 4, .var 5] := rfl
      rw [z0]
      simp only [c11_4, l0, l4, e_callh, List.map_cons, List.map_nil, hcl, sn, cl, if_true, h26, lk2_ret, Q104, Q105, bs1, bs2, Q106, Q107, Q108, Q109, bd1, Q110, Q111, toL, List.map_cons, List.map_nil, Q112, List.set_cons_zero, List.set_cons_succ, and_self, Nat.le_refl, Q114, Q115, Q116, Q0, Q1, Q2, Q3, Q4, Q5, Q6, Q7, Q8, Q9, Q10, Q11, Q12, Q13, Q14, Q15, Q16, Q17, Q18, Q19, Q20, Q21, Q22, Q23, Q24, Q25, Q26, Q27, Q28, Q29, Q30, Q31, Q32, Q33, Q35, Q36, Q37, Q38, Q39, Q40, Q41, Q42, Q43, Q44, Q45, Q46, Q47, Q48, Q49, Q50, Q51, Q52, Q53, Q54, Q55, Q56, Q57, Q58, Q59, Q60, Q61, Q62, Q63, Q64, Q65, Q66, Q67, Q68, Q69, Q70, Q71, Q72, Q73, Q99, Q100, Q101, Q102, Q103, Q74, Q75, Q77, Q78, Q79, Q80, Q81, Q82, Q83, Q84, clr, List.length_nil, List.length_cons, List.getElem?_cons_zero, List.getElem?_cons_succ, Nat.reduceAdd, Nat.zero_add, Nat.add_zero, Nat.reduceLeDiff, Nat.reduceSub, ↓reduceIte, List.drop_succ_cons, List.drop_zero, List.take_succ_cons, List.take_zero, Bool.false_eq_true, List.nil_append, List.cons_append, Bool.not_true, Bool.not_false, cond_true, cond_false, bne, Q85, Q86, Q87, Q88, Q89, Q90, Q91, Q92, Q93, Q94, Q95, Q96, Q97, Q98, Q110, Q111, Q116, Q117, Q118, Q119, Q120, Q121, Q122, Q123, Option.map_some, Option.map_none, Q34]
    | cons e0 es0 =>
      simp only [cloneR] at hcl
      generalize hE : e0 :: es0 = es at *
      have hne : (es0.length + 1) = l.length := by rw [← hen, ← hE]; rfl
      rw [hne] at hcl
      have h26 : ∀ ex nn, callW F 26 [.own 4 2 0 0 l.length, .v (.int .i64 r), .slc 4 ex nn [.agg [c1, .v (.int .i64 k), dd, .v (.int .i64 e)]]] [.box 22 [s], .box 29 [c1, .v (.int .i64 k), dd, .v (.int .i64 e)], .row 29 4 0 es 0] = some (.own 4 2 1 0 (l.length + 1), [.box 22 [s], .box 29 [c1, .v (.int .i64 k), dd, .v (.int .i64 e)], .row 29 4 1 (insAt es r (.agg [c1, .v (.int .i64 k), dd, .v (.int .i64 e)])) 0]) := by
        intro ex nn
        refine callW_oracle (g := insG 29 4 64) rfl ?_
        have hf : fits (l.length + 1) 64 = true := fits_small (by omega) (by omega)
        have a1 : (r : Int) ≤ (l.length : Int) := by omega
        have a2 : 0 < l.length := by omega
        simp [insG, hf, a1, a2, hen]
      have lf := lvf_own2 (x := .int .i64 0) (h := [.box 22 [s], .box 29 [c1, .v (.int .i64 k), dd, .v (.int .i64 e)], .row 29 4 1 (insAt es r (.agg [c1, .v (.int .i64 k), dd, .v (.int .i64 e)])) 0]) (rt := 29) (sz := 4) (ver := 1) (k := 0) (id := 2) (n := l.length + 1) rfl (by omega)
      rw [List.take_of_length_le (by omega)] at lf
      have app : ([.box 22 [s], .box 29 [c1, .v (.int .i64 k), dd, .v (.int .i64 e)]] : List AO) ++ [.row 29 4 0 es 0] = [.box 22 [s], .box 29 [c1, .v (.int .i64 k), dd, .v (.int .i64 e)], .row 29 4 0 es 0] := rfl
      rw [app] at hcl
      simp only [List.length_cons, List.length_nil, Nat.reduceAdd] at hcl
      have hmx : maxLen = 9223372036854775807 := rfl
      refine ⟨1, insAt es r (.agg [c1, .v (.int .i64 k), dd, .v (.int .i64 e)]), hins, ?_⟩
      rw [hil]
      have hres : c11.res = [.var 4, .var 5] := rfl
      simp only [c11_4, l0, l4, e_callh, List.map_cons, List.map_nil, hcl, sn, cl, if_true, h26, lk2_ret, Q104, Q105, bs1, bs2, Q106, Q107, Q108, Q109, bd1, Q110, Q111, toL, List.map_cons, List.map_nil, Q112, List.set_cons_zero, List.set_cons_succ, and_self, Nat.le_refl, Q114, Q115, Q116, Q0, Q1, Q2, Q3, Q4, Q5, Q6, Q7, Q8, Q9, Q10, Q11, Q12, Q13, Q14, Q15, Q16, Q17, Q18, Q19, Q20, Q21, Q22, Q23, Q24, Q25, Q26, Q27, Q28, Q29, Q30, Q31, Q32, Q33, Q35, Q36, Q37, Q38, Q39, Q40, Q41, Q42, Q43, Q44, Q45, Q46, Q47, Q48, Q49, Q50, Q51, Q52, Q53, Q54, Q55, Q56, Q57, Q58, Q59, Q60, Q61, Q62, Q63, Q64, Q65, Q66, Q67, Q68, Q69, Q70, Q71, Q72, Q73, Q99, Q100, Q101, Q102, Q103, Q74, Q75, Q77, Q78, Q79, Q80, Q81, Q82, Q83, Q84, clr, List.length_nil, List.length_cons, List.getElem?_cons_zero, List.getElem?_cons_succ, Nat.reduceAdd, Nat.zero_add, Nat.add_zero, Nat.reduceLeDiff, Nat.reduceSub, ↓reduceIte, List.drop_succ_cons, List.drop_zero, List.take_succ_cons, List.take_zero, Bool.false_eq_true, List.nil_append, List.cons_append, Bool.not_true, Bool.not_false, cond_true, cond_false, bne, Q85, Q86, Q87, Q88, Q89, Q90, Q91, Q92, Q93, Q94, Q95, Q96, Q97, Q98, Q110, Q111, Q116, Q117, Q118, Q119, Q120, Q121, Q122, Q123, Option.map_some, Option.map_none, Q34]
  have ca := hs'.sn
  have shs := Sl.sh hsl
  have sh1 := Ns.sh hc
  have shd := IsL.sh hd
  have cel : (AV.agg [c1, .v (.int .i64 k), dd, .v (.int .i64 e)]).cells = [c1, .v (.int .i64 k), dd, .v (.int .i64 e)] := rfl
  have body : c11.body = (.seq (.region [] [] c11_0) (.seq (.region [] [] c11_1) (.seq (.seq (.region [] [] c11_2) (.cond (.var 7) (.seq (.region [] [] c11_3) .ret) .skip)) (.seq (.region [] [] c11_4) .ret)))) := rfl
  have st : start c11 [s, .agg [c1, .v (.int .i64 k), dd, .v (.int .i64 e)]] = [s, .agg [c1, .v (.int .i64 k), dd, .v (.int .i64 e)], .v undef, .v undef, .v undef, .v undef, .v undef, .v undef] := rfl
  have hres : c11.res = [.var 4, .var 5] := rfl
  by_cases hlt : r < l.length
  · have z1 := lt_t hlt
    rw [dif_pos hlt] at hput
    obtain ⟨c2, k2, d2, e2, i1, n1, _⟩ := hs'.at hlt
    have p25 := compare_ok n1 hc
    have s1 := fun H => n1.sn H
    by_cases h0 : cmpL l[r].lab lab = 0
    · rw [if_pos h0] at hput
      have z2 : (cmpL l[r].lab lab == 0) = true := by simpa using h0
      refine .inl ⟨hput, fun s' H hsn => ?_⟩
      have key : lk2 4 5 (exec (callW F) 0 c11.body (start c11 [s, .agg [c1, .v (.int .i64 k), dd, .v (.int .i64 e)]]) []) = some (.tup [.v (.slice none 0 0), .v (.int .i64 1)], [.box 22 [s], .box 29 [c1, .v (.int .i64 k), dd, .v (.int .i64 e)]]) := by
       rw [body, st]
       generalize (CC.seq (.region [] [] c11_4) .ret) = rest
       simp only [c11_0, c11_1, c11_2, c11_3, hsc, cl, l0, l1, q1, e_mkfn, List.map_cons, List.map_nil, Q121, h23, z1, i1, ip_ld, s1, s2, p25, z2, lk2_ret, Q122, Q0, Q1, Q2, Q3, Q4, Q5, Q6, Q7, Q8, Q9, Q10, Q11, Q12, Q13, Q14, Q15, Q16, Q17, Q18, Q19, Q20, Q21, Q22, Q23, Q24, Q25, Q26, Q27, Q28, Q29, Q30, Q31, Q32, Q33, Q35, Q36, Q37, Q38, Q39, Q40, Q41, Q42, Q43, Q44, Q45, Q46, Q47, Q48, Q49, Q50, Q51, Q52, Q53, Q54, Q55, Q56, Q57, Q58, Q59, Q60, Q61, Q62, Q63, Q64, Q65, Q66, Q67, Q68, Q69, Q70, Q71, Q72, Q73, Q99, Q100, Q101, Q102, Q103, Q74, Q75, Q77, Q78, Q79, Q80, Q81, Q82, Q83, Q84, clr, List.length_nil, List.length_cons, List.getElem?_cons_zero, List.getElem?_cons_succ, Nat.reduceAdd, Nat.zero_add, Nat.add_zero, Nat.reduceLeDiff, Nat.reduceSub, ↓reduceIte, List.drop_succ_cons, List.drop_zero, List.take_succ_cons, List.take_zero, Bool.false_eq_true, List.nil_append, List.cons_append, Bool.not_true, Bool.not_false, cond_true, cond_false, bne, Q85, Q86, Q87, Q88, Q89, Q90, Q91, Q92, Q93, Q94, Q95, Q96, Q97, Q98, Q110, Q111, Q116, Q117, Q118, Q119, Q120, Q121, Q122, Q123, Option.map_some, Option.map_none, Q34]
      have hk := keep11 key rfl (by simp only [List.all_cons, List.all_nil, AO.ok, (shs 0).2, (sh1 0).2, (shd 0).2, (int_sh 0).2, Bool.and_true]) hsn (sn H)
      simpa only [sh2_tup, sh1_own, sh1_v, List.map_cons, List.map_nil, sh_box, sh_row, (shs _).1, (sh1 _).1, (shd _).1, cel] using hk
    · rw [if_neg h0] at hput
      have z2 : (cmpL l[r].lab lab == 0) = false := by simpa using h0
      obtain ⟨v, L, g1, g2⟩ := ins
      refine .inr ⟨_, v, L, hput, g1, fun s' H hsn => ?_⟩
      have key : lk2 4 5 (exec (callW F) 0 c11.body (start c11 [s, .agg [c1, .v (.int .i64 k), dd, .v (.int .i64 e)]]) []) = some (.tup [.own 4 2 v 0 L.length, .v (.int .i64 0)], [.box 22 [s], .box 29 [c1, .v (.int .i64 k), dd, .v (.int .i64 e)], .row 29 4 v L 0]) := by
       rw [← g2]
       rw [body, st]
       generalize (CC.seq (.region [] [] c11_4) .ret) = rest
       simp only [c11_0, c11_1, c11_2, hsc, cl, l0, l1, q1, e_mkfn, List.map_cons, List.map_nil, Q121, h23, z1, i1, ip_ld, s1, s2, p25, z2, lt2, Q122, Q0, Q1, Q2, Q3, Q4, Q5, Q6, Q7, Q8, Q9, Q10, Q11, Q12, Q13, Q14, Q15, Q16, Q17, Q18, Q19, Q20, Q21, Q22, Q23, Q24, Q25, Q26, Q27, Q28, Q29, Q30, Q31, Q32, Q33, Q35, Q36, Q37, Q38, Q39, Q40, Q41, Q42, Q43, Q44, Q45, Q46, Q47, Q48, Q49, Q50, Q51, Q52, Q53, Q54, Q55, Q56, Q57, Q58, Q59, Q60, Q61, Q62, Q63, Q64, Q65, Q66, Q67, Q68, Q69, Q70, Q71, Q72, Q73, Q99, Q100, Q101, Q102, Q103, Q74, Q75, Q77, Q78, Q79, Q80, Q81, Q82, Q83, Q84, clr, List.length_nil, List.length_cons, List.getElem?_cons_zero, List.getElem?_cons_succ, Nat.reduceAdd, Nat.zero_add, Nat.add_zero, Nat.reduceLeDiff, Nat.reduceSub, ↓reduceIte, List.drop_succ_cons, List.drop_zero, List.take_succ_cons, List.take_zero, Bool.false_eq_true, List.nil_append, List.cons_append, Bool.not_true, Bool.not_false, cond_true, cond_false, bne, Q85, Q86, Q87, Q88, Q89, Q90, Q91, Q92, Q93, Q94, Q95, Q96, Q97, Q98, Q110, Q111, Q116, Q117, Q118, Q119, Q120, Q121, Q122, Q123, Option.map_some, Option.map_none, Q34]
      have hk := keep11 key rfl (by simp only [List.all_cons, List.all_nil, AO.ok, (shs 0).2, (sh1 0).2, (shd 0).2, (int_sh 0).2, Bool.and_true]) hsn (sn H)
      simpa only [sh2_tup, sh1_own, sh1_v, List.map_cons, List.map_nil, sh_box, sh_row, (shs _).1, (sh1 _).1, (shd _).1, cel] using hk
  · have hrl : r = l.length := by omega
    rw [dif_neg hlt] at hput
    obtain ⟨v, L, g1, g2⟩ := ins
    refine .inr ⟨_, v, L, hput, g1, fun s' H hsn => ?_⟩
    have z1 : decide ((r : Int) < (l.length : Int)) = false := decide_eq_false (by omega)
    have key : lk2 4 5 (exec (callW F) 0 c11.body (start c11 [s, .agg [c1, .v (.int .i64 k), dd, .v (.int .i64 e)]]) []) = some (.tup [.own 4 2 v 0 L.length, .v (.int .i64 0)], [.box 22 [s], .box 29 [c1, .v (.int .i64 k), dd, .v (.int .i64 e)], .row 29 4 v L 0]) := by
     rw [← g2]
     rw [body, st]
     generalize (CC.seq (.region [] [] c11_4) .ret) = rest
     simp only [c11_0, c11_1, c11_2, hsc, cl, l0, l1, q1, e_mkfn, List.map_cons, List.map_nil, Q121, h23, z1, Q122, Q0, Q1, Q2, Q3, Q4, Q5, Q6, Q7, Q8, Q9, Q10, Q11, Q12, Q13, Q14, Q15, Q16, Q17, Q18, Q19, Q20, Q21, Q22, Q23, Q24, Q25, Q26, Q27, Q28, Q29, Q30, Q31, Q32, Q33, Q35, Q36, Q37, Q38, Q39, Q40, Q41, Q42, Q43, Q44, Q45, Q46, Q47, Q48, Q49, Q50, Q51, Q52, Q53, Q54, Q55, Q56, Q57, Q58, Q59, Q60, Q61, Q62, Q63, Q64, Q65, Q66, Q67, Q68, Q69, Q70, Q71, Q72, Q73, Q99, Q100, Q101, Q102, Q103, Q74, Q75, Q77, Q78, Q79, Q80, Q81, Q82, Q83, Q84, clr, List.length_nil, List.length_cons, List.getElem?_cons_zero, List.getElem?_cons_succ, Nat.reduceAdd, Nat.zero_add, Nat.add_zero, Nat.reduceLeDiff, Nat.reduceSub, ↓reduceIte, List.drop_succ_cons, List.drop_zero, List.take_succ_cons, List.take_zero, Bool.false_eq_true, List.nil_append, List.cons_append, Bool.not_true, Bool.not_false, cond_true, cond_false, bne, Q85, Q86, Q87, Q88, Q89, Q90, Q91, Q92, Q93, Q94, Q95, Q96, Q97, Q98, Q110, Q111, Q116, Q117, Q118, Q119, Q120, Q121, Q122, Q123, Option.map_some, Option.map_none, Q34]
    have hk := keep11 key rfl (by simp only [List.all_cons, List.all_nil, AO.ok, (shs 0).2, (sh1 0).2, (shd 0).2, (int_sh 0).2, Bool.and_true]) hsn (sn H)
    simpa only [sh2_tup, sh1_own, sh1_v, List.map_cons, List.map_nil, sh_box, sh_row, (shs _).1, (sh1 _).1, (shd _).1, cel] using hk
end Go.AE.Ytkdjdhfoodlnfaa
end

/-! The examples. -/
section
set_option linter.unusedVariables false
namespace Go.AE.Ytkdjdhfoodlnfaa
open Go Go.AE Go.Proofs.Ytkdjdhfoodlnfaa
set_option maxRecDepth 1000000 in
theorem live_n : callN F 40 8 [] [] = some (.v (.bool true), []) := by kernel_rfl
theorem live_ok : callW F 8 [] [] = some (.v (.bool true), []) := callW_iff.2 ⟨_, live_n⟩
end Go.AE.Ytkdjdhfoodlnfaa
end

/-! Whether a log is too great: walked. -/
section
set_option linter.unusedVariables false
set_option linter.unusedSimpArgs false
namespace Go.AE.Ytkdjdhfoodlnfaa
open Go Go.AE Go.Proofs.Ytkdjdhfoodlnfaa

def K9 : List Bool := [false, true, false, false, false, false, true, true, true, false, false, false, false, false, false, false]
def V9 (c d : AV) (len i : Int) (x9 : AV) : List AV := [.junk, d, .junk, .junk, .junk, .junk, c, .v (.int .i64 len), .v (.int .i64 i), x9, .junk, .junk, .junk, .junk, .junk, .junk]
theorem ip_ld4 {a b c d : AV} (H : List AO) : Q76 H true 4 (.ip [a, b, c, d]) = some (.agg [a, b, c, d]) := rfl
theorem lv1_one {h : List AO} {vars : List AV} {i : Nat} {x : Value} (hx : getO vars [] (.var i) = .v x) : lv [.var i] (some (.ret, vars, h)) = some (.v x, []) := by
  simp only [Q85]
  have h1 : resOf vars h (.var i) = some (.v x) := by rw [← hx]; rfl
  simp only [List.mapM_cons, List.mapM_nil, h1]
  rfl
theorem big_loop {K : Nat} {c d : AV} {l : List En} (hc : Lg c l) (hK : l.length < K) (h : List AO) (v : List AV) (hv : clr K9 v = V9 c d l.length 0 .junk) :
    ∃ e v' h', loopN (exec (callW F) K c9_9) K9 K v h = some (e, v', h') ∧ ((e = .ret ∧ getO v' [] (.var 2) = .v (.bool true)) ∨ (e = .exit 0 ∧ v' = V9 c d l.length l.length (.v (.bool false)))) := by
  obtain ⟨e, v', h', g1, g2, g3⟩ := loop_rule0 (call := callW F) (K := K) (b := c9_9) (keep := K9) (fun i v h' => v = V9 c d l.length i .junk)
    (fun e v h' => ((e = .ret ∧ getO v [] (.var 2) = .v (.bool true)) ∨ (e = .exit 0 ∧ v = V9 c d l.length l.length (.v (.bool false))))) l.length (m := K) (v := v) (h := h) hK hv (by
      rintro i v h' hi rfl
      by_cases hil : i < l.length
      · have hlt := lt_t hil
        have hw := wrap_succ hil hc.max
        obtain ⟨c1, k, dd, e, e1, n1, _, t1, _⟩ := hc.at hil
        have z : (ofVal (.agg #[.slice none 0 0, .int .i64 0, .slice none 0 0, .int .i64 0])).cl = some [.v (.slice none 0 0), .v (.int .i64 0), .v (.slice none 0 0), .v (.int .i64 0)] := by kernel_rfl
        have cl := (IsEn.mk c1 l[i].lab n1 k dd l[i].terms t1 e).cl
        simp only [AV.cells] at cl
        have st : Q113 (h' ++ [.box 29 [.v (.slice none 0 0), .v (.int .i64 0), .v (.slice none 0 0), .v (.int .i64 0)]]) 4 (.ptr h'.length 0) (.agg [c1, .v (.int .i64 k), dd, .v (.int .i64 e)]) = some (h' ++ [.box 29 [c1, .v (.int .i64 k), dd, .v (.int .i64 e)]]) := st_new cl rfl rfl
        have ld0 : Q76 (h' ++ [.box 29 [c1, .v (.int .i64 k), dd, .v (.int .i64 e)]]) false 1 (.ptr h'.length 0) = some c1 := by rw [ld_new]; rfl
        have ld2 : Q76 (h' ++ [.box 29 [c1, .v (.int .i64 k), dd, .v (.int .i64 e)]]) false 1 (.ptr h'.length 2) = some dd := by rw [ld_new]; rfl
        have ln1 := fun H => n1.len H
        have ln2 := fun H => IsL.ln t1 H
        cases hb : decide ((l[i].lab.length : Int) > 100) with
        | true =>
          refine ⟨.ret, [.junk, d, .v (.bool true), .ptr h'.length 0, .junk, .junk, c, .v (.int .i64 l.length), .v (.int .i64 i), .v (.bool true), .v (.bool true), .junk, .junk, .junk, .junk, .junk], h' ++ [.box 29 [c1, .v (.int .i64 k), dd, .v (.int .i64 e)]], ?_, .inl ⟨rfl, rfl⟩⟩
          simp only [V9, c9_9, c9_4, c9_5, c9_6, c9_7, hlt, hw, e1, ip_ld4, z, st, ld0, ld2, ln1, ln2, hb, Q122, Q0, Q1, Q2, Q3, Q4, Q5, Q6, Q7, Q8, Q9, Q10, Q11, Q12, Q13, Q14, Q15, Q16, Q17, Q18, Q19, Q20, Q21, Q22, Q23, Q24, Q25, Q26, Q27, Q28, Q29, Q30, Q31, Q32, Q33, Q35, Q36, Q37, Q38, Q39, Q40, Q41, Q42, Q43, Q44, Q45, Q46, Q47, Q48, Q49, Q50, Q51, Q52, Q53, Q54, Q55, Q56, Q57, Q58, Q59, Q60, Q61, Q62, Q63, Q64, Q65, Q66, Q67, Q68, Q69, Q70, Q71, Q72, Q73, Q99, Q100, Q101, Q102, Q103, Q74, Q75, Q77, Q78, Q79, Q80, Q81, Q82, Q83, Q84, clr, List.length_nil, List.length_cons, List.getElem?_cons_zero, List.getElem?_cons_succ, Nat.reduceAdd, Nat.zero_add, Nat.add_zero, Nat.reduceLeDiff, Nat.reduceSub, ↓reduceIte, List.drop_succ_cons, List.drop_zero, List.take_succ_cons, List.take_zero, Bool.false_eq_true, List.nil_append, List.cons_append, Bool.not_true, Bool.not_false, cond_true, cond_false, bne, Q85, Q86, Q87, Q88, Q89, Q90, Q91, Q92, Q93, Q94, Q95, Q96, Q97, Q98, Q110, Q111, Q116, Q117, Q118, Q119, Q120, Q121, Q122, Q123, Option.map_some, Option.map_none, Q34]
        | false =>
        cases hb2 : decide ((l[i].terms.length : Int) > 0) with
        | false =>
          refine ⟨.normal, [.junk, d, .junk, .ptr h'.length 0, .junk, .junk, c, .v (.int .i64 l.length), .v (.int .i64 ((i + 1 : Nat) : Int)), .v (.bool true), .v (.bool false), .junk, .junk, .junk, .junk, .junk], h' ++ [.box 29 [c1, .v (.int .i64 k), dd, .v (.int .i64 e)]], ?_, hil, rfl⟩
          simp only [V9, c9_9, c9_4, c9_5, c9_6, c9_8, hlt, hw, e1, ip_ld4, z, st, ld0, ld2, ln1, ln2, hb, hb2, Q122, Q0, Q1, Q2, Q3, Q4, Q5, Q6, Q7, Q8, Q9, Q10, Q11, Q12, Q13, Q14, Q15, Q16, Q17, Q18, Q19, Q20, Q21, Q22, Q23, Q24, Q25, Q26, Q27, Q28, Q29, Q30, Q31, Q32, Q33, Q35, Q36, Q37, Q38, Q39, Q40, Q41, Q42, Q43, Q44, Q45, Q46, Q47, Q48, Q49, Q50, Q51, Q52, Q53, Q54, Q55, Q56, Q57, Q58, Q59, Q60, Q61, Q62, Q63, Q64, Q65, Q66, Q67, Q68, Q69, Q70, Q71, Q72, Q73, Q99, Q100, Q101, Q102, Q103, Q74, Q75, Q77, Q78, Q79, Q80, Q81, Q82, Q83, Q84, clr, List.length_nil, List.length_cons, List.getElem?_cons_zero, List.getElem?_cons_succ, Nat.reduceAdd, Nat.zero_add, Nat.add_zero, Nat.reduceLeDiff, Nat.reduceSub, ↓reduceIte, List.drop_succ_cons, List.drop_zero, List.take_succ_cons, List.take_zero, Bool.false_eq_true, List.nil_append, List.cons_append, Bool.not_true, Bool.not_false, cond_true, cond_false, bne, Q85, Q86, Q87, Q88, Q89, Q90, Q91, Q92, Q93, Q94, Q95, Q96, Q97, Q98, Q110, Q111, Q116, Q117, Q118, Q119, Q120, Q121, Q122, Q123, Option.map_some, Option.map_none, Q34]
        | true =>
          refine ⟨.ret, [.junk, d, .v (.bool true), .ptr h'.length 0, .junk, .junk, c, .v (.int .i64 l.length), .v (.int .i64 i), .v (.bool true), .v (.bool true), .junk, .junk, .junk, .junk, .junk], h' ++ [.box 29 [c1, .v (.int .i64 k), dd, .v (.int .i64 e)]], ?_, .inl ⟨rfl, rfl⟩⟩
          simp only [V9, c9_9, c9_4, c9_5, c9_6, c9_7, hlt, hw, e1, ip_ld4, z, st, ld0, ld2, ln1, ln2, hb, hb2, Q122, Q0, Q1, Q2, Q3, Q4, Q5, Q6, Q7, Q8, Q9, Q10, Q11, Q12, Q13, Q14, Q15, Q16, Q17, Q18, Q19, Q20, Q21, Q22, Q23, Q24, Q25, Q26, Q27, Q28, Q29, Q30, Q31, Q32, Q33, Q35, Q36, Q37, Q38, Q39, Q40, Q41, Q42, Q43, Q44, Q45, Q46, Q47, Q48, Q49, Q50, Q51, Q52, Q53, Q54, Q55, Q56, Q57, Q58, Q59, Q60, Q61, Q62, Q63, Q64, Q65, Q66, Q67, Q68, Q69, Q70, Q71, Q72, Q73, Q99, Q100, Q101, Q102, Q103, Q74, Q75, Q77, Q78, Q79, Q80, Q81, Q82, Q83, Q84, clr, List.length_nil, List.length_cons, List.getElem?_cons_zero, List.getElem?_cons_succ, Nat.reduceAdd, Nat.zero_add, Nat.add_zero, Nat.reduceLeDiff, Nat.reduceSub, ↓reduceIte, List.drop_succ_cons, List.drop_zero, List.take_succ_cons, List.take_zero, Bool.false_eq_true, List.nil_append, List.cons_append, Bool.not_true, Bool.not_false, cond_true, cond_false, bne, Q85, Q86, Q87, Q88, Q89, Q90, Q91, Q92, Q93, Q94, Q95, Q96, Q97, Q98, Q110, Q111, Q116, Q117, Q118, Q119, Q120, Q121, Q122, Q123, Option.map_some, Option.map_none, Q34]
      · have hie : i = l.length := by omega
        subst hie
        have hlt := lt_f (n := l.length)
        refine ⟨.exit 0, V9 c d l.length l.length (.v (.bool false)), h', ?_, .inr ⟨rfl, rfl⟩⟩
        simp only [V9, c9_9, c9_4, hlt, Q0, Q1, Q2, Q3, Q4, Q5, Q6, Q7, Q8, Q9, Q10, Q11, Q12, Q13, Q14, Q15, Q16, Q17, Q18, Q19, Q20, Q21, Q22, Q23, Q24, Q25, Q26, Q27, Q28, Q29, Q30, Q31, Q32, Q33, Q35, Q36, Q37, Q38, Q39, Q40, Q41, Q42, Q43, Q44, Q45, Q46, Q47, Q48, Q49, Q50, Q51, Q52, Q53, Q54, Q55, Q56, Q57, Q58, Q59, Q60, Q61, Q62, Q63, Q64, Q65, Q66, Q67, Q68, Q69, Q70, Q71, Q72, Q73, Q99, Q100, Q101, Q102, Q103, Q74, Q75, Q77, Q78, Q79, Q80, Q81, Q82, Q83, Q84, clr, List.length_nil, List.length_cons, List.getElem?_cons_zero, List.getElem?_cons_succ, Nat.reduceAdd, Nat.zero_add, Nat.add_zero, Nat.reduceLeDiff, Nat.reduceSub, ↓reduceIte, List.drop_succ_cons, List.drop_zero, List.take_succ_cons, List.take_zero, Bool.false_eq_true, List.nil_append, List.cons_append, Bool.not_true, Bool.not_false, cond_true, cond_false, bne, Q85, Q86, Q87, Q88, Q89, Q90, Q91, Q92, Q93, Q94, Q95, Q96, Q97, Q98, Q110, Q111, Q116, Q117, Q118, Q119, Q120, Q121, Q122, Q123, Option.map_some, Option.map_none, Q34])
  exact ⟨e, v', h', g1, g3⟩
def K9b : List Bool := [false, false, false, false, false, false, false, false, false, false, false, true, true, true, false, false]
def V9b (d : AV) (len i : Int) (x14 : AV) : List AV := [.junk, .junk, .junk, .junk, .junk, .junk, .junk, .junk, .junk, .junk, .junk, d, .v (.int .i64 len), .v (.int .i64 i), x14, .junk]
theorem big_loop2 {K : Nat} {d : AV} {l : List (List Int)} (hc : Nss d l) (hK : l.length < K) (h : List AO) (v : List AV) (hv : clr K9b v = V9b d l.length 0 .junk) :
    ∃ e v' h', loopN (exec (callW F) K c9_16) K9b K v h = some (e, v', h') ∧ ((e = .ret ∧ getO v' [] (.var 2) = .v (.bool true)) ∨ (e = .exit 2 ∧ v' = V9b d l.length l.length (.v (.bool false)))) := by
  obtain ⟨e, v', h', g1, g2, g3⟩ := loop_rule0 (call := callW F) (K := K) (b := c9_16) (keep := K9b) (fun i v h' => v = V9b d l.length i .junk)
    (fun e v h' => ((e = .ret ∧ getO v [] (.var 2) = .v (.bool true)) ∨ (e = .exit 2 ∧ v = V9b d l.length l.length (.v (.bool false))))) l.length (m := K) (v := v) (h := h) hK hv (by
      rintro i v h' hi rfl
      by_cases hil : i < l.length
      · have hlt := lt_t hil
        have hw := wrap_succ hil hc.max
        obtain ⟨c1, e1, n1⟩ := hc.at hil
        have ln1 := fun H => n1.len H
        cases hb : decide ((l[i].length : Int) > 100) with
        | true =>
          refine ⟨.ret, [.junk, .junk, .v (.bool true), .junk, c1, .junk, .junk, .junk, .junk, .junk, .junk, d, .v (.int .i64 l.length), .v (.int .i64 i), .v (.bool true), .v (.bool true)], h', ?_, .inl ⟨rfl, rfl⟩⟩
          simp only [V9b, c9_16, c9_11, c9_12, c9_13, c9_14, hlt, hw, e1, ip_ld, ln1, hb, Q122, Q0, Q1, Q2, Q3, Q4, Q5, Q6, Q7, Q8, Q9, Q10, Q11, Q12, Q13, Q14, Q15, Q16, Q17, Q18, Q19, Q20, Q21, Q22, Q23, Q24, Q25, Q26, Q27, Q28, Q29, Q30, Q31, Q32, Q33, Q35, Q36, Q37, Q38, Q39, Q40, Q41, Q42, Q43, Q44, Q45, Q46, Q47, Q48, Q49, Q50, Q51, Q52, Q53, Q54, Q55, Q56, Q57, Q58, Q59, Q60, Q61, Q62, Q63, Q64, Q65, Q66, Q67, Q68, Q69, Q70, Q71, Q72, Q73, Q99, Q100, Q101, Q102, Q103, Q74, Q75, Q77, Q78, Q79, Q80, Q81, Q82, Q83, Q84, clr, List.length_nil, List.length_cons, List.getElem?_cons_zero, List.getElem?_cons_succ, Nat.reduceAdd, Nat.zero_add, Nat.add_zero, Nat.reduceLeDiff, Nat.reduceSub, ↓reduceIte, List.drop_succ_cons, List.drop_zero, List.take_succ_cons, List.take_zero, Bool.false_eq_true, List.nil_append, List.cons_append, Bool.not_true, Bool.not_false, cond_true, cond_false, bne, Q85, Q86, Q87, Q88, Q89, Q90, Q91, Q92, Q93, Q94, Q95, Q96, Q97, Q98, Q110, Q111, Q116, Q117, Q118, Q119, Q120, Q121, Q122, Q123, Option.map_some, Option.map_none, Q34]
        | false =>
          refine ⟨.normal, [.junk, .junk, .junk, .junk, c1, .junk, .junk, .junk, .junk, .junk, .junk, d, .v (.int .i64 l.length), .v (.int .i64 ((i + 1 : Nat) : Int)), .v (.bool true), .v (.bool false)], h', ?_, hil, rfl⟩
          simp only [V9b, c9_16, c9_11, c9_12, c9_13, c9_15, hlt, hw, e1, ip_ld, ln1, hb, Q122, Q0, Q1, Q2, Q3, Q4, Q5, Q6, Q7, Q8, Q9, Q10, Q11, Q12, Q13, Q14, Q15, Q16, Q17, Q18, Q19, Q20, Q21, Q22, Q23, Q24, Q25, Q26, Q27, Q28, Q29, Q30, Q31, Q32, Q33, Q35, Q36, Q37, Q38, Q39, Q40, Q41, Q42, Q43, Q44, Q45, Q46, Q47, Q48, Q49, Q50, Q51, Q52, Q53, Q54, Q55, Q56, Q57, Q58, Q59, Q60, Q61, Q62, Q63, Q64, Q65, Q66, Q67, Q68, Q69, Q70, Q71, Q72, Q73, Q99, Q100, Q101, Q102, Q103, Q74, Q75, Q77, Q78, Q79, Q80, Q81, Q82, Q83, Q84, clr, List.length_nil, List.length_cons, List.getElem?_cons_zero, List.getElem?_cons_succ, Nat.reduceAdd, Nat.zero_add, Nat.add_zero, Nat.reduceLeDiff, Nat.reduceSub, ↓reduceIte, List.drop_succ_cons, List.drop_zero, List.take_succ_cons, List.take_zero, Bool.false_eq_true, List.nil_append, List.cons_append, Bool.not_true, Bool.not_false, cond_true, cond_false, bne, Q85, Q86, Q87, Q88, Q89, Q90, Q91, Q92, Q93, Q94, Q95, Q96, Q97, Q98, Q110, Q111, Q116, Q117, Q118, Q119, Q120, Q121, Q122, Q123, Option.map_some, Option.map_none, Q34]
      · have hie : i = l.length := by omega
        subst hie
        have hlt := lt_f (n := l.length)
        refine ⟨.exit 2, V9b d l.length l.length (.v (.bool false)), h', ?_, .inr ⟨rfl, rfl⟩⟩
        simp only [V9b, c9_16, c9_11, hlt, Q0, Q1, Q2, Q3, Q4, Q5, Q6, Q7, Q8, Q9, Q10, Q11, Q12, Q13, Q14, Q15, Q16, Q17, Q18, Q19, Q20, Q21, Q22, Q23, Q24, Q25, Q26, Q27, Q28, Q29, Q30, Q31, Q32, Q33, Q35, Q36, Q37, Q38, Q39, Q40, Q41, Q42, Q43, Q44, Q45, Q46, Q47, Q48, Q49, Q50, Q51, Q52, Q53, Q54, Q55, Q56, Q57, Q58, Q59, Q60, Q61, Q62, Q63, Q64, Q65, Q66, Q67, Q68, Q69, Q70, Q71, Q72, Q73, Q99, Q100, Q101, Q102, Q103, Q74, Q75, Q77, Q78, Q79, Q80, Q81, Q82, Q83, Q84, clr, List.length_nil, List.length_cons, List.getElem?_cons_zero, List.getElem?_cons_succ, Nat.reduceAdd, Nat.zero_add, Nat.add_zero, Nat.reduceLeDiff, Nat.reduceSub, ↓reduceIte, List.drop_succ_cons, List.drop_zero, List.take_succ_cons, List.take_zero, Bool.false_eq_true, List.nil_append, List.cons_append, Bool.not_true, Bool.not_false, cond_true, cond_false, bne, Q85, Q86, Q87, Q88, Q89, Q90, Q91, Q92, Q93, Q94, Q95, Q96, Q97, Q98, Q110, Q111, Q116, Q117, Q118, Q119, Q120, Q121, Q122, Q123, Option.map_some, Option.map_none, Q34])
  exact ⟨e, v', h', g1, g3⟩
theorem big_ok {c d : AV} {l : List En} {m : List (List Int)} (hc : Lg c l) (hd : Nss d m) : ∃ r, callW F 9 [c, d] [] = some (.v (.bool r), []) ∧ (r = false → l.length ≤ 200 ∧ m.length ≤ 200) := by
  have q1 := fun H => hc.len H
  have q2 := fun H => hd.len H
  have st9 : start c9 [c, d] = [c, d, .v undef, .v undef, .v undef, .v undef, .v undef, .v undef, .v undef, .v undef, .v undef, .v undef, .v undef, .v undef, .v undef, .v undef] := rfl
  have hres : c9.res = [.var 2] := rfl
  cases b1 : decide ((l.length : Int) > 200) with
  | true =>
    refine ⟨true, callW_pure (c := c9) rfl rfl 0 ?_, fun h => by cases h⟩
    rw [st9]
    simp only [c9, c9_0, c9_1, c9_2, q1, q2, b1, Q122, Q0, Q1, Q2, Q3, Q4, Q5, Q6, Q7, Q8, Q9, Q10, Q11, Q12, Q13, Q14, Q15, Q16, Q17, Q18, Q19, Q20, Q21, Q22, Q23, Q24, Q25, Q26, Q27, Q28, Q29, Q30, Q31, Q32, Q33, Q35, Q36, Q37, Q38, Q39, Q40, Q41, Q42, Q43, Q44, Q45, Q46, Q47, Q48, Q49, Q50, Q51, Q52, Q53, Q54, Q55, Q56, Q57, Q58, Q59, Q60, Q61, Q62, Q63, Q64, Q65, Q66, Q67, Q68, Q69, Q70, Q71, Q72, Q73, Q99, Q100, Q101, Q102, Q103, Q74, Q75, Q77, Q78, Q79, Q80, Q81, Q82, Q83, Q84, clr, List.length_nil, List.length_cons, List.getElem?_cons_zero, List.getElem?_cons_succ, Nat.reduceAdd, Nat.zero_add, Nat.add_zero, Nat.reduceLeDiff, Nat.reduceSub, ↓reduceIte, List.drop_succ_cons, List.drop_zero, List.take_succ_cons, List.take_zero, Bool.false_eq_true, List.nil_append, List.cons_append, Bool.not_true, Bool.not_false, cond_true, cond_false, bne, Q85, Q86, Q87, Q88, Q89, Q90, Q91, Q92, Q93, Q94, Q95, Q96, Q97, Q98, Q110, Q111, Q116, Q117, Q118, Q119, Q120, Q121, Q122, Q123, Option.map_some, Option.map_none, Q34]
  | false =>
  cases b2 : decide ((m.length : Int) > 200) with
  | true =>
    refine ⟨true, callW_pure (c := c9) rfl rfl 0 ?_, fun h => by cases h⟩
    rw [st9]
    simp only [c9, c9_0, c9_1, c9_2, q1, q2, b1, b2, Q122, Q0, Q1, Q2, Q3, Q4, Q5, Q6, Q7, Q8, Q9, Q10, Q11, Q12, Q13, Q14, Q15, Q16, Q17, Q18, Q19, Q20, Q21, Q22, Q23, Q24, Q25, Q26, Q27, Q28, Q29, Q30, Q31, Q32, Q33, Q35, Q36, Q37, Q38, Q39, Q40, Q41, Q42, Q43, Q44, Q45, Q46, Q47, Q48, Q49, Q50, Q51, Q52, Q53, Q54, Q55, Q56, Q57, Q58, Q59, Q60, Q61, Q62, Q63, Q64, Q65, Q66, Q67, Q68, Q69, Q70, Q71, Q72, Q73, Q99, Q100, Q101, Q102, Q103, Q74, Q75, Q77, Q78, Q79, Q80, Q81, Q82, Q83, Q84, clr, List.length_nil, List.length_cons, List.getElem?_cons_zero, List.getElem?_cons_succ, Nat.reduceAdd, Nat.zero_add, Nat.add_zero, Nat.reduceLeDiff, Nat.reduceSub, ↓reduceIte, List.drop_succ_cons, List.drop_zero, List.take_succ_cons, List.take_zero, Bool.false_eq_true, List.nil_append, List.cons_append, Bool.not_true, Bool.not_false, cond_true, cond_false, bne, Q85, Q86, Q87, Q88, Q89, Q90, Q91, Q92, Q93, Q94, Q95, Q96, Q97, Q98, Q110, Q111, Q116, Q117, Q118, Q119, Q120, Q121, Q122, Q123, Option.map_some, Option.map_none, Q34]
  | false =>
    have hle : l.length ≤ 200 ∧ m.length ≤ 200 := by
      have h1 := of_decide_eq_false b1
      have h2 := of_decide_eq_false b2
      omega
    obtain ⟨e, v', h', g1, g2⟩ := big_loop (K := l.length + m.length + 1) (d := d) hc (by omega) [] [c, d, .v (.bool false), .v undef, .v undef, .v (.bool false), c, .v (.int .i64 l.length), .v (.int .i64 0), .v undef, .v undef, .v undef, .v undef, .v undef, .v undef, .v undef] rfl
    have hbody : c9.body = (.seq (.region [] [] c9_0) (.seq (.seq (.region [] [] c9_1) (.cond (.var 5) (.seq (.region [] [] c9_2) .ret) .skip)) (.seq (.seq (.region [] [] c9_3) (.block 0 (.loop K9 [] c9_9))) (.seq (.seq (.region [] [] c9_10) (.block 2 (.loop K9b [] c9_16))) (.seq (.region [] [] c9_17) .ret))))) := rfl
    rcases g2 with ⟨rfl, g2⟩ | ⟨rfl, rfl⟩
    · refine ⟨true, callW_pure (c := c9) rfl rfl (l.length + m.length + 1) ?_, fun h => by cases h⟩
      rw [st9, hbody, hres]
      generalize c9_9 = bb at g1 ⊢
      generalize (CC.seq (.seq (.region [] [] c9_10) (.block 2 (.loop K9b [] c9_16))) (.seq (.region [] [] c9_17) .ret)) = rest
      simp only [c9_0, c9_1, c9_3, q1, q2, b1, b2, g1, Q122, Q0, Q1, Q2, Q3, Q4, Q5, Q6, Q7, Q8, Q9, Q10, Q11, Q12, Q13, Q14, Q15, Q16, Q17, Q18, Q19, Q20, Q21, Q22, Q23, Q24, Q25, Q26, Q27, Q28, Q29, Q30, Q31, Q32, Q33, Q35, Q36, Q37, Q38, Q39, Q40, Q41, Q42, Q43, Q44, Q45, Q46, Q47, Q48, Q49, Q50, Q51, Q52, Q53, Q54, Q55, Q56, Q57, Q58, Q59, Q60, Q61, Q62, Q63, Q64, Q65, Q66, Q67, Q68, Q69, Q70, Q71, Q72, Q73, Q99, Q100, Q101, Q102, Q103, Q74, Q75, Q77, Q78, Q79, Q80, Q81, Q82, Q83, Q84, clr, List.length_nil, List.length_cons, List.getElem?_cons_zero, List.getElem?_cons_succ, Nat.reduceAdd, Nat.zero_add, Nat.add_zero, Nat.reduceLeDiff, Nat.reduceSub, ↓reduceIte, List.drop_succ_cons, List.drop_zero, List.take_succ_cons, List.take_zero, Bool.false_eq_true, List.nil_append, List.cons_append, Bool.not_true, Bool.not_false, cond_true, cond_false, bne, Q85, Q86, Q87, Q88, Q89, Q90, Q91, Q92, Q93, Q94, Q95, Q96, Q97, Q98, Q110, Q111, Q116, Q117, Q118, Q119, Q120, Q121, Q122, Q123, Option.map_some, Option.map_none, Q34]
      exact lv1_one g2
    · obtain ⟨e2, v2, h2, k1, k2⟩ := big_loop2 (K := l.length + m.length + 1) hd (by omega) h' [.junk, d, .junk, .junk, .junk, .junk, c, .v (.int .i64 l.length), .v (.int .i64 l.length), .v (.bool false), .junk, d, .v (.int .i64 m.length), .v (.int .i64 0), .junk, .junk] rfl
      rcases k2 with ⟨rfl, k2⟩ | ⟨rfl, rfl⟩
      · refine ⟨true, callW_pure (c := c9) rfl rfl (l.length + m.length + 1) ?_, fun h => by cases h⟩
        rw [st9, hbody, hres]
        simp only [V9] at g1
        generalize c9_9 = bb at g1 ⊢
        generalize c9_16 = bb2 at k1 ⊢
        generalize (CC.seq (.region [] [] c9_17) .ret) = rest
        simp only [c9_0, c9_1, c9_3, c9_10, q1, q2, b1, b2, g1, k1, Q122, Q0, Q1, Q2, Q3, Q4, Q5, Q6, Q7, Q8, Q9, Q10, Q11, Q12, Q13, Q14, Q15, Q16, Q17, Q18, Q19, Q20, Q21, Q22, Q23, Q24, Q25, Q26, Q27, Q28, Q29, Q30, Q31, Q32, Q33, Q35, Q36, Q37, Q38, Q39, Q40, Q41, Q42, Q43, Q44, Q45, Q46, Q47, Q48, Q49, Q50, Q51, Q52, Q53, Q54, Q55, Q56, Q57, Q58, Q59, Q60, Q61, Q62, Q63, Q64, Q65, Q66, Q67, Q68, Q69, Q70, Q71, Q72, Q73, Q99, Q100, Q101, Q102, Q103, Q74, Q75, Q77, Q78, Q79, Q80, Q81, Q82, Q83, Q84, clr, List.length_nil, List.length_cons, List.getElem?_cons_zero, List.getElem?_cons_succ, Nat.reduceAdd, Nat.zero_add, Nat.add_zero, Nat.reduceLeDiff, Nat.reduceSub, ↓reduceIte, List.drop_succ_cons, List.drop_zero, List.take_succ_cons, List.take_zero, Bool.false_eq_true, List.nil_append, List.cons_append, Bool.not_true, Bool.not_false, cond_true, cond_false, bne, Q85, Q86, Q87, Q88, Q89, Q90, Q91, Q92, Q93, Q94, Q95, Q96, Q97, Q98, Q110, Q111, Q116, Q117, Q118, Q119, Q120, Q121, Q122, Q123, Option.map_some, Option.map_none, Q34]
        exact lv1_one k2
      · refine ⟨false, callW_pure (c := c9) rfl rfl (l.length + m.length + 1) ?_, fun _ => hle⟩
        rw [st9, hbody, hres]
        simp only [V9] at g1
        simp only [V9b] at k1
        generalize c9_9 = bb at g1 ⊢
        generalize c9_16 = bb2 at k1 ⊢
        simp only [c9_0, c9_1, c9_3, c9_10, c9_17, q1, q2, b1, b2, g1, k1, Q122, Q0, Q1, Q2, Q3, Q4, Q5, Q6, Q7, Q8, Q9, Q10, Q11, Q12, Q13, Q14, Q15, Q16, Q17, Q18, Q19, Q20, Q21, Q22, Q23, Q24, Q25, Q26, Q27, Q28, Q29, Q30, Q31, Q32, Q33, Q35, Q36, Q37, Q38, Q39, Q40, Q41, Q42, Q43, Q44, Q45, Q46, Q47, Q48, Q49, Q50, Q51, Q52, Q53, Q54, Q55, Q56, Q57, Q58, Q59, Q60, Q61, Q62, Q63, Q64, Q65, Q66, Q67, Q68, Q69, Q70, Q71, Q72, Q73, Q99, Q100, Q101, Q102, Q103, Q74, Q75, Q77, Q78, Q79, Q80, Q81, Q82, Q83, Q84, clr, List.length_nil, List.length_cons, List.getElem?_cons_zero, List.getElem?_cons_succ, Nat.reduceAdd, Nat.zero_add, Nat.add_zero, Nat.reduceLeDiff, Nat.reduceSub, ↓reduceIte, List.drop_succ_cons, List.drop_zero, List.take_succ_cons, List.take_zero, Bool.false_eq_true, List.nil_append, List.cons_append, Bool.not_true, Bool.not_false, cond_true, cond_false, bne, Q85, Q86, Q87, Q88, Q89, Q90, Q91, Q92, Q93, Q94, Q95, Q96, Q97, Q98, Q110, Q111, Q116, Q117, Q118, Q119, Q120, Q121, Q122, Q123, Option.map_some, Option.map_none, Q34]
end Go.AE.Ytkdjdhfoodlnfaa
end

/-! Logs that lie in rows of the caller's: Same reads them, the law writes into them. -/
section
set_option linter.unusedVariables false
set_option linter.unusedSimpArgs false
namespace Go.AE.Ytkdjdhfoodlnfaa
open Go Go.AE Go.Proofs.Ytkdjdhfoodlnfaa

structure RdE (H : List AO) (s : AV) (l : List En) : Prop where
  len : evLen H .slice s = some l.length
  max : l.length ≤ maxLen
  get : ∀ (i : Nat) (hi : i < l.length), ∃ p p0 p1 c1 k dd e, iaV H 4 s (some i) = some p ∧ Q74 H 0 p = some p0 ∧ Q76 H false 1 p0 = some c1 ∧ Q74 H 1 p = some p1 ∧ Q76 H true 3 p1 = some (.agg [.v (.int .i64 k), dd, .v (.int .i64 e)]) ∧ Ns c1 l[i].lab ∧ k = l[i].kind ∧ IsL dd l[i].terms ∧ e = l[i].er
theorem Lg.rd {c : AV} {l : List En} (h : Lg c l) (H : List AO) : RdE H c l :=
  ⟨h.len H, h.max, fun i hi => by
    obtain ⟨c1, k, dd, e, e1, n1, y1, t1, y2⟩ := h.at hi
    exact ⟨_, _, _, c1, k, dd, e, e1 H, rfl, ip_ld H, rfl, rfl, n1, y1, t1, y2⟩⟩
theorem RdE.own {rt : TypeId} {H : List AO} {id ver k : Nat} {L es : List AV} {l : List En} (hr : H[id]? = some (.row rt 4 ver L k)) (ha : AllR IsEn es l) (hL : L.take es.length = es) (hm : es.length ≤ maxLen) : RdE H (.own 4 id ver 0 es.length) l := by
  have hlen : es.length ≤ L.length := by
    have := congrArg List.length hL
    rw [List.length_take] at this; omega
  have hl := ha.length
  refine ⟨by rw [row_len hr hlen, hl], by omega, fun i hi => ?_⟩
  have hie : i < es.length := by omega
  have hia := row_ia hr hlen hie
  obtain ⟨a, e1, e2⟩ := ha.get' (List.getElem?_eq_getElem hi)
  have hLi : L[i]? = some a := by
    rw [← e1]; conv => rhs; rw [← hL]
    rw [List.getElem?_take_of_lt hie]
  have hra := row_at (n := i + 1) hr (by omega)
  generalize l[i] = x at e2
  cases e2 with
  | mk c1 lab hc k' d ts hd e =>
    refine ⟨_, .ep 4 id ver i 0, .ep 4 id ver i 1, c1, k', d, e, hia, ?_, ?_, ?_, ?_, hc, rfl, hd, rfl⟩
    · simp only [Q74, hra, Option.map_some]
    · simp [Q76, hra, hLi, AV.cells, Q77]
    · simp only [Q74, hra, Option.map_some]
    · simp [Q76, hra, hLi, AV.cells, Q77]
theorem same_own {H : List AO} {c d : AV} {l m : List En} (hb : H.all (AO.below H.length) = true) (hc : RdE H c l) (hd : RdE H d m) : callW F 13 [c, d] H = some (.v (.bool (lgS l m)), H) := by
  have q1 := hc.len
  have q2 := hd.len
  have fin : ∀ (K : Nat) (vars : List AV) (x : Bool), getO vars [] (.var 2) = .v (.bool x) → exec (callW F) K c13.body (start c13 [c, d]) H = some (.ret, vars, H) → callW F 13 [c, d] H = some (.v (.bool x), H) := by
    intro K vars x hx he
    refine callW_own (c := c13) rfl rfl K ?_
    rw [List.append_nil, he]
    have := lv_b (c := c13) (H := H) (l := []) (vars := vars) (i := 2) (x := x) hb rfl hx
    rwa [List.append_nil] at this
  unfold lgS
  have st : start c13 [c, d] = [c, d, .v undef, .v undef, .v undef, .v undef, .v undef, .v undef, .v undef] := rfl
  cases hl : ((l.length : Int) == (m.length : Int)) with
  | false =>
    refine fin 0 [c, d, .v (.bool false), .v undef, .v (.bool true), .v undef, .v undef, .v undef, .v undef] false rfl ?_
    rw [st]
    simp only [c13, c13_0, c13_1, c13_2, q1, q2, hl, Bool.not_false, Bool.false_and, Q0, Q1, Q2, Q3, Q4, Q5, Q6, Q7, Q8, Q9, Q10, Q11, Q12, Q13, Q14, Q15, Q16, Q17, Q18, Q19, Q20, Q21, Q22, Q23, Q24, Q25, Q26, Q27, Q28, Q29, Q30, Q31, Q32, Q33, Q35, Q36, Q37, Q38, Q39, Q40, Q41, Q42, Q43, Q44, Q45, Q46, Q47, Q48, Q49, Q50, Q51, Q52, Q53, Q54, Q55, Q56, Q57, Q58, Q59, Q60, Q61, Q62, Q63, Q64, Q65, Q66, Q67, Q68, Q69, Q70, Q71, Q72, Q73, Q99, Q100, Q101, Q102, Q103, Q75, Q77, Q78, Q79, Q80, Q81, Q82, Q83, Q84, clr, List.length_nil, List.length_cons, List.getElem?_cons_zero, List.getElem?_cons_succ, Nat.reduceAdd, Nat.zero_add, Nat.add_zero, Nat.reduceLeDiff, Nat.reduceSub, ↓reduceIte, List.drop_succ_cons, List.drop_zero, List.take_succ_cons, List.take_zero, Bool.false_eq_true, List.nil_append, List.cons_append, Bool.not_true, Bool.not_false, cond_true, cond_false, bne, Q85, Q86, Q87, Q88, Q89, Q90, Q91, Q92, Q93, Q94, Q95, Q96, Q97, Q98, Q110, Q111, Q116, Q117, Q118, Q119, Q120, Q121, Q122, Q123, Option.map_some, Option.map_none, Q34]
  | true =>
  have hleq : l.length = m.length := by have := eq_of_beq hl; omega
  obtain ⟨e, v', h', g1, g2, g3⟩ := loop_rule0 (call := callW F) (K := l.length + 1) (b := c13_9) (keep := K13)
    (fun i v h => v = V13 c d l.length i .junk ∧ h = H ∧ lgL (l.drop i) (m.drop i) = lgL l m)
    (fun e v h => h = H ∧ ((e = .exit 0 ∧ lgL l m = true ∧ v = V13 c d l.length l.length (.v (.bool false))) ∨ (e = .ret ∧ lgL l m = false ∧ getO v [] (.var 2) = .v (.bool false))))
    l.length (m := l.length + 1) (v := [c, d, .v (.bool false), .v undef, .v (.bool false), .v (.int .i64 l.length), .v (.int .i64 0), .v undef, .v undef]) (h := H) (by omega) ⟨rfl, rfl, rfl⟩ (by
      rintro i v h hi ⟨rfl, rfl, hR⟩
      by_cases hil : i < l.length
      · have him : i < m.length := by omega
        have hlt := lt_t hil
        have hw := wrap_succ (i := i) (len := l.length) hil hc.max
        obtain ⟨p, p0, p1, c1, k, dd, e, a1, a2, a3, a4, a5, n1, rfl, t1, rfl⟩ := hc.get i hil
        obtain ⟨p', p0', p1', c2, k', dd', e', b1, b2, b3, b4, b5, n2, rfl, t2, rfl⟩ := hd.get i him
        have hcm := rcompare_ok n1 n2
        have hev := event_ok (k := l[i].kind) (e := l[i].er) (k' := m[i].kind) (e' := m[i].er) t1 t2
        have s1 := fun H => n1.sn H
        have s2 := fun H => n2.sn H
        have s3 := fun H => ev3_sn t1 (k := l[i].kind) (e := l[i].er) H
        have s4 := fun H => ev3_sn t2 (k := m[i].kind) (e := m[i].er) H
        rw [List.drop_eq_getElem_cons hil, List.drop_eq_getElem_cons him, lgL, enS] at hR
        generalize cmpL l[i].lab m[i].lab = x at hcm hR
        generalize evS l[i].kind l[i].er l[i].terms m[i].kind m[i].er m[i].terms = y at hev hR
        cases hx : (x == 0) with
        | false =>
          rw [hx] at hR
          refine ⟨.ret, [c, d, .v (.bool false), .v (.int .i64 i), .junk, .v (.int .i64 l.length), .v (.int .i64 i), .v (.bool true), .v (.bool true)], h, ?_, rfl, .inr ⟨rfl, hR.symm, rfl⟩⟩
          simp only [V13, c13_9, c13_4, c13_5, c13_6, c13_7, hlt, a1, a2, a3, a4, a5, b1, b2, b3, b4, b5, s1, s2, hcm, hx, Bool.not_false, Q0, Q1, Q2, Q3, Q4, Q5, Q6, Q7, Q8, Q9, Q10, Q11, Q12, Q13, Q14, Q15, Q16, Q17, Q18, Q19, Q20, Q21, Q22, Q23, Q24, Q25, Q26, Q27, Q28, Q29, Q30, Q31, Q32, Q33, Q35, Q36, Q37, Q38, Q39, Q40, Q41, Q42, Q43, Q44, Q45, Q46, Q47, Q48, Q49, Q50, Q51, Q52, Q53, Q54, Q55, Q56, Q57, Q58, Q59, Q60, Q61, Q62, Q63, Q64, Q65, Q66, Q67, Q68, Q69, Q70, Q71, Q72, Q73, Q99, Q100, Q101, Q102, Q103, Q75, Q77, Q78, Q79, Q80, Q81, Q82, Q83, Q84, clr, List.length_nil, List.length_cons, List.getElem?_cons_zero, List.getElem?_cons_succ, Nat.reduceAdd, Nat.zero_add, Nat.add_zero, Nat.reduceLeDiff, Nat.reduceSub, ↓reduceIte, List.drop_succ_cons, List.drop_zero, List.take_succ_cons, List.take_zero, Bool.false_eq_true, List.nil_append, List.cons_append, Bool.not_true, Bool.not_false, cond_true, cond_false, bne, Q85, Q86, Q87, Q88, Q89, Q90, Q91, Q92, Q93, Q94, Q95, Q96, Q97, Q98, Q110, Q111, Q116, Q117, Q118, Q119, Q120, Q121, Q122, Q123, Option.map_some, Option.map_none, Q34]
        | true =>
          rw [hx] at hR
          cases y with
          | false =>
            refine ⟨.ret, [c, d, .v (.bool false), .v (.int .i64 i), .junk, .v (.int .i64 l.length), .v (.int .i64 i), .v (.bool true), .v (.bool true)], h, ?_, rfl, .inr ⟨rfl, hR.symm, rfl⟩⟩
            simp only [V13, c13_9, c13_4, c13_5, c13_6, c13_7, hlt, a1, a2, a3, a4, a5, b1, b2, b3, b4, b5, s1, s2, s3, s4, hcm, hev, hx, Bool.not_true, Bool.not_false, Q0, Q1, Q2, Q3, Q4, Q5, Q6, Q7, Q8, Q9, Q10, Q11, Q12, Q13, Q14, Q15, Q16, Q17, Q18, Q19, Q20, Q21, Q22, Q23, Q24, Q25, Q26, Q27, Q28, Q29, Q30, Q31, Q32, Q33, Q35, Q36, Q37, Q38, Q39, Q40, Q41, Q42, Q43, Q44, Q45, Q46, Q47, Q48, Q49, Q50, Q51, Q52, Q53, Q54, Q55, Q56, Q57, Q58, Q59, Q60, Q61, Q62, Q63, Q64, Q65, Q66, Q67, Q68, Q69, Q70, Q71, Q72, Q73, Q99, Q100, Q101, Q102, Q103, Q75, Q77, Q78, Q79, Q80, Q81, Q82, Q83, Q84, clr, List.length_nil, List.length_cons, List.getElem?_cons_zero, List.getElem?_cons_succ, Nat.reduceAdd, Nat.zero_add, Nat.add_zero, Nat.reduceLeDiff, Nat.reduceSub, ↓reduceIte, List.drop_succ_cons, List.drop_zero, List.take_succ_cons, List.take_zero, Bool.false_eq_true, List.nil_append, List.cons_append, Bool.not_true, Bool.not_false, cond_true, cond_false, bne, Q85, Q86, Q87, Q88, Q89, Q90, Q91, Q92, Q93, Q94, Q95, Q96, Q97, Q98, Q110, Q111, Q116, Q117, Q118, Q119, Q120, Q121, Q122, Q123, Option.map_some, Option.map_none, Q34]
          | true =>
            refine ⟨.normal, [c, d, .junk, .v (.int .i64 i), .junk, .v (.int .i64 l.length), .v (.int .i64 ((i + 1 : Nat) : Int)), .v (.bool true), .v (.bool false)], h, ?_, hil, rfl, rfl, hR⟩
            simp only [V13, c13_9, c13_4, c13_5, c13_6, c13_8, hlt, hw, a1, a2, a3, a4, a5, b1, b2, b3, b4, b5, s1, s2, s3, s4, hcm, hev, hx, Bool.not_true, Bool.not_false, Q0, Q1, Q2, Q3, Q4, Q5, Q6, Q7, Q8, Q9, Q10, Q11, Q12, Q13, Q14, Q15, Q16, Q17, Q18, Q19, Q20, Q21, Q22, Q23, Q24, Q25, Q26, Q27, Q28, Q29, Q30, Q31, Q32, Q33, Q35, Q36, Q37, Q38, Q39, Q40, Q41, Q42, Q43, Q44, Q45, Q46, Q47, Q48, Q49, Q50, Q51, Q52, Q53, Q54, Q55, Q56, Q57, Q58, Q59, Q60, Q61, Q62, Q63, Q64, Q65, Q66, Q67, Q68, Q69, Q70, Q71, Q72, Q73, Q99, Q100, Q101, Q102, Q103, Q75, Q77, Q78, Q79, Q80, Q81, Q82, Q83, Q84, clr, List.length_nil, List.length_cons, List.getElem?_cons_zero, List.getElem?_cons_succ, Nat.reduceAdd, Nat.zero_add, Nat.add_zero, Nat.reduceLeDiff, Nat.reduceSub, ↓reduceIte, List.drop_succ_cons, List.drop_zero, List.take_succ_cons, List.take_zero, Bool.false_eq_true, List.nil_append, List.cons_append, Bool.not_true, Bool.not_false, cond_true, cond_false, bne, Q85, Q86, Q87, Q88, Q89, Q90, Q91, Q92, Q93, Q94, Q95, Q96, Q97, Q98, Q110, Q111, Q116, Q117, Q118, Q119, Q120, Q121, Q122, Q123, Option.map_some, Option.map_none, Q34]
      · have hie : i = l.length := by omega
        subst hie
        have hlt := lt_f (n := l.length)
        rw [List.drop_of_length_le (Nat.le_refl _), lgL] at hR
        · refine ⟨.exit 0, V13 c d l.length l.length (.v (.bool false)), h, ?_, rfl, .inl ⟨rfl, hR.symm, rfl⟩⟩
          simp only [V13, c13_9, c13_4, hlt, Q0, Q1, Q2, Q3, Q4, Q5, Q6, Q7, Q8, Q9, Q10, Q11, Q12, Q13, Q14, Q15, Q16, Q17, Q18, Q19, Q20, Q21, Q22, Q23, Q24, Q25, Q26, Q27, Q28, Q29, Q30, Q31, Q32, Q33, Q35, Q36, Q37, Q38, Q39, Q40, Q41, Q42, Q43, Q44, Q45, Q46, Q47, Q48, Q49, Q50, Q51, Q52, Q53, Q54, Q55, Q56, Q57, Q58, Q59, Q60, Q61, Q62, Q63, Q64, Q65, Q66, Q67, Q68, Q69, Q70, Q71, Q72, Q73, Q99, Q100, Q101, Q102, Q103, Q75, Q77, Q78, Q79, Q80, Q81, Q82, Q83, Q84, clr, List.length_nil, List.length_cons, List.getElem?_cons_zero, List.getElem?_cons_succ, Nat.reduceAdd, Nat.zero_add, Nat.add_zero, Nat.reduceLeDiff, Nat.reduceSub, ↓reduceIte, List.drop_succ_cons, List.drop_zero, List.take_succ_cons, List.take_zero, Bool.false_eq_true, List.nil_append, List.cons_append, Bool.not_true, Bool.not_false, cond_true, cond_false, bne, Q85, Q86, Q87, Q88, Q89, Q90, Q91, Q92, Q93, Q94, Q95, Q96, Q97, Q98, Q110, Q111, Q116, Q117, Q118, Q119, Q120, Q121, Q122, Q123, Option.map_some, Option.map_none, Q34]
        · intro _ _ _ _ e; cases e)
  obtain ⟨rfl, g3⟩ := g3
  have hbody : c13.body = (.seq (.region [] [] c13_0) (.seq (.seq (.region [] [] c13_1) (.cond (.var 4) (.seq (.region [] [] c13_2) .ret) .skip)) (.seq (.seq (.region [] [] c13_3) (.block 0 (.loop K13 [] c13_9))) (.seq (.region [] [] c13_10) .ret)))) := rfl
  rcases g3 with ⟨rfl, h1, rfl⟩ | ⟨rfl, h1, h2⟩
  · rw [h1]
    refine fin (l.length + 1) [c, d, .v (.bool true), .junk, .junk, .v (.int .i64 l.length), .v (.int .i64 l.length), .v (.bool false), .junk] _ rfl ?_
    rw [hbody, st]
    generalize c13_9 = bb at g1 ⊢
    simp only [V13] at g1
    simp only [c13_0, c13_1, c13_3, c13_10, q1, q2, hl, g1, Bool.not_true, Bool.and_self, Q0, Q1, Q2, Q3, Q4, Q5, Q6, Q7, Q8, Q9, Q10, Q11, Q12, Q13, Q14, Q15, Q16, Q17, Q18, Q19, Q20, Q21, Q22, Q23, Q24, Q25, Q26, Q27, Q28, Q29, Q30, Q31, Q32, Q33, Q35, Q36, Q37, Q38, Q39, Q40, Q41, Q42, Q43, Q44, Q45, Q46, Q47, Q48, Q49, Q50, Q51, Q52, Q53, Q54, Q55, Q56, Q57, Q58, Q59, Q60, Q61, Q62, Q63, Q64, Q65, Q66, Q67, Q68, Q69, Q70, Q71, Q72, Q73, Q99, Q100, Q101, Q102, Q103, Q75, Q77, Q78, Q79, Q80, Q81, Q82, Q83, Q84, clr, List.length_nil, List.length_cons, List.getElem?_cons_zero, List.getElem?_cons_succ, Nat.reduceAdd, Nat.zero_add, Nat.add_zero, Nat.reduceLeDiff, Nat.reduceSub, ↓reduceIte, List.drop_succ_cons, List.drop_zero, List.take_succ_cons, List.take_zero, Bool.false_eq_true, List.nil_append, List.cons_append, Bool.not_true, Bool.not_false, cond_true, cond_false, bne, Q85, Q86, Q87, Q88, Q89, Q90, Q91, Q92, Q93, Q94, Q95, Q96, Q97, Q98, Q110, Q111, Q116, Q117, Q118, Q119, Q120, Q121, Q122, Q123, Option.map_some, Option.map_none, Q34]
  · rw [h1]
    refine fin (l.length + 1) v' _ h2 ?_
    rw [hbody, st]
    generalize c13_9 = bb at g1 ⊢
    generalize (CC.seq (.region [] [] c13_10) .ret) = rest
    simp only [c13_0, c13_1, c13_3, q1, q2, hl, g1, h2, Bool.not_true, Bool.and_false, Q0, Q1, Q2, Q3, Q4, Q5, Q6, Q7, Q8, Q9, Q10, Q11, Q12, Q13, Q14, Q15, Q16, Q17, Q18, Q19, Q20, Q21, Q22, Q23, Q24, Q25, Q26, Q27, Q28, Q29, Q30, Q31, Q32, Q33, Q35, Q36, Q37, Q38, Q39, Q40, Q41, Q42, Q43, Q44, Q45, Q46, Q47, Q48, Q49, Q50, Q51, Q52, Q53, Q54, Q55, Q56, Q57, Q58, Q59, Q60, Q61, Q62, Q63, Q64, Q65, Q66, Q67, Q68, Q69, Q70, Q71, Q72, Q73, Q99, Q100, Q101, Q102, Q103, Q75, Q77, Q78, Q79, Q80, Q81, Q82, Q83, Q84, clr, List.length_nil, List.length_cons, List.getElem?_cons_zero, List.getElem?_cons_succ, Nat.reduceAdd, Nat.zero_add, Nat.add_zero, Nat.reduceLeDiff, Nat.reduceSub, ↓reduceIte, List.drop_succ_cons, List.drop_zero, List.take_succ_cons, List.take_zero, Bool.false_eq_true, List.nil_append, List.cons_append, Bool.not_true, Bool.not_false, cond_true, cond_false, bne, Q85, Q86, Q87, Q88, Q89, Q90, Q91, Q92, Q93, Q94, Q95, Q96, Q97, Q98, Q110, Q111, Q116, Q117, Q118, Q119, Q120, Q121, Q122, Q123, Option.map_some, Option.map_none, Q34]
/-! ### What is written into what came out -/
theorem wr_cell {rt : TypeId} {H : List AO} {id ver i : Nat} {L : List AV} {a : AV} {x : En} (hr : H[id]? = some (.row rt 4 ver L 0)) (hi : L[i]? = some a) (ha : IsEn a x) :
    ∃ a' x', IsEn a' x' ∧ Q74 H 1 (.ep 4 id ver i 0) = some (.ep 4 id ver i 1) ∧ Q74 H 0 (.ep 4 id ver i 1) = some (.ep 4 id ver i 1) ∧ Q113 H 1 (.ep 4 id ver i 1) (.v (.int .i64 77)) = some (H.set id (.row rt 4 ver (L.set i a') 0)) := by
  have hlt := (List.getElem?_eq_some_iff.1 hi).1
  have hra := row_at (n := i + 1) hr (by omega)
  have ht : rowT H id = rt := by simp only [rowT, hr]
  cases ha with
  | mk c1 lab hc k d ts hd e =>
    refine ⟨.agg [c1, .v (.int .i64 77), d, .v (.int .i64 e)], _, .mk c1 lab hc 77 d ts hd e, ?_, ?_, ?_⟩
    · simp only [Q74, hra, Option.map_some]
    · simp only [Q74, hra, Option.map_some]
    · have oc : (Value.int IntKind.i64 77).oneCell' = true := rfl
      simp [oc, Q113, hra, hi, AV.snap1, AV.snap0, AV.free0, AV.cl, AV.cells, AV.isCell, putEl, Q112, ht]
def EnRow (H : List AO) (id ver n : Nat) : Prop := ∃ L, H[id]? = some (.row 29 4 ver L 0) ∧ n ≤ L.length ∧ ∀ j, j < n → ∃ a x, L[j]? = some a ∧ IsEn a x
def Only (id : Nat) (H H' : List AO) : Prop := H'.length = H.length ∧ ∀ j, j ≠ id → H'[j]? = H[j]?
theorem Only.refl (id : Nat) (H : List AO) : Only id H H := ⟨rfl, fun _ _ => rfl⟩
theorem Only.set {id : Nat} {H H' : List AO} (h : Only id H H') (o : AO) : Only id H (H'.set id o) := ⟨by rw [List.length_set, h.1], fun j hj => by rw [List.getElem?_set_ne (Ne.symm hj), h.2 j hj]⟩
theorem EnRow.wr {H : List AO} {id ver n i : Nat} (h : EnRow H id ver n) (hi : i < n) : ∃ H', iaV H 4 (.own 4 id ver 0 n) (some i) = some (.ep 4 id ver i 0) ∧ Q74 H 1 (.ep 4 id ver i 0) = some (.ep 4 id ver i 1) ∧ Q74 H 0 (.ep 4 id ver i 1) = some (.ep 4 id ver i 1) ∧ Q113 H 1 (.ep 4 id ver i 1) (.v (.int .i64 77)) = some H' ∧ EnRow H' id ver n ∧ Only id H H' := by
  obtain ⟨L, hr, hn, hL⟩ := h
  obtain ⟨a, x, h1, h2⟩ := hL i hi
  obtain ⟨a', x', e1, e2, e3, e4⟩ := wr_cell hr h1 h2
  have hid := (List.getElem?_eq_some_iff.1 hr).1
  refine ⟨_, row_ia hr hn hi, e2, e3, e4, ⟨L.set i a', by rw [List.getElem?_set_self hid], by simpa using hn, fun j hj => ?_⟩, (Only.refl id H).set _⟩
  by_cases hji : j = i
  · subst hji
    exact ⟨a', x', by rw [List.getElem?_set_self (by omega)], e1⟩
  · obtain ⟨b, y, g1, g2⟩ := hL j hj
    exact ⟨b, y, by rw [List.getElem?_set_ne (Ne.symm hji)]; exact g1, g2⟩
end Go.AE.Ytkdjdhfoodlnfaa
end

/-! LogPuts: the loops of the law, the document's Put. -/
section
set_option linter.unusedVariables false
set_option linter.unusedSimpArgs false
namespace Go.AE.Ytkdjdhfoodlnfaa
open Go Go.AE Go.Proofs.Ytkdjdhfoodlnfaa

def V3 (s u mine a ok : AV) (len i : Int) (x15 : AV) : List AV := [s, .junk, .junk, .junk, u, mine, a, .junk, .junk, .junk, ok, .junk, .junk, .v (.int .i64 len), .v (.int .i64 i), x15]
def K3 : List Bool := [true, false, false, false, true, true, true, false, false, false, true, false, false, true, true, false]
theorem puts_loop {K n id ver : Nat} {s u mine ok : AV} {H : List AO} (hn : n ≤ maxLen) (hE : EnRow H id ver n) (hK : n < K) (v : List AV) (hv : clr K3 v = V3 s u mine (.own 4 id ver 0 n) ok n 0 .junk) :
    ∃ H', Only id H H' ∧ EnRow H' id ver n ∧ loopN (exec (callW F) K c3_13) K3 K v H = some (.exit 0, V3 s u mine (.own 4 id ver 0 n) ok n n (.v (.bool false)), H') := by
  obtain ⟨e, v', h', g1, g2, rfl, rfl, ho, hE'⟩ := loop_rule0 (call := callW F) (K := K) (b := c3_13) (keep := K3) (fun i v h => v = V3 s u mine (.own 4 id ver 0 n) ok n i .junk ∧ EnRow h id ver n ∧ Only id H h)
    (fun e v h => e = .exit 0 ∧ v = V3 s u mine (.own 4 id ver 0 n) ok n n (.v (.bool false)) ∧ Only id H h ∧ EnRow h id ver n) n (m := K) (v := v) (h := H) hK ⟨hv, hE, Only.refl id H⟩ (by
      rintro i v h hi ⟨rfl, he, ho⟩
      by_cases hil : i < n
      · have hlt := lt_t hil
        have hw := wrap_succ hil hn
        obtain ⟨h2, e1, e2, e3, e4, e5, e6⟩ := he.wr hil
        refine ⟨.normal, [s, .junk, .junk, .junk, u, mine, .own 4 id ver 0 n, .junk, .junk, .junk, ok, .v (.int .i64 i), .junk, .v (.int .i64 n), .v (.int .i64 ((i + 1 : Nat) : Int)), .v (.bool true)], h2, ?_, hil, rfl, e5, ⟨by rw [e6.1, ho.1], fun j hj => by rw [e6.2 j hj, ho.2 j hj]⟩⟩
        simp only [V3, c3_13, c3_9, c3_10, c3_11, c3_12, hlt, hw, e1, e2, e3, e4, Q0, Q1, Q2, Q3, Q4, Q5, Q6, Q7, Q8, Q9, Q10, Q11, Q12, Q13, Q14, Q15, Q16, Q17, Q18, Q19, Q20, Q21, Q22, Q23, Q24, Q25, Q26, Q27, Q28, Q29, Q30, Q31, Q32, Q33, Q35, Q36, Q37, Q38, Q39, Q40, Q41, Q42, Q43, Q44, Q45, Q46, Q47, Q48, Q49, Q50, Q51, Q52, Q53, Q54, Q55, Q56, Q57, Q58, Q59, Q60, Q61, Q62, Q63, Q64, Q65, Q66, Q67, Q68, Q69, Q70, Q71, Q72, Q73, Q99, Q100, Q101, Q102, Q103, Q75, Q77, Q78, Q79, Q80, Q81, Q82, Q83, Q84, clr, List.length_nil, List.length_cons, List.getElem?_cons_zero, List.getElem?_cons_succ, Nat.reduceAdd, Nat.zero_add, Nat.add_zero, Nat.reduceLeDiff, Nat.reduceSub, ↓reduceIte, List.drop_succ_cons, List.drop_zero, List.take_succ_cons, List.take_zero, Bool.false_eq_true, List.nil_append, List.cons_append, Bool.not_true, Bool.not_false, cond_true, cond_false, bne, Q85, Q86, Q87, Q88, Q89, Q90, Q91, Q92, Q93, Q94, Q95, Q96, Q97, Q98, Q110, Q111, Q116, Q117, Q118, Q119, Q120, Q121, Q122, Q123, Option.map_some, Option.map_none, Q34]
      · have hie : i = n := by omega
        subst hie
        have hlt := lt_f (n := i)
        refine ⟨.exit 0, V3 s u mine (.own 4 id ver 0 i) ok i i (.v (.bool false)), h, ?_, rfl, rfl, ho, he⟩
        simp only [V3, c3_13, c3_9, hlt, Q0, Q1, Q2, Q3, Q4, Q5, Q6, Q7, Q8, Q9, Q10, Q11, Q12, Q13, Q14, Q15, Q16, Q17, Q18, Q19, Q20, Q21, Q22, Q23, Q24, Q25, Q26, Q27, Q28, Q29, Q30, Q31, Q32, Q33, Q35, Q36, Q37, Q38, Q39, Q40, Q41, Q42, Q43, Q44, Q45, Q46, Q47, Q48, Q49, Q50, Q51, Q52, Q53, Q54, Q55, Q56, Q57, Q58, Q59, Q60, Q61, Q62, Q63, Q64, Q65, Q66, Q67, Q68, Q69, Q70, Q71, Q72, Q73, Q99, Q100, Q101, Q102, Q103, Q75, Q77, Q78, Q79, Q80, Q81, Q82, Q83, Q84, clr, List.length_nil, List.length_cons, List.getElem?_cons_zero, List.getElem?_cons_succ, Nat.reduceAdd, Nat.zero_add, Nat.add_zero, Nat.reduceLeDiff, Nat.reduceSub, ↓reduceIte, List.drop_succ_cons, List.drop_zero, List.take_succ_cons, List.take_zero, Bool.false_eq_true, List.nil_append, List.cons_append, Bool.not_true, Bool.not_false, cond_true, cond_false, bne, Q85, Q86, Q87, Q88, Q89, Q90, Q91, Q92, Q93, Q94, Q95, Q96, Q97, Q98, Q110, Q111, Q116, Q117, Q118, Q119, Q120, Q121, Q122, Q123, Option.map_some, Option.map_none, Q34])
  exact ⟨h', ho, hE', g1⟩
theorem Only.below {id ver n m : Nat} {H H' : List AO} (ho : Only id H H') (hE : EnRow H' id ver n) (hb : H.all (AO.below m) = true) : H'.all (AO.below m) = true := by
  rw [List.all_eq_true] at hb ⊢
  intro o hm
  obtain ⟨j, hj⟩ := List.mem_iff_getElem?.1 hm
  by_cases h : j = id
  · subst h
    obtain ⟨L, hr, _⟩ := hE
    rw [hr] at hj
    cases hj; rfl
  · rw [ho.2 j h] at hj
    exact hb o (List.mem_of_getElem? hj)
theorem enrow_of {H : List AO} {id ver : Nat} {L : List AV} {l : List En} (hr : H[id]? = some (.row 29 4 ver L 0)) (ha : AllR IsEn L l) : EnRow H id ver L.length :=
  ⟨L, hr, Nat.le_refl _, fun j hj => by
    obtain ⟨x, _, hx⟩ := ha.get (List.getElem?_eq_getElem hj)
    exact ⟨_, x, List.getElem?_eq_getElem hj, hx⟩⟩
theorem puts_loop0 {K : Nat} {s u mine ok a : AV} {H : List AO} (hK : 0 < K) (v : List AV) (hv : clr K3 v = V3 s u mine a ok 0 0 .junk) :
    loopN (exec (callW F) K c3_13) K3 K v H = some (.exit 0, V3 s u mine a ok 0 0 (.v (.bool false)), H) := by
  obtain ⟨m, rfl⟩ : ∃ m, K = m + 1 := ⟨K - 1, by omega⟩
  refine loop_exit ?_
  rw [hv]
  have hlt : decide ((0 : Int) < 0) = false := rfl
  simp only [V3, c3_13, c3_9, hlt, Q0, Q1, Q2, Q3, Q4, Q5, Q6, Q7, Q8, Q9, Q10, Q11, Q12, Q13, Q14, Q15, Q16, Q17, Q18, Q19, Q20, Q21, Q22, Q23, Q24, Q25, Q26, Q27, Q28, Q29, Q30, Q31, Q32, Q33, Q35, Q36, Q37, Q38, Q39, Q40, Q41, Q42, Q43, Q44, Q45, Q46, Q47, Q48, Q49, Q50, Q51, Q52, Q53, Q54, Q55, Q56, Q57, Q58, Q59, Q60, Q61, Q62, Q63, Q64, Q65, Q66, Q67, Q68, Q69, Q70, Q71, Q72, Q73, Q99, Q100, Q101, Q102, Q103, Q75, Q77, Q78, Q79, Q80, Q81, Q82, Q83, Q84, clr, List.length_nil, List.length_cons, List.getElem?_cons_zero, List.getElem?_cons_succ, Nat.reduceAdd, Nat.zero_add, Nat.add_zero, Nat.reduceLeDiff, Nat.reduceSub, ↓reduceIte, List.drop_succ_cons, List.drop_zero, List.take_succ_cons, List.take_zero, Bool.false_eq_true, List.nil_append, List.cons_append, Bool.not_true, Bool.not_false, cond_true, cond_false, bne, Q85, Q86, Q87, Q88, Q89, Q90, Q91, Q92, Q93, Q94, Q95, Q96, Q97, Q98, Q110, Q111, Q116, Q117, Q118, Q119, Q120, Q121, Q122, Q123, Option.map_some, Option.map_none, Q34]
end Go.AE.Ytkdjdhfoodlnfaa
end

/-! The document's Under, Left, Pruned: walked; they tell what the program's tell. -/
section
set_option linter.unusedVariables false
set_option linter.unusedSimpArgs false
namespace Go.AE.Ytkdjdhfoodlnfaa
open Go Go.AE Go.Proofs.Ytkdjdhfoodlnfaa

def underL : List Int → List Int → Bool
  | _, [] => true
  | [], _ :: _ => false
  | a :: l, b :: m => (a == b) && underL l m
theorem Ns.take {c : AV} {x : List Int} (h : Ns c x) {n : Nat} (hn : n ≤ x.length) : ∃ c', (∀ H, slV H 1 none (some (some n)) c = some c') ∧ Ns c' (x.take n) := by
  obtain ⟨hs, hm⟩ := h
  have hml : (x.take n).length ≤ maxLen := Nat.le_trans (by rw [List.length_take]; exact Nat.min_le_right _ _) hm
  generalize hes : x.map iv = es at hs
  have hel : es.length = x.length := by rw [← hes, List.length_map]
  cases hs with
  | nil =>
    have : n = 0 := by simp at hel; omega
    subst this
    exact ⟨.v (.slice none 0 0), fun H => rfl, .nil, hml⟩
  | slc ex nn es =>
    refine ⟨.slc 1 (ex && n == es.length) nn (es.take n), fun H => ?_, ?_, hml⟩
    · have h1 : n ≤ es.length := by omega
      simp [slV, slo, h1]
    · rw [List.map_take, hes]; exact .slc _ _ _
theorem under_ok : ∀ {x y : List Int} {c d : AV}, Ns c x → Ns d y → callW F 42 [c, d] [] = some (.v (.bool (underL x y)), [])
  | x, [], c, d, hc, hd => by
    have q1 := fun H => hc.len H
    have q2 := fun H => hd.len H
    have z : ((([] : List Int).length : Int) == 0) = true := rfl
    have e : underL x [] = true := by cases x <;> rfl
    rw [e]
    refine callW_pure (c := c42) rfl rfl 0 ?_
    generalize ([] : List Int).length = n2 at q2 z
    simp only [c42, start, List.replicate, c42_0, c42_1, c42_2, q1, q2, z, Q0, Q1, Q2, Q3, Q4, Q5, Q6, Q7, Q8, Q9, Q10, Q11, Q12, Q13, Q14, Q15, Q16, Q17, Q18, Q19, Q20, Q21, Q22, Q23, Q24, Q25, Q26, Q27, Q28, Q29, Q30, Q31, Q32, Q33, Q35, Q36, Q37, Q38, Q39, Q40, Q41, Q42, Q43, Q44, Q45, Q46, Q47, Q48, Q49, Q50, Q51, Q52, Q53, Q54, Q55, Q56, Q57, Q58, Q59, Q60, Q61, Q62, Q63, Q64, Q65, Q66, Q67, Q68, Q69, Q70, Q71, Q72, Q73, Q99, Q100, Q101, Q102, Q103, Q74, Q75, Q77, Q78, Q79, Q80, Q81, Q82, Q83, Q84, clr, List.length_nil, List.length_cons, List.getElem?_cons_zero, List.getElem?_cons_succ, Nat.reduceAdd, Nat.zero_add, Nat.add_zero, Nat.reduceLeDiff, Nat.reduceSub, ↓reduceIte, List.drop_succ_cons, List.drop_zero, List.take_succ_cons, List.take_zero, Bool.false_eq_true, List.nil_append, List.cons_append, Bool.not_true, Bool.not_false, cond_true, cond_false, bne, Q85, Q86, Q87, Q88, Q89, Q90, Q91, Q92, Q93, Q94, Q95, Q96, Q97, Q98, Q110, Q111, Q116, Q117, Q118, Q119, Q120, Q121, Q122, Q123, Option.map_some, Option.map_none, Q34]
  | [], b :: m, c, d, hc, hd => by
    have q1 := fun H => hc.len H
    have q2 := fun H => hd.len H
    have z : decide ((([] : List Int).length : Int) > 0) = false := rfl
    have z2 : (((b :: m).length : Int) == 0) = false := by simp; omega
    refine callW_pure (c := c42) rfl rfl 0 ?_
    generalize (b :: m).length = n2 at q2 z2
    generalize ([] : List Int).length = n1 at q1 z
    simp only [c42, start, List.replicate, c42_0, c42_1, c42_3, q1, q2, z, z2, underL, Q122, Q0, Q1, Q2, Q3, Q4, Q5, Q6, Q7, Q8, Q9, Q10, Q11, Q12, Q13, Q14, Q15, Q16, Q17, Q18, Q19, Q20, Q21, Q22, Q23, Q24, Q25, Q26, Q27, Q28, Q29, Q30, Q31, Q32, Q33, Q35, Q36, Q37, Q38, Q39, Q40, Q41, Q42, Q43, Q44, Q45, Q46, Q47, Q48, Q49, Q50, Q51, Q52, Q53, Q54, Q55, Q56, Q57, Q58, Q59, Q60, Q61, Q62, Q63, Q64, Q65, Q66, Q67, Q68, Q69, Q70, Q71, Q72, Q73, Q99, Q100, Q101, Q102, Q103, Q74, Q75, Q77, Q78, Q79, Q80, Q81, Q82, Q83, Q84, clr, List.length_nil, List.length_cons, List.getElem?_cons_zero, List.getElem?_cons_succ, Nat.reduceAdd, Nat.zero_add, Nat.add_zero, Nat.reduceLeDiff, Nat.reduceSub, ↓reduceIte, List.drop_succ_cons, List.drop_zero, List.take_succ_cons, List.take_zero, Bool.false_eq_true, List.nil_append, List.cons_append, Bool.not_true, Bool.not_false, cond_true, cond_false, bne, Q85, Q86, Q87, Q88, Q89, Q90, Q91, Q92, Q93, Q94, Q95, Q96, Q97, Q98, Q110, Q111, Q116, Q117, Q118, Q119, Q120, Q121, Q122, Q123, Option.map_some, Option.map_none, Q34]
  | a :: l, b :: m, c, d, hc, hd => by
    have q1 := fun H => hc.len H
    have q2 := fun H => hd.len H
    have e1 := fun H => hc.at (i := 0) (by simp) H
    have e2 := fun H => hd.at (i := 0) (by simp) H
    simp only [List.getElem_cons_zero] at e1 e2
    have z1 : decide (((a :: l).length : Int) > 0) = true := by simp only [List.length_cons]; exact decide_eq_true (by omega)
    have z2 : (((b :: m).length : Int) == 0) = false := by simp; omega
    have n1 : natV (.v (.int .i64 0)) = some 0 := rfl
    have n2 : natV (.v (.int .i64 1)) = some 1 := rfl
    obtain ⟨c', t1, t2⟩ := hc.tail []
    obtain ⟨d', t3, t4⟩ := hd.tail []
    have s1 := fun H => t2.sn H
    have s2 := fun H => t4.sn H
    have ih := under_ok t2 t4
    rw [underL]
    refine callW_pure (c := c42) rfl rfl 0 ?_
    generalize (a :: l).length = n1' at q1 z1
    generalize (b :: m).length = n2' at q2 z2
    cases h1 : (a == b) with
    | false => simp only [c42, start, List.replicate, c42_0, c42_1, c42_3, q1, q2, z1, z2, e1, e2, n1, iv_ld, h1, Bool.false_and, Q122, Q0, Q1, Q2, Q3, Q4, Q5, Q6, Q7, Q8, Q9, Q10, Q11, Q12, Q13, Q14, Q15, Q16, Q17, Q18, Q19, Q20, Q21, Q22, Q23, Q24, Q25, Q26, Q27, Q28, Q29, Q30, Q31, Q32, Q33, Q35, Q36, Q37, Q38, Q39, Q40, Q41, Q42, Q43, Q44, Q45, Q46, Q47, Q48, Q49, Q50, Q51, Q52, Q53, Q54, Q55, Q56, Q57, Q58, Q59, Q60, Q61, Q62, Q63, Q64, Q65, Q66, Q67, Q68, Q69, Q70, Q71, Q72, Q73, Q99, Q100, Q101, Q102, Q103, Q74, Q75, Q77, Q78, Q79, Q80, Q81, Q82, Q83, Q84, clr, List.length_nil, List.length_cons, List.getElem?_cons_zero, List.getElem?_cons_succ, Nat.reduceAdd, Nat.zero_add, Nat.add_zero, Nat.reduceLeDiff, Nat.reduceSub, ↓reduceIte, List.drop_succ_cons, List.drop_zero, List.take_succ_cons, List.take_zero, Bool.false_eq_true, List.nil_append, List.cons_append, Bool.not_true, Bool.not_false, cond_true, cond_false, bne, Q85, Q86, Q87, Q88, Q89, Q90, Q91, Q92, Q93, Q94, Q95, Q96, Q97, Q98, Q110, Q111, Q116, Q117, Q118, Q119, Q120, Q121, Q122, Q123, Option.map_some, Option.map_none, Q34]
    | true => simp only [c42, start, List.replicate, c42_0, c42_1, c42_3, q1, q2, z1, z2, e1, e2, n1, n2, iv_ld, h1, t1, t3, s1, s2, ih, Bool.true_and, Q122, Q0, Q1, Q2, Q3, Q4, Q5, Q6, Q7, Q8, Q9, Q10, Q11, Q12, Q13, Q14, Q15, Q16, Q17, Q18, Q19, Q20, Q21, Q22, Q23, Q24, Q25, Q26, Q27, Q28, Q29, Q30, Q31, Q32, Q33, Q35, Q36, Q37, Q38, Q39, Q40, Q41, Q42, Q43, Q44, Q45, Q46, Q47, Q48, Q49, Q50, Q51, Q52, Q53, Q54, Q55, Q56, Q57, Q58, Q59, Q60, Q61, Q62, Q63, Q64, Q65, Q66, Q67, Q68, Q69, Q70, Q71, Q72, Q73, Q99, Q100, Q101, Q102, Q103, Q74, Q75, Q77, Q78, Q79, Q80, Q81, Q82, Q83, Q84, clr, List.length_nil, List.length_cons, List.getElem?_cons_zero, List.getElem?_cons_succ, Nat.reduceAdd, Nat.zero_add, Nat.add_zero, Nat.reduceLeDiff, Nat.reduceSub, ↓reduceIte, List.drop_succ_cons, List.drop_zero, List.take_succ_cons, List.take_zero, Bool.false_eq_true, List.nil_append, List.cons_append, Bool.not_true, Bool.not_false, cond_true, cond_false, bne, Q85, Q86, Q87, Q88, Q89, Q90, Q91, Q92, Q93, Q94, Q95, Q96, Q97, Q98, Q110, Q111, Q116, Q117, Q118, Q119, Q120, Q121, Q122, Q123, Option.map_some, Option.map_none, Q34]
theorem rleft_ok : ∀ {x y : List Int} {c d : AV}, Ns c x → Ns d y → callW F 43 [c, d] [] = some (.v (.bool (leftL x y)), [])
  | [], y, c, d, hc, hd => by
    have q1 := fun H => hc.len H
    have q2 := fun H => hd.len H
    have z : ((([] : List Int).length : Int) == 0) = true := rfl
    refine callW_pure (c := c43) rfl rfl 0 ?_
    generalize ([] : List Int).length = n1 at q1 z
    simp only [c43, start, List.replicate, c43_0, c43_1, c43_2, q1, q2, z, leftL, Q122, Q0, Q1, Q2, Q3, Q4, Q5, Q6, Q7, Q8, Q9, Q10, Q11, Q12, Q13, Q14, Q15, Q16, Q17, Q18, Q19, Q20, Q21, Q22, Q23, Q24, Q25, Q26, Q27, Q28, Q29, Q30, Q31, Q32, Q33, Q35, Q36, Q37, Q38, Q39, Q40, Q41, Q42, Q43, Q44, Q45, Q46, Q47, Q48, Q49, Q50, Q51, Q52, Q53, Q54, Q55, Q56, Q57, Q58, Q59, Q60, Q61, Q62, Q63, Q64, Q65, Q66, Q67, Q68, Q69, Q70, Q71, Q72, Q73, Q99, Q100, Q101, Q102, Q103, Q74, Q75, Q77, Q78, Q79, Q80, Q81, Q82, Q83, Q84, clr, List.length_nil, List.length_cons, List.getElem?_cons_zero, List.getElem?_cons_succ, Nat.reduceAdd, Nat.zero_add, Nat.add_zero, Nat.reduceLeDiff, Nat.reduceSub, ↓reduceIte, List.drop_succ_cons, List.drop_zero, List.take_succ_cons, List.take_zero, Bool.false_eq_true, List.nil_append, List.cons_append, Bool.not_true, Bool.not_false, cond_true, cond_false, bne, Q85, Q86, Q87, Q88, Q89, Q90, Q91, Q92, Q93, Q94, Q95, Q96, Q97, Q98, Q110, Q111, Q116, Q117, Q118, Q119, Q120, Q121, Q122, Q123, Option.map_some, Option.map_none, Q34]
  | a :: l, [], c, d, hc, hd => by
    have q1 := fun H => hc.len H
    have q2 := fun H => hd.len H
    have z : ((([] : List Int).length : Int) == 0) = true := rfl
    have z2 : (((a :: l).length : Int) == 0) = false := by simp; omega
    refine callW_pure (c := c43) rfl rfl 0 ?_
    generalize (a :: l).length = n2 at q1 z2
    generalize ([] : List Int).length = n1 at q2 z
    simp only [c43, start, List.replicate, c43_0, c43_1, c43_2, q1, q2, z, z2, leftL, Q122, Q0, Q1, Q2, Q3, Q4, Q5, Q6, Q7, Q8, Q9, Q10, Q11, Q12, Q13, Q14, Q15, Q16, Q17, Q18, Q19, Q20, Q21, Q22, Q23, Q24, Q25, Q26, Q27, Q28, Q29, Q30, Q31, Q32, Q33, Q35, Q36, Q37, Q38, Q39, Q40, Q41, Q42, Q43, Q44, Q45, Q46, Q47, Q48, Q49, Q50, Q51, Q52, Q53, Q54, Q55, Q56, Q57, Q58, Q59, Q60, Q61, Q62, Q63, Q64, Q65, Q66, Q67, Q68, Q69, Q70, Q71, Q72, Q73, Q99, Q100, Q101, Q102, Q103, Q74, Q75, Q77, Q78, Q79, Q80, Q81, Q82, Q83, Q84, clr, List.length_nil, List.length_cons, List.getElem?_cons_zero, List.getElem?_cons_succ, Nat.reduceAdd, Nat.zero_add, Nat.add_zero, Nat.reduceLeDiff, Nat.reduceSub, ↓reduceIte, List.drop_succ_cons, List.drop_zero, List.take_succ_cons, List.take_zero, Bool.false_eq_true, List.nil_append, List.cons_append, Bool.not_true, Bool.not_false, cond_true, cond_false, bne, Q85, Q86, Q87, Q88, Q89, Q90, Q91, Q92, Q93, Q94, Q95, Q96, Q97, Q98, Q110, Q111, Q116, Q117, Q118, Q119, Q120, Q121, Q122, Q123, Option.map_some, Option.map_none, Q34]
  | a :: l, b :: m, c, d, hc, hd => by
    have q1 := fun H => hc.len H
    have q2 := fun H => hd.len H
    have e1 := fun H => hc.at (i := 0) (by simp) H
    have e2 := fun H => hd.at (i := 0) (by simp) H
    simp only [List.getElem_cons_zero] at e1 e2
    have z1 : (((a :: l).length : Int) == 0) = false := by simp; omega
    have z2 : (((b :: m).length : Int) == 0) = false := by simp; omega
    have n1 : natV (.v (.int .i64 0)) = some 0 := rfl
    have n2 : natV (.v (.int .i64 1)) = some 1 := rfl
    obtain ⟨c', t1, t2⟩ := hc.tail []
    obtain ⟨d', t3, t4⟩ := hd.tail []
    have s1 := fun H => t2.sn H
    have s2 := fun H => t4.sn H
    have ih := rleft_ok t2 t4
    rw [leftL]
    refine callW_pure (c := c43) rfl rfl 0 ?_
    generalize (a :: l).length = n1' at q1 z1
    generalize (b :: m).length = n2' at q2 z2
    by_cases h : a = b
    · have h1 : (a == b) = true := by simpa using h
      rw [if_pos h]
      simp only [c43, start, List.replicate, c43_0, c43_1, c43_3, c43_5, q1, q2, z1, z2, e1, e2, n1, n2, iv_ld, h1, t1, t3, s1, s2, ih, Bool.not_true, Q122, Q0, Q1, Q2, Q3, Q4, Q5, Q6, Q7, Q8, Q9, Q10, Q11, Q12, Q13, Q14, Q15, Q16, Q17, Q18, Q19, Q20, Q21, Q22, Q23, Q24, Q25, Q26, Q27, Q28, Q29, Q30, Q31, Q32, Q33, Q35, Q36, Q37, Q38, Q39, Q40, Q41, Q42, Q43, Q44, Q45, Q46, Q47, Q48, Q49, Q50, Q51, Q52, Q53, Q54, Q55, Q56, Q57, Q58, Q59, Q60, Q61, Q62, Q63, Q64, Q65, Q66, Q67, Q68, Q69, Q70, Q71, Q72, Q73, Q99, Q100, Q101, Q102, Q103, Q74, Q75, Q77, Q78, Q79, Q80, Q81, Q82, Q83, Q84, clr, List.length_nil, List.length_cons, List.getElem?_cons_zero, List.getElem?_cons_succ, Nat.reduceAdd, Nat.zero_add, Nat.add_zero, Nat.reduceLeDiff, Nat.reduceSub, ↓reduceIte, List.drop_succ_cons, List.drop_zero, List.take_succ_cons, List.take_zero, Bool.false_eq_true, List.nil_append, List.cons_append, Bool.not_true, Bool.not_false, cond_true, cond_false, bne, Q85, Q86, Q87, Q88, Q89, Q90, Q91, Q92, Q93, Q94, Q95, Q96, Q97, Q98, Q110, Q111, Q116, Q117, Q118, Q119, Q120, Q121, Q122, Q123, Option.map_some, Option.map_none, Q34]
    · have h1 : (a == b) = false := by simpa using h
      rw [if_neg h]
      simp only [c43, start, List.replicate, c43_0, c43_1, c43_3, c43_4, q1, q2, z1, z2, e1, e2, n1, iv_ld, h1, Bool.not_false, Q122, Q0, Q1, Q2, Q3, Q4, Q5, Q6, Q7, Q8, Q9, Q10, Q11, Q12, Q13, Q14, Q15, Q16, Q17, Q18, Q19, Q20, Q21, Q22, Q23, Q24, Q25, Q26, Q27, Q28, Q29, Q30, Q31, Q32, Q33, Q35, Q36, Q37, Q38, Q39, Q40, Q41, Q42, Q43, Q44, Q45, Q46, Q47, Q48, Q49, Q50, Q51, Q52, Q53, Q54, Q55, Q56, Q57, Q58, Q59, Q60, Q61, Q62, Q63, Q64, Q65, Q66, Q67, Q68, Q69, Q70, Q71, Q72, Q73, Q99, Q100, Q101, Q102, Q103, Q74, Q75, Q77, Q78, Q79, Q80, Q81, Q82, Q83, Q84, clr, List.length_nil, List.length_cons, List.getElem?_cons_zero, List.getElem?_cons_succ, Nat.reduceAdd, Nat.zero_add, Nat.add_zero, Nat.reduceLeDiff, Nat.reduceSub, ↓reduceIte, List.drop_succ_cons, List.drop_zero, List.take_succ_cons, List.take_zero, Bool.false_eq_true, List.nil_append, List.cons_append, Bool.not_true, Bool.not_false, cond_true, cond_false, bne, Q85, Q86, Q87, Q88, Q89, Q90, Q91, Q92, Q93, Q94, Q95, Q96, Q97, Q98, Q110, Q111, Q116, Q117, Q118, Q119, Q120, Q121, Q122, Q123, Option.map_some, Option.map_none, Q34]
theorem under_take : ∀ (x y : List Int) (k : Nat), k ≤ y.length → underL x (y.take k) = decide (k ≤ parts x y)
  | x, y, 0, _ => by
    have : underL x [] = true := by cases x <;> rfl
    simp [this]
  | [], b :: m, k + 1, _ => by simp [underL, parts]
  | x, [], k + 1, h => by simp at h
  | a :: l, b :: m, k + 1, h => by
    rw [List.take_succ_cons, underL, under_take l m k (by simpa using h), parts]
    by_cases e : a = b
    · rw [if_pos e]; simp [e]
    · rw [if_neg e]; simp [e]
theorem rpruned_ok {c e : AV} {x y : List Int} (hc : Ns c x) (he : Ns e y) (d : Int) : callW F 35 [c, e, .v (.int .i64 d)] [] = some (.v (.bool (prunedL x y d)), []) := by
  have q1 := fun H => hc.len H
  have q2 := fun H => he.len H
  have s1 := fun H => hc.sn H
  have s2 := fun H => he.sn H
  obtain ⟨k, hk⟩ : ∃ k : Nat, min (max d 0) (y.length : Int) = (k : Int) := ⟨(min (max d 0) (y.length : Int)).toNat, by omega⟩
  have hky : k ≤ y.length := by omega
  have nk : natV (.v (.int .i64 (k : Int))) = some k := Q48
  obtain ⟨e', t1, t2⟩ := he.take hky
  have u := under_ok hc t2
  have l := rleft_ok he hc
  have s3 := fun H => t2.sn H
  have hp : prunedL x y d = (underL x (y.take k) && leftL y x) := by
    rw [under_take x y k hky, prunedL, Bool.and_comm]
    congr 1
    exact decide_eq_decide.2 (by omega)
  rw [hp]
  refine callW_pure (c := c35) rfl rfl 0 ?_
  cases h1 : underL x (y.take k) <;> rw [h1] at u <;>
    simp only [c35, start, List.replicate, c35_0, c35_1, q1, q2, s1, s2, s3, hk, nk, Q119, t1, u, l, Q122, Bool.true_and, Bool.false_and, Q0, Q1, Q2, Q3, Q4, Q5, Q6, Q7, Q8, Q9, Q10, Q11, Q12, Q13, Q14, Q15, Q16, Q17, Q18, Q19, Q20, Q21, Q22, Q23, Q24, Q25, Q26, Q27, Q28, Q29, Q30, Q31, Q32, Q33, Q35, Q36, Q37, Q38, Q39, Q40, Q41, Q42, Q43, Q44, Q45, Q46, Q47, Q48, Q49, Q50, Q51, Q52, Q53, Q54, Q55, Q56, Q57, Q58, Q59, Q60, Q61, Q62, Q63, Q64, Q65, Q66, Q67, Q68, Q69, Q70, Q71, Q72, Q73, Q99, Q100, Q101, Q102, Q103, Q74, Q75, Q77, Q78, Q79, Q80, Q81, Q82, Q83, Q84, clr, List.length_nil, List.length_cons, List.getElem?_cons_zero, List.getElem?_cons_succ, Nat.reduceAdd, Nat.zero_add, Nat.add_zero, Nat.reduceLeDiff, Nat.reduceSub, ↓reduceIte, List.drop_succ_cons, List.drop_zero, List.take_succ_cons, List.take_zero, Bool.false_eq_true, List.nil_append, List.cons_append, Bool.not_true, Bool.not_false, cond_true, cond_false, bne, Q85, Q86, Q87, Q88, Q89, Q90, Q91, Q92, Q93, Q94, Q95, Q96, Q97, Q98, Q110, Q111, Q116, Q117, Q118, Q119, Q120, Q121, Q122, Q123, Option.map_some, Option.map_none, Q34]
end Go.AE.Ytkdjdhfoodlnfaa
end

/-! Drop, all of whose objects stay: walked. -/
section
set_option linter.unusedVariables false
set_option linter.unusedSimpArgs false
namespace Go.AE.Ytkdjdhfoodlnfaa
open Go Go.AE Go.Proofs.Ytkdjdhfoodlnfaa

def lk1 (i : Nat) : CRun → Option (AV × List AO)
  | some (.ret, vars, h) => some (getO vars [] (.var i), h)
  | _ => none
theorem lk1_ret {i : Nat} {vars : List AV} {h : List AO} : lk1 i (some (.ret, vars, h)) = some (getO vars [] (.var i), h) := rfl
theorem leave_lk1 {c : CFun} {i : Nat} (hr : c.res = [.var i]) {run : CRun} {x : AV × List AO} (h : lk1 i run = some x) : leaveKeep c run = some x := by
  unfold lk1 at h
  split at h
  · rename_i vars h'
    cases h
    simp only [leaveKeep, hr, List.mapM_cons, List.mapM_nil, resOf, Option.pure_def, Option.bind_eq_bind, Option.bind_some, Option.map_some, pack]
    rfl
  · cases h
theorem keep16 {s s' c r : AV} {d : Int} {k : List AO} (h : lk1 5 (exec (callW F) 0 c16.body (start c16 [s, c, .v (.int .i64 d)]) []) = some (r, k)) (h1 : r.ok2 = true) (h2 : k.all AO.ok = true) {H : List AO} (hs : s'.snap1 H = some s) (hc : c.snap1 H = some c) :
    callW F 16 [s', c, .v (.int .i64 d)] H = some (r.sh2 H.length, H ++ k.map (AO.sh H.length)) :=
  callW_pk (c := c16) rfl (show [s', c, .v (.int .i64 d)].mapM (AV.snap1 H) = some [s, c, .v (.int .i64 d)] from by simp [hs, hc, snap_int]) rfl 0 (leave_lk1 rfl h) h1 h2
theorem sh2_own {sz id ver off m : Nat} (n : Nat) : (AV.own sz id ver off m).sh2 n = .own sz (n + id) ver off m := rfl
theorem sh2_slc {sz : Nat} {ex nn : Bool} {l : List AV} (n : Nat) : (AV.slc sz ex nn l).sh2 n = .slc sz ex nn l := rfl
theorem drop_keep {c s : AV} {l : List En} {y : List Int} (hs : Lg s l) (hl : l.length ≤ 1000000) (hc : Ns c y) (d : Int) :
    (l = [] ∧ ∀ s' H, s'.snap1 H = some s → callW F 16 [s', c, .v (.int .i64 d)] H = some (.slc 4 true false [], H ++ [.box 23 [c], .box 3 [.v (.int .i64 d)]])) ∨
    (∃ es L', AllR IsEn es (dropL l y d) ∧ L'.take es.length = es ∧ es.length ≤ maxLen ∧ ∀ s' H, s'.snap1 H = some s → callW F 16 [s', c, .v (.int .i64 d)] H = some (.own 4 (H.length + 2) 0 0 es.length, H ++ [.box 23 [c], .box 3 [.v (.int .i64 d)], .row 29 4 0 L' 0])) := by
  have cc := Ns.cl1 hc
  have shc := Ns.sh hc
  have sc := fun H => hc.sn H
  obtain ⟨es, hsl, ha, hm⟩ := hs
  have hel : es.length ≤ 1000000 := by rw [ha.length]; exact hl
  have hcl := clone_call (F' := F) (f := 27) (rt := 29) (sz := 4) (bytes := 64) rfl (hsl.elems [.box 23 [c], .box 3 [.v (.int .i64 d)]]) (fits_small hel (by omega))
  have hb0 : ∀ n, AO.below n (.box 3 [.v (.int .i64 d)]) = true := fun _ => rfl
  cases es with
  | nil =>
    have hl0 : l = [] := by have := ha.length; exact List.length_eq_zero_iff.1 (by simpa using this.symm)
    subst hl0
    simp only [cloneR] at hcl
    have hb : ([.box 23 [c], .box 3 [.v (.int .i64 d)]] : List AO).all (AO.below ([.box 23 [c], .box 3 [.v (.int .i64 d)]] : List AO).length) = true := by simp only [List.all_cons, List.all_nil, hc.bel, hb0, Bool.and_true]
    have hd := delete_none (F := F) (f := 32) (fi := 30) (g := 33) (bt := 29) (agg := true) (sz := 4) (zero := [.slice none 0 0, .int .i64 0, .slice none 0 0, .int .i64 0]) (first := []) (cap := [.ptr 0 0, .ptr 1 0]) (p := fun _ => false) rfl rfl hb (s := .slc 4 true false []) (l := []) (Rd.sl (.slc _ _ _) (fun e h => by simp at h)) (by simp) rfl (fun x h => by simp at h) (fun x h => by simp at h)
    refine .inl ⟨rfl, fun s' H hsn => ?_⟩
    have key : lk1 5 (exec (callW F) 0 c16.body (start c16 [s, c, .v (.int .i64 d)]) []) = some (.slc 4 true false [], [.box 23 [c], .box 3 [.v (.int .i64 d)]]) := by
      simp only [c16, start, List.replicate, c16_0, c16_1, cc, e_callh, hcl, Q121, e_mkfn, List.map_cons, List.map_nil, hd, lk1_ret, Q0, Q1, Q2, Q3, Q4, Q5, Q6, Q7, Q8, Q9, Q10, Q11, Q12, Q13, Q14, Q15, Q16, Q17, Q18, Q19, Q20, Q21, Q22, Q23, Q24, Q25, Q26, Q27, Q28, Q29, Q30, Q31, Q32, Q33, Q35, Q36, Q37, Q38, Q39, Q40, Q41, Q42, Q43, Q44, Q45, Q46, Q47, Q48, Q49, Q50, Q51, Q52, Q53, Q54, Q55, Q56, Q57, Q58, Q59, Q60, Q61, Q62, Q63, Q64, Q65, Q66, Q67, Q68, Q69, Q70, Q71, Q72, Q73, Q99, Q100, Q101, Q102, Q103, Q74, Q75, Q77, Q78, Q79, Q80, Q81, Q82, Q83, Q84, clr, List.length_nil, List.length_cons, List.getElem?_cons_zero, List.getElem?_cons_succ, Nat.reduceAdd, Nat.zero_add, Nat.add_zero, Nat.reduceLeDiff, Nat.reduceSub, ↓reduceIte, List.drop_succ_cons, List.drop_zero, List.take_succ_cons, List.take_zero, Bool.false_eq_true, List.nil_append, List.cons_append, Bool.not_true, Bool.not_false, cond_true, cond_false, bne, Q85, Q86, Q87, Q88, Q89, Q90, Q91, Q92, Q93, Q94, Q95, Q96, Q97, Q98, Q110, Q111, Q116, Q117, Q118, Q119, Q120, Q121, Q122, Q123, Option.map_some, Option.map_none, Q34]
    have hk := keep16 key rfl (by simp only [List.all_cons, List.all_nil, AO.ok, (shc 0).2, (int_sh 0).2, Bool.and_true]) hsn (sc H)
    simpa only [sh2_slc, sh1_v, List.map_cons, List.map_nil, sh_box, sh_row, (shc _).1] using hk
  | cons e0 es0 =>
    simp only [cloneR] at hcl
    generalize hE : e0 :: es0 = es at *
    have hne : (es0.length + 1) = es.length := by rw [← hE]; rfl
    rw [hne] at hcl
    have hb : ([.box 23 [c], .box 3 [.v (.int .i64 d)], .row 29 4 0 es 0] : List AO).all (AO.below ([.box 23 [c], .box 3 [.v (.int .i64 d)], .row 29 4 0 es 0] : List AO).length) = true := by
      simp only [List.all_cons, List.all_nil, hc.bel, hb0, Bool.and_true, Bool.true_and]; rfl
    let H0 : List AO := [.box 23 [c], .box 3 [.v (.int .i64 d)]]
    have hbH : H0.all (AO.below H0.length) = true := by simp only [H0, List.all_cons, List.all_nil, hc.bel, hb0, Bool.and_true]
    let p : AV → Bool := fun a => ansB (callW F 33 [a, .ptr 0 0, .ptr 1 0] H0)
    have hp : ∀ a x, IsEn a x → p a = prunedL x.lab y d := by
      intro a x h
      simp only [p, cut_ok h hc (H := H0) (i := 0) (j := 1) rfl rfl hbH, ansB]
    obtain ⟨L', h1, h2, h3, _⟩ := delete_run (F := F) (f := 32) (fi := 30) (g := 33) (bt := 29) (rt := 29) (agg := true) (sz := 4) (zero := [.slice none 0 0, .int .i64 0, .slice none 0 0, .int .i64 0]) (first := []) (cap := [.ptr 0 0, .ptr 1 0]) (p := p) (H := [.box 23 [c], .box 3 [.v (.int .i64 d)], .row 29 4 0 es 0]) (id := 2) (ver := 0) (l := es) rfl rfl hb rfl hm (Lg.elm ha) ⟨rfl, rfl, fun _ => rfl, rfl, rfl, rfl⟩ ⟨by kernel_rfl, rfl⟩ (by
      intro a ha' h hbh hoth
      obtain ⟨x, _, hx⟩ := ha.mem a ha'
      rw [hp a x hx]
      exact cut_ok hx hc (hoth 0 _ (by decide) rfl) (hoth 1 _ (by decide) rfl) hbh)
    have hfr := filter_R (p := fun x => !p x) (q := fun x => !prunedL x.lab y d) (fun a x h => by rw [hp a x h]) ha
    generalize hq : es.filter (fun x => !p x) = q at h1 h3 hfr
    have hql : q.length ≤ es.length := by rw [← hq]; exact List.length_filter_le _ _
    have app : ([.box 23 [c], .box 3 [.v (.int .i64 d)]] : List AO) ++ [.row 29 4 0 es 0] = [.box 23 [c], .box 3 [.v (.int .i64 d)], .row 29 4 0 es 0] := rfl
    rw [app] at hcl
    simp only [List.length_cons, List.length_nil, Nat.reduceAdd] at hcl
    have rh : rowH [.box 23 [c], .box 3 [.v (.int .i64 d)], .row 29 4 0 es 0] 29 2 4 0 L' = [.box 23 [c], .box 3 [.v (.int .i64 d)], .row 29 4 0 L' 0] := rfl
    rw [rh] at h1
    refine .inr ⟨q, L', hfr, h3, by omega, fun s' H hsn => ?_⟩
    have key : lk1 5 (exec (callW F) 0 c16.body (start c16 [s, c, .v (.int .i64 d)]) []) = some (.own 4 2 0 0 q.length, [.box 23 [c], .box 3 [.v (.int .i64 d)], .row 29 4 0 L' 0]) := by
      simp only [c16, start, List.replicate, c16_0, c16_1, cc, e_callh, hcl, Q121, e_mkfn, List.map_cons, List.map_nil, h1, lk1_ret, Q0, Q1, Q2, Q3, Q4, Q5, Q6, Q7, Q8, Q9, Q10, Q11, Q12, Q13, Q14, Q15, Q16, Q17, Q18, Q19, Q20, Q21, Q22, Q23, Q24, Q25, Q26, Q27, Q28, Q29, Q30, Q31, Q32, Q33, Q35, Q36, Q37, Q38, Q39, Q40, Q41, Q42, Q43, Q44, Q45, Q46, Q47, Q48, Q49, Q50, Q51, Q52, Q53, Q54, Q55, Q56, Q57, Q58, Q59, Q60, Q61, Q62, Q63, Q64, Q65, Q66, Q67, Q68, Q69, Q70, Q71, Q72, Q73, Q99, Q100, Q101, Q102, Q103, Q74, Q75, Q77, Q78, Q79, Q80, Q81, Q82, Q83, Q84, clr, List.length_nil, List.length_cons, List.getElem?_cons_zero, List.getElem?_cons_succ, Nat.reduceAdd, Nat.zero_add, Nat.add_zero, Nat.reduceLeDiff, Nat.reduceSub, ↓reduceIte, List.drop_succ_cons, List.drop_zero, List.take_succ_cons, List.take_zero, Bool.false_eq_true, List.nil_append, List.cons_append, Bool.not_true, Bool.not_false, cond_true, cond_false, bne, Q85, Q86, Q87, Q88, Q89, Q90, Q91, Q92, Q93, Q94, Q95, Q96, Q97, Q98, Q110, Q111, Q116, Q117, Q118, Q119, Q120, Q121, Q122, Q123, Option.map_some, Option.map_none, Q34]
    have hk := keep16 key rfl (by simp only [List.all_cons, List.all_nil, AO.ok, (shc 0).2, (int_sh 0).2, Bool.and_true]) hsn (sc H)
    simpa only [sh2_own, sh1_v, List.map_cons, List.map_nil, sh_box, sh_row, (shc _).1] using hk
end Go.AE.Ytkdjdhfoodlnfaa
end

/-! The document's Drop: walked. -/
section
set_option linter.unusedVariables false
set_option linter.unusedSimpArgs false
namespace Go.AE.Ytkdjdhfoodlnfaa
open Go Go.AE Go.Proofs.Ytkdjdhfoodlnfaa

def K17 : List Bool := [false, true, true, false, true, false, true, true, true, false, false]
def V17 (cy : AV) (d : Int) (s c : AV) (len i : Int) (x9 : AV) : List AV := [.junk, cy, .v (.int .i64 d), .junk, c, .junk, s, .v (.int .i64 len), .v (.int .i64 i), x9, .junk]
theorem rdrop_loop {K : Nat} {s cy : AV} {l : List En} {y : List Int} {d : Int} (hs : Lg s l) (hl : l.length ≤ 1000) (hy : Ns cy y) (hK : l.length < K) (v : List AV) (h0 : List AO) (hv : clr K17 v = V17 cy d s (.v (.slice none 0 0)) l.length 0 .junk) :
    ∃ c es h', loopN (exec (callW F) K c17_8) K17 K v h0 = some (.exit 0, V17 cy d s c l.length l.length (.v (.bool false)), h') ∧ Acc 29 4 h' c es ∧ AllR IsEn es (dropL l y d) := by
  obtain ⟨e, v', h', g1, g2, rfl, c, es, rfl, g4, g5⟩ := loop_rule0 (call := callW F) (K := K) (b := c17_8) (keep := K17) (fun i v h => ∃ c es acc, v = V17 cy d s c l.length i .junk ∧ Acc 29 4 h c es ∧ AllR IsEn es acc ∧ es.length ≤ i ∧ acc ++ dropL (l.drop i) y d = dropL l y d)
    (fun e v h' => e = .exit 0 ∧ ∃ c es, v = V17 cy d s c l.length l.length (.v (.bool false)) ∧ Acc 29 4 h' c es ∧ AllR IsEn es (dropL l y d)) l.length (m := K) (v := v) (h := h0) hK ⟨_, [], [], hv, .nil, .nil, Nat.le_refl _, rfl⟩ (by
      rintro i v h' hi ⟨c, es, acc, rfl, hA, hR, hel, hac⟩
      by_cases hil : i < l.length
      · have hlt := lt_t hil
        have hw := wrap_succ hil hs.max
        obtain ⟨c1, k, dd, e, e1, n1, y1, t1, y2⟩ := hs.at hil
        have hE := IsEn.mk c1 l[i].lab n1 k dd l[i].terms t1 e
        have hxe : (⟨l[i].lab, k, l[i].terms, e⟩ : En) = l[i] := by rw [y1, y2]
        have z : (ofVal (.agg #[.slice none 0 0, .int .i64 0, .slice none 0 0, .int .i64 0])).cl = some [.v (.slice none 0 0), .v (.int .i64 0), .v (.slice none 0 0), .v (.int .i64 0)] := by kernel_rfl
        have cl := hE.cl
        have sn := hE.elm.snap
        have ldn := hE.elm.ldn (bt := 29) h'
        simp only [AV.cells] at cl ldn
        have bz : ∀ h : List AO, bs1 h 4 (some (.agg [c1, .v (.int .i64 k), dd, .v (.int .i64 e)])) = some (.slc 4 true true [.agg [c1, .v (.int .i64 k), dd, .v (.int .i64 e)]], h) := fun h => bs1_some cl rfl
        have st : Q113 (h' ++ [.box 29 [.v (.slice none 0 0), .v (.int .i64 0), .v (.slice none 0 0), .v (.int .i64 0)]]) 4 (.ptr h'.length 0) (.agg [c1, .v (.int .i64 k), dd, .v (.int .i64 e)]) = some (h' ++ [.box 29 [c1, .v (.int .i64 k), dd, .v (.int .i64 e)]]) := st_new cl rfl rfl
        have ld0 : Q76 (h' ++ [.box 29 [c1, .v (.int .i64 k), dd, .v (.int .i64 e)]]) false 1 (.ptr h'.length 0) = some c1 := by rw [ld_new]; rfl
        have hcm := rpruned_ok n1 hy d
        have s1 := fun H => n1.sn H
        have s2 := fun H => hy.sn H
        have hA' : Acc 29 4 (h' ++ [.box 29 [c1, .v (.int .i64 k), dd, .v (.int .i64 e)]]) c es := by
          cases hA with
          | nil => exact .nil
          | own id ver k es hr hk hne => exact .own id ver k es (his_get hr) hk hne
        rw [List.drop_eq_getElem_cons hil, dropL, List.filter_cons] at hac
        cases hq : prunedL l[i].lab y d with
        | false =>
          rw [hq] at hac hcm
          simp only [Bool.not_false, if_true] at hac
          obtain ⟨c', h2, f1, f2, f3⟩ := hA'.add' (bytes := 64) (x := .slc 4 true true [.agg [c1, .v (.int .i64 k), dd, .v (.int .i64 e)]]) (ys := [.agg [c1, .v (.int .i64 k), dd, .v (.int .i64 e)]]) rfl (fits_small (by simp only [List.length_cons, List.length_nil]; omega) (by omega))
          refine ⟨.normal, [.junk, cy, .v (.int .i64 d), .junk, c', .ptr h'.length 0, s, .v (.int .i64 l.length), .v (.int .i64 ((i + 1 : Nat) : Int)), .v (.bool true), .v (.bool true)], h2, ?_, hil, c', _, acc ++ [l[i]], rfl, f2, AllR.app hR (.one (hxe ▸ hE)), by simp only [List.length_append, List.length_cons, List.length_nil]; omega, by rw [List.append_assoc]; exact hac⟩
          simp only [V17, c17_8, c17_3, c17_4, c17_5, c17_6, c17_7, hlt, hw, e1, ip_ld4, z, st, ld0, ldn, sn, bz, s1, s2, snap_int, hcm, Q104, e_append, f1, Q0, Q1, Q2, Q3, Q4, Q5, Q6, Q7, Q8, Q9, Q10, Q11, Q12, Q13, Q14, Q15, Q16, Q17, Q18, Q19, Q20, Q21, Q22, Q23, Q24, Q25, Q26, Q27, Q28, Q29, Q30, Q31, Q32, Q33, Q35, Q36, Q37, Q38, Q39, Q40, Q41, Q42, Q43, Q44, Q45, Q46, Q47, Q48, Q49, Q50, Q51, Q52, Q53, Q54, Q55, Q56, Q57, Q58, Q59, Q60, Q61, Q62, Q63, Q64, Q65, Q66, Q67, Q68, Q69, Q70, Q71, Q72, Q73, Q99, Q100, Q101, Q102, Q103, Q74, Q75, Q77, Q78, Q79, Q80, Q81, Q82, Q83, Q84, clr, List.length_nil, List.length_cons, List.getElem?_cons_zero, List.getElem?_cons_succ, Nat.reduceAdd, Nat.zero_add, Nat.add_zero, Nat.reduceLeDiff, Nat.reduceSub, ↓reduceIte, List.drop_succ_cons, List.drop_zero, List.take_succ_cons, List.take_zero, Bool.false_eq_true, List.nil_append, List.cons_append, Bool.not_true, Bool.not_false, cond_true, cond_false, bne, Q85, Q86, Q87, Q88, Q89, Q90, Q91, Q92, Q93, Q94, Q95, Q96, Q97, Q98, Q110, Q111, Q116, Q117, Q118, Q119, Q120, Q121, Q122, Q123, Option.map_some, Option.map_none, Q34]
        | true =>
          rw [hq] at hac hcm
          simp only [Bool.not_true, Bool.false_eq_true, if_false] at hac
          refine ⟨.normal, [.junk, cy, .v (.int .i64 d), .junk, c, .ptr h'.length 0, s, .v (.int .i64 l.length), .v (.int .i64 ((i + 1 : Nat) : Int)), .v (.bool true), .v (.bool false)], h' ++ [.box 29 [c1, .v (.int .i64 k), dd, .v (.int .i64 e)]], ?_, hil, c, es, acc, rfl, hA', hR, by omega, hac⟩
          simp only [V17, c17_8, c17_3, c17_4, c17_5, c17_7, hlt, hw, e1, ip_ld4, z, st, ld0, s1, s2, snap_int, hcm, Q0, Q1, Q2, Q3, Q4, Q5, Q6, Q7, Q8, Q9, Q10, Q11, Q12, Q13, Q14, Q15, Q16, Q17, Q18, Q19, Q20, Q21, Q22, Q23, Q24, Q25, Q26, Q27, Q28, Q29, Q30, Q31, Q32, Q33, Q35, Q36, Q37, Q38, Q39, Q40, Q41, Q42, Q43, Q44, Q45, Q46, Q47, Q48, Q49, Q50, Q51, Q52, Q53, Q54, Q55, Q56, Q57, Q58, Q59, Q60, Q61, Q62, Q63, Q64, Q65, Q66, Q67, Q68, Q69, Q70, Q71, Q72, Q73, Q99, Q100, Q101, Q102, Q103, Q74, Q75, Q77, Q78, Q79, Q80, Q81, Q82, Q83, Q84, clr, List.length_nil, List.length_cons, List.getElem?_cons_zero, List.getElem?_cons_succ, Nat.reduceAdd, Nat.zero_add, Nat.add_zero, Nat.reduceLeDiff, Nat.reduceSub, ↓reduceIte, List.drop_succ_cons, List.drop_zero, List.take_succ_cons, List.take_zero, Bool.false_eq_true, List.nil_append, List.cons_append, Bool.not_true, Bool.not_false, cond_true, cond_false, bne, Q85, Q86, Q87, Q88, Q89, Q90, Q91, Q92, Q93, Q94, Q95, Q96, Q97, Q98, Q110, Q111, Q116, Q117, Q118, Q119, Q120, Q121, Q122, Q123, Option.map_some, Option.map_none, Q34]
      · have hie : i = l.length := by omega
        subst hie
        have hlt := lt_f (n := l.length)
        have : dropL (l.drop l.length) y d = [] := by rw [List.drop_length]; rfl
        rw [this, List.append_nil] at hac
        refine ⟨.exit 0, V17 cy d s c l.length l.length (.v (.bool false)), h', ?_, rfl, c, es, rfl, hA, hac ▸ hR⟩
        simp only [V17, c17_8, c17_3, hlt, Q0, Q1, Q2, Q3, Q4, Q5, Q6, Q7, Q8, Q9, Q10, Q11, Q12, Q13, Q14, Q15, Q16, Q17, Q18, Q19, Q20, Q21, Q22, Q23, Q24, Q25, Q26, Q27, Q28, Q29, Q30, Q31, Q32, Q33, Q35, Q36, Q37, Q38, Q39, Q40, Q41, Q42, Q43, Q44, Q45, Q46, Q47, Q48, Q49, Q50, Q51, Q52, Q53, Q54, Q55, Q56, Q57, Q58, Q59, Q60, Q61, Q62, Q63, Q64, Q65, Q66, Q67, Q68, Q69, Q70, Q71, Q72, Q73, Q99, Q100, Q101, Q102, Q103, Q74, Q75, Q77, Q78, Q79, Q80, Q81, Q82, Q83, Q84, clr, List.length_nil, List.length_cons, List.getElem?_cons_zero, List.getElem?_cons_succ, Nat.reduceAdd, Nat.zero_add, Nat.add_zero, Nat.reduceLeDiff, Nat.reduceSub, ↓reduceIte, List.drop_succ_cons, List.drop_zero, List.take_succ_cons, List.take_zero, Bool.false_eq_true, List.nil_append, List.cons_append, Bool.not_true, Bool.not_false, cond_true, cond_false, bne, Q85, Q86, Q87, Q88, Q89, Q90, Q91, Q92, Q93, Q94, Q95, Q96, Q97, Q98, Q110, Q111, Q116, Q117, Q118, Q119, Q120, Q121, Q122, Q123, Option.map_some, Option.map_none, Q34])
  exact ⟨c, es, h', g1, g4, g5⟩
theorem acc_leave {h : List AO} {rt : TypeId} {c : AV} {es : List AV} (hA : Acc rt 4 h c es) : ∃ r, lvf h c = some (r, []) ∧ Sl 4 r es := by
  cases hA with
  | nil => exact ⟨_, rfl, .nil⟩
  | own id ver k es hr hk hne =>
    have := lvf_own (n := es.length) hr (Nat.le_refl _)
    rw [List.take_length] at this
    exact ⟨_, this, .slc _ _ _⟩
theorem rdrop_ok {s cy : AV} {l : List En} {y : List Int} (hs : Lg s l) (hl : l.length ≤ 1000) (hy : Ns cy y) (d : Int) : ∃ r, Lg r (dropL l y d) ∧ callW F 17 [s, cy, .v (.int .i64 d)] [] = some (r, []) := by
  have q1 := fun H => hs.len H
  obtain ⟨c, es, h', lp, hA, hR⟩ := rdrop_loop (K := l.length + 1) hs hl hy (by omega) [s, cy, .v (.int .i64 d), .v (.slice none 0 0), .v (.slice none 0 0), .v undef, s, .v (.int .i64 l.length), .v (.int .i64 0), .v undef, .v undef] [] rfl (d := d)
  obtain ⟨r, lf, hr⟩ := acc_leave hA
  have hdl : (dropL l y d).length ≤ l.length := List.length_filter_le _ _
  have hmx : maxLen = 9223372036854775807 := rfl
  have hRl := hR.length
  refine ⟨r, ⟨es, hr, hR, by omega⟩, callW_pure (c := c17) rfl rfl (l.length + 1) ?_⟩
  rw [show c17.body = (.seq (.region [] [] c17_0) (.seq (.region [] [] c17_1) (.seq (.seq (.region [] [] c17_2) (.block 0 (.loop K17 [] c17_8))) (.seq (.region [] [] c17_9) .ret)))) from rfl]
  simp only [V17] at lp
  generalize c17_8 = bb at lp ⊢
  simp only [c17, start, List.replicate, c17_0, c17_1, c17_2, c17_9, q1, lp, lf, Q0, Q1, Q2, Q3, Q4, Q5, Q6, Q7, Q8, Q9, Q10, Q11, Q12, Q13, Q14, Q15, Q16, Q17, Q18, Q19, Q20, Q21, Q22, Q23, Q24, Q25, Q26, Q27, Q28, Q29, Q30, Q31, Q32, Q33, Q35, Q36, Q37, Q38, Q39, Q40, Q41, Q42, Q43, Q44, Q45, Q46, Q47, Q48, Q49, Q50, Q51, Q52, Q53, Q54, Q55, Q56, Q57, Q58, Q59, Q60, Q61, Q62, Q63, Q64, Q65, Q66, Q67, Q68, Q69, Q70, Q71, Q72, Q73, Q99, Q100, Q101, Q102, Q103, Q74, Q75, Q77, Q78, Q79, Q80, Q81, Q82, Q83, Q84, clr, List.length_nil, List.length_cons, List.getElem?_cons_zero, List.getElem?_cons_succ, Nat.reduceAdd, Nat.zero_add, Nat.add_zero, Nat.reduceLeDiff, Nat.reduceSub, ↓reduceIte, List.drop_succ_cons, List.drop_zero, List.take_succ_cons, List.take_zero, Bool.false_eq_true, List.nil_append, List.cons_append, Bool.not_true, Bool.not_false, cond_true, cond_false, bne, Q85, Q86, Q87, Q88, Q89, Q90, Q91, Q92, Q93, Q94, Q95, Q96, Q97, Q98, Q110, Q111, Q116, Q117, Q118, Q119, Q120, Q121, Q122, Q123, Option.map_some, Option.map_none, Q34]
/-! ### Ready -/
def K18 : List Bool := [true, false, false, true, false, false, false, false, true, true, true, false, false, false, false, false, false, false]
def V18 (s m ops : AV) (len i : Int) (x11 : AV) : List AV := [s, .junk, .junk, m, .junk, .junk, .junk, .junk, ops, .v (.int .i64 len), .v (.int .i64 i), x11, .junk, .junk, .junk, .junk, .junk, .junk]
theorem least_loop {K : Nat} {s ops m0 : AV} {op : List (List Int)} {o : List Int} (hc : Nss ops op) (h0 : Ns m0 o) (hK : op.length < K) (v : List AV) (hv : clr K18 v = V18 s m0 ops op.length 0 .junk) :
    ∃ m, Ns m (leastL o op) ∧ loopN (exec (callW F) K c18_10) K18 K v [] = some (.exit 0, V18 s m ops op.length op.length (.v (.bool false)), []) := by
  obtain ⟨e, v', h', g1, g2, rfl, rfl, m, rfl, g3⟩ := loop_rule0 (call := callW F) (K := K) (b := c18_10) (keep := K18) (fun i v h => h = [] ∧ ∃ m mm, v = V18 s m ops op.length i .junk ∧ Ns m mm ∧ leastL mm (op.drop i) = leastL o op)
    (fun e v h => e = .exit 0 ∧ h = [] ∧ ∃ m, v = V18 s m ops op.length op.length (.v (.bool false)) ∧ Ns m (leastL o op)) op.length (m := K) (v := v) (h := []) hK ⟨rfl, m0, o, hv, h0, rfl⟩ (by
      rintro i v h hi ⟨rfl, m, mm, rfl, hm, hl⟩
      by_cases hil : i < op.length
      · have hlt := lt_t hil
        have hw := wrap_succ hil hc.max
        obtain ⟨d, e1, n1⟩ := hc.at hil
        have hcm := rcompare_ok n1 hm
        have s1 := fun H => n1.sn H
        have s2 := fun H => hm.sn H
        rw [List.drop_eq_getElem_cons hil, leastL] at hl
        cases hq : decide (cmpL op[i] mm < 0) with
        | true =>
          rw [hq, if_pos rfl] at hl
          refine ⟨.normal, [s, .junk, .junk, d, d, .junk, .junk, .junk, ops, .v (.int .i64 op.length), .v (.int .i64 ((i + 1 : Nat) : Int)), .v (.bool true), .v (.bool true), .junk, .junk, .junk, .junk, .junk], [], ?_, hil, rfl, d, op[i], rfl, n1, hl⟩
          simp only [V18, c18_10, c18_5, c18_6, c18_7, c18_8, c18_9, hlt, hw, e1, ip_ld, s1, s2, hcm, hq, Q0, Q1, Q2, Q3, Q4, Q5, Q6, Q7, Q8, Q9, Q10, Q11, Q12, Q13, Q14, Q15, Q16, Q17, Q18, Q19, Q20, Q21, Q22, Q23, Q24, Q25, Q26, Q27, Q28, Q29, Q30, Q31, Q32, Q33, Q35, Q36, Q37, Q38, Q39, Q40, Q41, Q42, Q43, Q44, Q45, Q46, Q47, Q48, Q49, Q50, Q51, Q52, Q53, Q54, Q55, Q56, Q57, Q58, Q59, Q60, Q61, Q62, Q63, Q64, Q65, Q66, Q67, Q68, Q69, Q70, Q71, Q72, Q73, Q99, Q100, Q101, Q102, Q103, Q74, Q75, Q77, Q78, Q79, Q80, Q81, Q82, Q83, Q84, clr, List.length_nil, List.length_cons, List.getElem?_cons_zero, List.getElem?_cons_succ, Nat.reduceAdd, Nat.zero_add, Nat.add_zero, Nat.reduceLeDiff, Nat.reduceSub, ↓reduceIte, List.drop_succ_cons, List.drop_zero, List.take_succ_cons, List.take_zero, Bool.false_eq_true, List.nil_append, List.cons_append, Bool.not_true, Bool.not_false, cond_true, cond_false, bne, Q85, Q86, Q87, Q88, Q89, Q90, Q91, Q92, Q93, Q94, Q95, Q96, Q97, Q98, Q110, Q111, Q116, Q117, Q118, Q119, Q120, Q121, Q122, Q123, Option.map_some, Option.map_none, Q34]
        | false =>
          rw [hq, if_neg (by simp)] at hl
          refine ⟨.normal, [s, .junk, .junk, m, d, .junk, .junk, .junk, ops, .v (.int .i64 op.length), .v (.int .i64 ((i + 1 : Nat) : Int)), .v (.bool true), .v (.bool false), .junk, .junk, .junk, .junk, .junk], [], ?_, hil, rfl, m, mm, rfl, hm, hl⟩
          simp only [V18, c18_10, c18_5, c18_6, c18_7, c18_9, hlt, hw, e1, ip_ld, s1, s2, hcm, hq, Q0, Q1, Q2, Q3, Q4, Q5, Q6, Q7, Q8, Q9, Q10, Q11, Q12, Q13, Q14, Q15, Q16, Q17, Q18, Q19, Q20, Q21, Q22, Q23, Q24, Q25, Q26, Q27, Q28, Q29, Q30, Q31, Q32, Q33, Q35, Q36, Q37, Q38, Q39, Q40, Q41, Q42, Q43, Q44, Q45, Q46, Q47, Q48, Q49, Q50, Q51, Q52, Q53, Q54, Q55, Q56, Q57, Q58, Q59, Q60, Q61, Q62, Q63, Q64, Q65, Q66, Q67, Q68, Q69, Q70, Q71, Q72, Q73, Q99, Q100, Q101, Q102, Q103, Q74, Q75, Q77, Q78, Q79, Q80, Q81, Q82, Q83, Q84, clr, List.length_nil, List.length_cons, List.getElem?_cons_zero, List.getElem?_cons_succ, Nat.reduceAdd, Nat.zero_add, Nat.add_zero, Nat.reduceLeDiff, Nat.reduceSub, ↓reduceIte, List.drop_succ_cons, List.drop_zero, List.take_succ_cons, List.take_zero, Bool.false_eq_true, List.nil_append, List.cons_append, Bool.not_true, Bool.not_false, cond_true, cond_false, bne, Q85, Q86, Q87, Q88, Q89, Q90, Q91, Q92, Q93, Q94, Q95, Q96, Q97, Q98, Q110, Q111, Q116, Q117, Q118, Q119, Q120, Q121, Q122, Q123, Option.map_some, Option.map_none, Q34]
      · have hie : i = op.length := by omega
        subst hie
        have hlt := lt_f (n := op.length)
        rw [List.drop_length, leastL] at hl
        refine ⟨.exit 0, V18 s m ops op.length op.length (.v (.bool false)), [], ?_, rfl, rfl, m, rfl, hl ▸ hm⟩
        simp only [V18, c18_10, c18_5, hlt, Q0, Q1, Q2, Q3, Q4, Q5, Q6, Q7, Q8, Q9, Q10, Q11, Q12, Q13, Q14, Q15, Q16, Q17, Q18, Q19, Q20, Q21, Q22, Q23, Q24, Q25, Q26, Q27, Q28, Q29, Q30, Q31, Q32, Q33, Q35, Q36, Q37, Q38, Q39, Q40, Q41, Q42, Q43, Q44, Q45, Q46, Q47, Q48, Q49, Q50, Q51, Q52, Q53, Q54, Q55, Q56, Q57, Q58, Q59, Q60, Q61, Q62, Q63, Q64, Q65, Q66, Q67, Q68, Q69, Q70, Q71, Q72, Q73, Q99, Q100, Q101, Q102, Q103, Q74, Q75, Q77, Q78, Q79, Q80, Q81, Q82, Q83, Q84, clr, List.length_nil, List.length_cons, List.getElem?_cons_zero, List.getElem?_cons_succ, Nat.reduceAdd, Nat.zero_add, Nat.add_zero, Nat.reduceLeDiff, Nat.reduceSub, ↓reduceIte, List.drop_succ_cons, List.drop_zero, List.take_succ_cons, List.take_zero, Bool.false_eq_true, List.nil_append, List.cons_append, Bool.not_true, Bool.not_false, cond_true, cond_false, bne, Q85, Q86, Q87, Q88, Q89, Q90, Q91, Q92, Q93, Q94, Q95, Q96, Q97, Q98, Q110, Q111, Q116, Q117, Q118, Q119, Q120, Q121, Q122, Q123, Option.map_some, Option.map_none, Q34])
  exact ⟨m, g3, g1⟩
def K18b : List Bool := [true, false, false, true, false, false, false, false, false, false, false, false, false, true, true, true, false, false]
def V18b (s m : AV) (len i : Int) (x16 : AV) : List AV := [s, .junk, .junk, m, .junk, .junk, .junk, .junk, .junk, .junk, .junk, .junk, .junk, s, .v (.int .i64 len), .v (.int .i64 i), x16, .junk]
def twL (y : List Int) : List En → Nat
  | [] => 0
  | x :: l => if decide (cmpL x.lab y ≥ 0) = true then 0 else twL y l + 1
theorem tw_eq (y : List Int) : ∀ (l : List En), twL y l = (l.takeWhile (fun x => decide (cmpL x.lab y < 0))).length
  | [] => rfl
  | x :: l => by
    rw [twL, List.takeWhile_cons, tw_eq y l]
    by_cases h : cmpL x.lab y ≥ 0
    · rw [if_pos (decide_eq_true h), decide_eq_false (by omega)]; rfl
    · rw [if_neg (by simpa using h), decide_eq_true (by omega)]; rfl
theorem stand_loop {K : Nat} {s m : AV} {l : List En} {y : List Int} (hs : Lg s l) (hy : Ns m y) (hK : l.length < K) (v : List AV) (hv : clr K18b v = V18b s m l.length 0 .junk) :
    ∃ e v' h', loopN (exec (callW F) K c18_17) K18b K v [] = some (e, v', h') ∧ ((e = .ret ∧ getO v' [] (.var 2) = .v (.int .i64 (twL y l))) ∨ (e = .exit 2 ∧ twL y l = l.length ∧ v' = V18b s m l.length l.length (.v (.bool false)))) := by
  obtain ⟨e, v', h', g1, g2, g3⟩ := loop_rule0 (call := callW F) (K := K) (b := c18_17) (keep := K18b) (fun i v h => v = V18b s m l.length i .junk ∧ twL y l = i + twL y (l.drop i))
    (fun e v h' => ((e = .ret ∧ getO v [] (.var 2) = .v (.int .i64 (twL y l))) ∨ (e = .exit 2 ∧ twL y l = l.length ∧ v = V18b s m l.length l.length (.v (.bool false))))) l.length (m := K) (v := v) (h := []) hK ⟨hv, by simp⟩ (by
      rintro i v h' hi ⟨rfl, hR⟩
      by_cases hil : i < l.length
      · have hlt := lt_t hil
        have hw := wrap_succ hil hs.max
        obtain ⟨c1, k, dd, e, e1, n1, _, t1, _⟩ := hs.at hil
        have z : (ofVal (.agg #[.slice none 0 0, .int .i64 0, .slice none 0 0, .int .i64 0])).cl = some [.v (.slice none 0 0), .v (.int .i64 0), .v (.slice none 0 0), .v (.int .i64 0)] := by kernel_rfl
        have cl := (IsEn.mk c1 l[i].lab n1 k dd l[i].terms t1 e).cl
        simp only [AV.cells] at cl
        have st : Q113 (h' ++ [.box 29 [.v (.slice none 0 0), .v (.int .i64 0), .v (.slice none 0 0), .v (.int .i64 0)]]) 4 (.ptr h'.length 0) (.agg [c1, .v (.int .i64 k), dd, .v (.int .i64 e)]) = some (h' ++ [.box 29 [c1, .v (.int .i64 k), dd, .v (.int .i64 e)]]) := st_new cl rfl rfl
        have ld0 : Q76 (h' ++ [.box 29 [c1, .v (.int .i64 k), dd, .v (.int .i64 e)]]) false 1 (.ptr h'.length 0) = some c1 := by rw [ld_new]; rfl
        have hcm := rcompare_ok n1 hy
        have s1 := fun H => n1.sn H
        have s2 := fun H => hy.sn H
        rw [List.drop_eq_getElem_cons hil, twL] at hR
        cases hq : decide (cmpL l[i].lab y ≥ 0) with
        | true =>
          rw [hq, if_pos rfl, Nat.add_zero] at hR
          refine ⟨.ret, [s, .junk, .v (.int .i64 i), m, .junk, .v (.int .i64 i), .ptr h'.length 0, .junk, .junk, .junk, .junk, .junk, .junk, s, .v (.int .i64 l.length), .v (.int .i64 i), .v (.bool true), .v (.bool true)], h' ++ [.box 29 [c1, .v (.int .i64 k), dd, .v (.int .i64 e)]], ?_, .inl ⟨rfl, by rw [hR]; rfl⟩⟩
          simp only [V18b, c18_17, c18_12, c18_13, c18_14, c18_15, hlt, e1, ip_ld4, z, st, ld0, s1, s2, hcm, hq, Q0, Q1, Q2, Q3, Q4, Q5, Q6, Q7, Q8, Q9, Q10, Q11, Q12, Q13, Q14, Q15, Q16, Q17, Q18, Q19, Q20, Q21, Q22, Q23, Q24, Q25, Q26, Q27, Q28, Q29, Q30, Q31, Q32, Q33, Q35, Q36, Q37, Q38, Q39, Q40, Q41, Q42, Q43, Q44, Q45, Q46, Q47, Q48, Q49, Q50, Q51, Q52, Q53, Q54, Q55, Q56, Q57, Q58, Q59, Q60, Q61, Q62, Q63, Q64, Q65, Q66, Q67, Q68, Q69, Q70, Q71, Q72, Q73, Q99, Q100, Q101, Q102, Q103, Q74, Q75, Q77, Q78, Q79, Q80, Q81, Q82, Q83, Q84, clr, List.length_nil, List.length_cons, List.getElem?_cons_zero, List.getElem?_cons_succ, Nat.reduceAdd, Nat.zero_add, Nat.add_zero, Nat.reduceLeDiff, Nat.reduceSub, ↓reduceIte, List.drop_succ_cons, List.drop_zero, List.take_succ_cons, List.take_zero, Bool.false_eq_true, List.nil_append, List.cons_append, Bool.not_true, Bool.not_false, cond_true, cond_false, bne, Q85, Q86, Q87, Q88, Q89, Q90, Q91, Q92, Q93, Q94, Q95, Q96, Q97, Q98, Q110, Q111, Q116, Q117, Q118, Q119, Q120, Q121, Q122, Q123, Option.map_some, Option.map_none, Q34]
        | false =>
          rw [hq, if_neg (by simp)] at hR
          refine ⟨.normal, [s, .junk, .junk, m, .junk, .v (.int .i64 i), .ptr h'.length 0, .junk, .junk, .junk, .junk, .junk, .junk, s, .v (.int .i64 l.length), .v (.int .i64 ((i + 1 : Nat) : Int)), .v (.bool true), .v (.bool false)], h' ++ [.box 29 [c1, .v (.int .i64 k), dd, .v (.int .i64 e)]], ?_, hil, rfl, by omega⟩
          simp only [V18b, c18_17, c18_12, c18_13, c18_14, c18_16, hlt, hw, e1, ip_ld4, z, st, ld0, s1, s2, hcm, hq, Q0, Q1, Q2, Q3, Q4, Q5, Q6, Q7, Q8, Q9, Q10, Q11, Q12, Q13, Q14, Q15, Q16, Q17, Q18, Q19, Q20, Q21, Q22, Q23, Q24, Q25, Q26, Q27, Q28, Q29, Q30, Q31, Q32, Q33, Q35, Q36, Q37, Q38, Q39, Q40, Q41, Q42, Q43, Q44, Q45, Q46, Q47, Q48, Q49, Q50, Q51, Q52, Q53, Q54, Q55, Q56, Q57, Q58, Q59, Q60, Q61, Q62, Q63, Q64, Q65, Q66, Q67, Q68, Q69, Q70, Q71, Q72, Q73, Q99, Q100, Q101, Q102, Q103, Q74, Q75, Q77, Q78, Q79, Q80, Q81, Q82, Q83, Q84, clr, List.length_nil, List.length_cons, List.getElem?_cons_zero, List.getElem?_cons_succ, Nat.reduceAdd, Nat.zero_add, Nat.add_zero, Nat.reduceLeDiff, Nat.reduceSub, ↓reduceIte, List.drop_succ_cons, List.drop_zero, List.take_succ_cons, List.take_zero, Bool.false_eq_true, List.nil_append, List.cons_append, Bool.not_true, Bool.not_false, cond_true, cond_false, bne, Q85, Q86, Q87, Q88, Q89, Q90, Q91, Q92, Q93, Q94, Q95, Q96, Q97, Q98, Q110, Q111, Q116, Q117, Q118, Q119, Q120, Q121, Q122, Q123, Option.map_some, Option.map_none, Q34]
      · have hie : i = l.length := by omega
        subst hie
        have hlt := lt_f (n := l.length)
        rw [List.drop_length, twL, Nat.add_zero] at hR
        refine ⟨.exit 2, V18b s m l.length l.length (.v (.bool false)), h', ?_, .inr ⟨rfl, hR, rfl⟩⟩
        simp only [V18b, c18_17, c18_12, hlt, Q0, Q1, Q2, Q3, Q4, Q5, Q6, Q7, Q8, Q9, Q10, Q11, Q12, Q13, Q14, Q15, Q16, Q17, Q18, Q19, Q20, Q21, Q22, Q23, Q24, Q25, Q26, Q27, Q28, Q29, Q30, Q31, Q32, Q33, Q35, Q36, Q37, Q38, Q39, Q40, Q41, Q42, Q43, Q44, Q45, Q46, Q47, Q48, Q49, Q50, Q51, Q52, Q53, Q54, Q55, Q56, Q57, Q58, Q59, Q60, Q61, Q62, Q63, Q64, Q65, Q66, Q67, Q68, Q69, Q70, Q71, Q72, Q73, Q99, Q100, Q101, Q102, Q103, Q74, Q75, Q77, Q78, Q79, Q80, Q81, Q82, Q83, Q84, clr, List.length_nil, List.length_cons, List.getElem?_cons_zero, List.getElem?_cons_succ, Nat.reduceAdd, Nat.zero_add, Nat.add_zero, Nat.reduceLeDiff, Nat.reduceSub, ↓reduceIte, List.drop_succ_cons, List.drop_zero, List.take_succ_cons, List.take_zero, Bool.false_eq_true, List.nil_append, List.cons_append, Bool.not_true, Bool.not_false, cond_true, cond_false, bne, Q85, Q86, Q87, Q88, Q89, Q90, Q91, Q92, Q93, Q94, Q95, Q96, Q97, Q98, Q110, Q111, Q116, Q117, Q118, Q119, Q120, Q121, Q122, Q123, Option.map_some, Option.map_none, Q34])
  exact ⟨e, v', h', g1, g3⟩
theorem rready_ok {c d : AV} {l : List En} {op : List (List Int)} (hc : Lg c l) (hd : Nss d op) : callW F 18 [c, d] [] = some (.v (.int .i64 (readyL l op)), []) := by
  have q1 := fun H => hc.len H
  have q2 := fun H => hd.len H
  cases op with
  | nil =>
    refine callW_pure (c := c18) rfl rfl 0 ?_
    have z : ((([] : List (List Int)).length : Int) == 0) = true := rfl
    generalize ([] : List (List Int)).length = n0 at q2 z
    simp only [c18, start, List.replicate, c18_0, c18_1, c18_2, q1, q2, z, readyL, Q0, Q1, Q2, Q3, Q4, Q5, Q6, Q7, Q8, Q9, Q10, Q11, Q12, Q13, Q14, Q15, Q16, Q17, Q18, Q19, Q20, Q21, Q22, Q23, Q24, Q25, Q26, Q27, Q28, Q29, Q30, Q31, Q32, Q33, Q35, Q36, Q37, Q38, Q39, Q40, Q41, Q42, Q43, Q44, Q45, Q46, Q47, Q48, Q49, Q50, Q51, Q52, Q53, Q54, Q55, Q56, Q57, Q58, Q59, Q60, Q61, Q62, Q63, Q64, Q65, Q66, Q67, Q68, Q69, Q70, Q71, Q72, Q73, Q99, Q100, Q101, Q102, Q103, Q74, Q75, Q77, Q78, Q79, Q80, Q81, Q82, Q83, Q84, clr, List.length_nil, List.length_cons, List.getElem?_cons_zero, List.getElem?_cons_succ, Nat.reduceAdd, Nat.zero_add, Nat.add_zero, Nat.reduceLeDiff, Nat.reduceSub, ↓reduceIte, List.drop_succ_cons, List.drop_zero, List.take_succ_cons, List.take_zero, Bool.false_eq_true, List.nil_append, List.cons_append, Bool.not_true, Bool.not_false, cond_true, cond_false, bne, Q85, Q86, Q87, Q88, Q89, Q90, Q91, Q92, Q93, Q94, Q95, Q96, Q97, Q98, Q110, Q111, Q116, Q117, Q118, Q119, Q120, Q121, Q122, Q123, Option.map_some, Option.map_none, Q34]
  | cons o ll =>
    obtain ⟨d0, e0, n0⟩ := hd.at (i := 0) (by simp)
    simp only [List.getElem_cons_zero] at n0
    have hle : leastL o (o :: ll) = leastL o ll := by rw [leastL, if_neg (by simp [cmp_refl])]
    have k0 : natV (.v (.int .i64 0)) = some 0 := rfl
    have z : (((o :: ll).length : Int) == 0) = false := by simp; omega
    obtain ⟨m, hm, lp⟩ := least_loop (K := l.length + (o :: ll).length + 1) (s := c) hd n0 (by omega) [c, d, .v (.int .i64 0), d0, .v undef, .v undef, .v undef, .v (.bool false), d, .v (.int .i64 (o :: ll).length), .v (.int .i64 0), .v undef, .v undef, .v undef, .v undef, .v undef, .v undef, .v undef] rfl
    rw [hle] at hm
    obtain ⟨e, v', h', lp2, g⟩ := stand_loop (K := l.length + (o :: ll).length + 1) hc hm (by omega) [c, .junk, .junk, m, .junk, .junk, .junk, .junk, d, .v (.int .i64 (o :: ll).length), .v (.int .i64 (o :: ll).length), .v (.bool false), .junk, c, .v (.int .i64 l.length), .v (.int .i64 0), .junk, .junk] rfl
    have hbody : c18.body = (.seq (.region [] [] c18_0) (.seq (.seq (.region [] [] c18_1) (.cond (.var 7) (.seq (.region [] [] c18_2) .ret) .skip)) (.seq (.region [] [] c18_3) (.seq (.seq (.region [] [] c18_4) (.block 0 (.loop K18 [] c18_10))) (.seq (.seq (.region [] [] c18_11) (.block 2 (.loop K18b [] c18_17))) (.seq (.region [] [] c18_18) .ret)))))) := rfl
    have hres : c18.res = [.var 2] := rfl
    simp only [readyL]
    rw [← tw_eq]
    simp only [V18] at lp
    generalize (o :: ll).length = n1 at q2 z lp lp2
    refine callW_pure (c := c18) rfl rfl (l.length + n1 + 1) ?_
    rw [hbody, hres]
    generalize c18_10 = bb at lp ⊢
    generalize c18_17 = bb2 at lp2 ⊢
    rcases g with ⟨rfl, g⟩ | ⟨rfl, g, rfl⟩
    · generalize (CC.seq (.region [] [] c18_18) .ret) = rest
      simp only [c18, start, List.replicate, c18_0, c18_1, c18_3, c18_4, c18_11, q1, q2, z, e0, k0, ip_ld, lp, lp2, Q0, Q1, Q2, Q3, Q4, Q5, Q6, Q7, Q8, Q9, Q10, Q11, Q12, Q13, Q14, Q15, Q16, Q17, Q18, Q19, Q20, Q21, Q22, Q23, Q24, Q25, Q26, Q27, Q28, Q29, Q30, Q31, Q32, Q33, Q35, Q36, Q37, Q38, Q39, Q40, Q41, Q42, Q43, Q44, Q45, Q46, Q47, Q48, Q49, Q50, Q51, Q52, Q53, Q54, Q55, Q56, Q57, Q58, Q59, Q60, Q61, Q62, Q63, Q64, Q65, Q66, Q67, Q68, Q69, Q70, Q71, Q72, Q73, Q99, Q100, Q101, Q102, Q103, Q74, Q75, Q77, Q78, Q79, Q80, Q81, Q82, Q83, Q84, clr, List.length_nil, List.length_cons, List.getElem?_cons_zero, List.getElem?_cons_succ, Nat.reduceAdd, Nat.zero_add, Nat.add_zero, Nat.reduceLeDiff, Nat.reduceSub, ↓reduceIte, List.drop_succ_cons, List.drop_zero, List.take_succ_cons, List.take_zero, Bool.false_eq_true, List.nil_append, List.cons_append, Bool.not_true, Bool.not_false, cond_true, cond_false, bne, Q85, Q86, Q87, Q88, Q89, Q90, Q91, Q92, Q93, Q94, Q95, Q96, Q97, Q98, Q110, Q111, Q116, Q117, Q118, Q119, Q120, Q121, Q122, Q123, Option.map_some, Option.map_none, Q34]
      exact lv1_one g
    · simp only [V18b] at lp2
      rw [g]
      simp only [c18, start, List.replicate, c18_0, c18_1, c18_3, c18_4, c18_11, c18_18, q1, q2, z, e0, k0, ip_ld, lp, lp2, Q0, Q1, Q2, Q3, Q4, Q5, Q6, Q7, Q8, Q9, Q10, Q11, Q12, Q13, Q14, Q15, Q16, Q17, Q18, Q19, Q20, Q21, Q22, Q23, Q24, Q25, Q26, Q27, Q28, Q29, Q30, Q31, Q32, Q33, Q35, Q36, Q37, Q38, Q39, Q40, Q41, Q42, Q43, Q44, Q45, Q46, Q47, Q48, Q49, Q50, Q51, Q52, Q53, Q54, Q55, Q56, Q57, Q58, Q59, Q60, Q61, Q62, Q63, Q64, Q65, Q66, Q67, Q68, Q69, Q70, Q71, Q72, Q73, Q99, Q100, Q101, Q102, Q103, Q74, Q75, Q77, Q78, Q79, Q80, Q81, Q82, Q83, Q84, clr, List.length_nil, List.length_cons, List.getElem?_cons_zero, List.getElem?_cons_succ, Nat.reduceAdd, Nat.zero_add, Nat.add_zero, Nat.reduceLeDiff, Nat.reduceSub, ↓reduceIte, List.drop_succ_cons, List.drop_zero, List.take_succ_cons, List.take_zero, Bool.false_eq_true, List.nil_append, List.cons_append, Bool.not_true, Bool.not_false, cond_true, cond_false, bne, Q85, Q86, Q87, Q88, Q89, Q90, Q91, Q92, Q93, Q94, Q95, Q96, Q97, Q98, Q110, Q111, Q116, Q117, Q118, Q119, Q120, Q121, Q122, Q123, Option.map_some, Option.map_none, Q34]
end Go.AE.Ytkdjdhfoodlnfaa
end

/-! Events, the document's Events, SameEvents: walked. -/
section
set_option linter.unusedVariables false
set_option linter.unusedSimpArgs false
namespace Go.AE.Ytkdjdhfoodlnfaa
open Go Go.AE Go.Proofs.Ytkdjdhfoodlnfaa

inductive IsEv : AV → En → Prop
  | mk (lab : List Int) (k : Int) (d : AV) (ts : List Tm) (hd : IsL d ts) (e : Int) : IsEv (.agg [.v (.int .i64 k), d, .v (.int .i64 e)]) ⟨lab, k, ts, e⟩
theorem ev_cl {d : AV} {ts : List Tm} (h : IsL d ts) (k e : Int) : (AV.agg [.v (.int .i64 k), d, .v (.int .i64 e)]).cl = some [.v (.int .i64 k), d, .v (.int .i64 e)] := by cases h <;> rfl
theorem blk10 {v : List AV} {h : List AO} : blk 1 (some (.exit 0, v, h)) = some (.exit 0, v, h) := rfl
def evL : List En → List En
  | [] => []
  | x :: l => if (x.kind == 3) = true then [x] else x :: evL l
theorem ev_len : ∀ (l : List En), (evL l).length ≤ l.length
  | [] => Nat.le_refl _
  | x :: l => by
    have := ev_len l
    rw [evL, List.length_cons]
    split
    · simp
    · rw [List.length_cons]; omega
def K20 : List Bool := [false, false, true, false, true, true, true, false, false]
def V20 (s c : AV) (len i : Int) : List AV := [.junk, .junk, c, .junk, s, .v (.int .i64 len), .v (.int .i64 i), .junk, .junk]
section
variable {K : Nat} {s : AV} {l : List En}
theorem ev_loop (hs : Lg s l) (hl : l.length ≤ 1000) (hK : l.length < K) (v : List AV) (h0 : List AO) (hv : clr K20 v = V20 s (.v (.slice none 0 0)) l.length 0) :
    ∃ e v' h' c es, loopN (exec (callW F) K c20_9) K20 K v h0 = some (e, v', h') ∧ Acc 27 3 h' c es ∧ AllR IsEv es (evL l) ∧ ((e = .ret ∧ getO v' [] (.var 1) = c) ∨ (e = .exit 0 ∧ v' = [.junk, .junk, c, .junk, s, .v (.int .i64 l.length), .v (.int .i64 l.length), .v (.bool false), .junk])) := by
  obtain ⟨e, v', h', g1, g2, c, es, g3, g4, g5⟩ := loop_rule0 (call := callW F) (K := K) (b := c20_9) (keep := K20) (fun i v h => ∃ c es acc, v = V20 s c l.length i ∧ Acc 27 3 h c es ∧ AllR IsEv es acc ∧ es.length ≤ i ∧ acc ++ evL (l.drop i) = evL l)
    (fun e v h' => ∃ c es, Acc 27 3 h' c es ∧ AllR IsEv es (evL l) ∧ ((e = .ret ∧ getO v [] (.var 1) = c) ∨ (e = .exit 0 ∧ v = [.junk, .junk, c, .junk, s, .v (.int .i64 l.length), .v (.int .i64 l.length), .v (.bool false), .junk]))) l.length (m := K) (v := v) (h := h0) hK ⟨_, [], [], hv, .nil, .nil, Nat.le_refl _, rfl⟩ (by
      rintro i v h' hi ⟨c, es, acc, rfl, hA, hR, hel, hac⟩
      by_cases hil : i < l.length
      · have hlt := lt_t hil
        have hw := wrap_succ hil hs.max
        obtain ⟨c1, k, dd, e, e1, n1, y1, t1, y2⟩ := hs.at hil
        have hE := IsEn.mk c1 l[i].lab n1 k dd l[i].terms t1 e
        have hV := IsEv.mk l[i].lab k dd l[i].terms t1 e
        have hxe : (⟨l[i].lab, k, l[i].terms, e⟩ : En) = l[i] := by rw [y1, y2]
        have z : (ofVal (.agg #[.slice none 0 0, .int .i64 0, .slice none 0 0, .int .i64 0])).cl = some [.v (.slice none 0 0), .v (.int .i64 0), .v (.slice none 0 0), .v (.int .i64 0)] := by kernel_rfl
        have cl := hE.cl
        simp only [AV.cells] at cl
        have clv := ev_cl t1 k e
        have sv := fun H => ev3_sn t1 (k := k) (e := e) H
        have bz : ∀ h : List AO, bs1 h 3 (some (.agg [.v (.int .i64 k), dd, .v (.int .i64 e)])) = some (.slc 3 true true [.agg [.v (.int .i64 k), dd, .v (.int .i64 e)]], h) := fun h => bs1_some clv rfl
        have st : Q113 (h' ++ [.box 29 [.v (.slice none 0 0), .v (.int .i64 0), .v (.slice none 0 0), .v (.int .i64 0)]]) 4 (.ptr h'.length 0) (.agg [c1, .v (.int .i64 k), dd, .v (.int .i64 e)]) = some (h' ++ [.box 29 [c1, .v (.int .i64 k), dd, .v (.int .i64 e)]]) := st_new cl rfl rfl
        have ld3 : Q76 (h' ++ [.box 29 [c1, .v (.int .i64 k), dd, .v (.int .i64 e)]]) true 3 (.ptr h'.length 1) = some (.agg [.v (.int .i64 k), dd, .v (.int .i64 e)]) := by rw [ld_new]; rfl
        have hA' : Acc 27 3 (h' ++ [.box 29 [c1, .v (.int .i64 k), dd, .v (.int .i64 e)]]) c es := by
          cases hA with
          | nil => exact .nil
          | own id ver k es hr hk hne => exact .own id ver k es (his_get hr) hk hne
        obtain ⟨c', h2, f1, f2, f3⟩ := hA'.add' (bytes := 40) (x := .slc 3 true true [.agg [.v (.int .i64 k), dd, .v (.int .i64 e)]]) (ys := [.agg [.v (.int .i64 k), dd, .v (.int .i64 e)]]) rfl (fits_small (by simp only [List.length_cons, List.length_nil]; omega) (by omega))
        have lk : Q76 h2 false 1 (.ptr h'.length 1) = some (.v (.int .i64 k)) := by
          rw [bx_ld (f3.box (cs := [c1, .v (.int .i64 k), dd, .v (.int .i64 e)]) (bt := 29) (by simp))]; rfl
        have hR' := AllR.app hR (.one (hxe ▸ hV) : AllR IsEv [.agg [.v (.int .i64 k), dd, .v (.int .i64 e)]] [l[i]])
        rw [List.drop_eq_getElem_cons hil, evL] at hac
        cases hq : (k == 3) with
        | true =>
          rw [← y1, hq, if_pos rfl] at hac
          refine ⟨.ret, [.junk, c', c', .ptr h'.length 0, s, .v (.int .i64 l.length), .v (.int .i64 i), .v (.bool true), .v (.bool true)], h2, ?_, c', _, f2, hac ▸ hR', .inl ⟨rfl, rfl⟩⟩
          simp only [V20, c20_9, c20_3, c20_4, c20_5, c20_6, c20_7, hlt, e1, ip_ld4, z, st, ld3, lk, sv, bz, hq, Q104, e_append, f1, Q0, Q1, Q2, Q3, Q4, Q5, Q6, Q7, Q8, Q9, Q10, Q11, Q12, Q13, Q14, Q15, Q16, Q17, Q18, Q19, Q20, Q21, Q22, Q23, Q24, Q25, Q26, Q27, Q28, Q29, Q30, Q31, Q32, Q33, Q35, Q36, Q37, Q38, Q39, Q40, Q41, Q42, Q43, Q44, Q45, Q46, Q47, Q48, Q49, Q50, Q51, Q52, Q53, Q54, Q55, Q56, Q57, Q58, Q59, Q60, Q61, Q62, Q63, Q64, Q65, Q66, Q67, Q68, Q69, Q70, Q71, Q72, Q73, Q99, Q100, Q101, Q102, Q103, Q74, Q75, Q77, Q78, Q79, Q80, Q81, Q82, Q83, Q84, clr, List.length_nil, List.length_cons, List.getElem?_cons_zero, List.getElem?_cons_succ, Nat.reduceAdd, Nat.zero_add, Nat.add_zero, Nat.reduceLeDiff, Nat.reduceSub, ↓reduceIte, List.drop_succ_cons, List.drop_zero, List.take_succ_cons, List.take_zero, Bool.false_eq_true, List.nil_append, List.cons_append, Bool.not_true, Bool.not_false, cond_true, cond_false, bne, Q85, Q86, Q87, Q88, Q89, Q90, Q91, Q92, Q93, Q94, Q95, Q96, Q97, Q98, Q110, Q111, Q116, Q117, Q118, Q119, Q120, Q121, Q122, Q123, Option.map_some, Option.map_none, Q34]
        | false =>
          rw [← y1, hq, if_neg (by simp)] at hac
          refine ⟨.normal, [.junk, .junk, c', .ptr h'.length 0, s, .v (.int .i64 l.length), .v (.int .i64 ((i + 1 : Nat) : Int)), .v (.bool true), .v (.bool false)], h2, ?_, hil, c', _, acc ++ [l[i]], rfl, f2, hR', by simp only [List.length_append, List.length_cons, List.length_nil]; omega, by rw [List.append_assoc]; exact hac⟩
          simp only [V20, c20_9, c20_3, c20_4, c20_5, c20_6, c20_8, hlt, hw, e1, ip_ld4, z, st, ld3, lk, sv, bz, hq, Q104, e_append, f1, Q0, Q1, Q2, Q3, Q4, Q5, Q6, Q7, Q8, Q9, Q10, Q11, Q12, Q13, Q14, Q15, Q16, Q17, Q18, Q19, Q20, Q21, Q22, Q23, Q24, Q25, Q26, Q27, Q28, Q29, Q30, Q31, Q32, Q33, Q35, Q36, Q37, Q38, Q39, Q40, Q41, Q42, Q43, Q44, Q45, Q46, Q47, Q48, Q49, Q50, Q51, Q52, Q53, Q54, Q55, Q56, Q57, Q58, Q59, Q60, Q61, Q62, Q63, Q64, Q65, Q66, Q67, Q68, Q69, Q70, Q71, Q72, Q73, Q99, Q100, Q101, Q102, Q103, Q74, Q75, Q77, Q78, Q79, Q80, Q81, Q82, Q83, Q84, clr, List.length_nil, List.length_cons, List.getElem?_cons_zero, List.getElem?_cons_succ, Nat.reduceAdd, Nat.zero_add, Nat.add_zero, Nat.reduceLeDiff, Nat.reduceSub, ↓reduceIte, List.drop_succ_cons, List.drop_zero, List.take_succ_cons, List.take_zero, Bool.false_eq_true, List.nil_append, List.cons_append, Bool.not_true, Bool.not_false, cond_true, cond_false, bne, Q85, Q86, Q87, Q88, Q89, Q90, Q91, Q92, Q93, Q94, Q95, Q96, Q97, Q98, Q110, Q111, Q116, Q117, Q118, Q119, Q120, Q121, Q122, Q123, Option.map_some, Option.map_none, Q34]
      · have hie : i = l.length := by omega
        subst hie
        have hlt := lt_f (n := l.length)
        rw [List.drop_length, evL, List.append_nil] at hac
        refine ⟨.exit 0, [.junk, .junk, c, .junk, s, .v (.int .i64 l.length), .v (.int .i64 l.length), .v (.bool false), .junk], h', ?_, c, es, hA, hac ▸ hR, .inr ⟨rfl, rfl⟩⟩
        simp only [V20, c20_9, c20_3, hlt, Q0, Q1, Q2, Q3, Q4, Q5, Q6, Q7, Q8, Q9, Q10, Q11, Q12, Q13, Q14, Q15, Q16, Q17, Q18, Q19, Q20, Q21, Q22, Q23, Q24, Q25, Q26, Q27, Q28, Q29, Q30, Q31, Q32, Q33, Q35, Q36, Q37, Q38, Q39, Q40, Q41, Q42, Q43, Q44, Q45, Q46, Q47, Q48, Q49, Q50, Q51, Q52, Q53, Q54, Q55, Q56, Q57, Q58, Q59, Q60, Q61, Q62, Q63, Q64, Q65, Q66, Q67, Q68, Q69, Q70, Q71, Q72, Q73, Q99, Q100, Q101, Q102, Q103, Q74, Q75, Q77, Q78, Q79, Q80, Q81, Q82, Q83, Q84, clr, List.length_nil, List.length_cons, List.getElem?_cons_zero, List.getElem?_cons_succ, Nat.reduceAdd, Nat.zero_add, Nat.add_zero, Nat.reduceLeDiff, Nat.reduceSub, ↓reduceIte, List.drop_succ_cons, List.drop_zero, List.take_succ_cons, List.take_zero, Bool.false_eq_true, List.nil_append, List.cons_append, Bool.not_true, Bool.not_false, cond_true, cond_false, bne, Q85, Q86, Q87, Q88, Q89, Q90, Q91, Q92, Q93, Q94, Q95, Q96, Q97, Q98, Q110, Q111, Q116, Q117, Q118, Q119, Q120, Q121, Q122, Q123, Option.map_some, Option.map_none, Q34])
  exact ⟨e, v', h', c, es, g1, g3, g4, g5⟩
theorem rev_loop (hs : Lg s l) (hl : l.length ≤ 1000) (hK : l.length < K) (v : List AV) (h0 : List AO) (hv : clr K20 v = V20 s (.v (.slice none 0 0)) l.length 0) :
    ∃ v' h' c es x3 x6 x7 x8, loopN (exec (callW F) K c21_8) K20 K v h0 = some (.exit 0, v', h') ∧ Acc 27 3 h' c es ∧ AllR IsEv es (evL l) ∧ v' = [.junk, .junk, c, x3, s, .v (.int .i64 l.length), x6, x7, x8] := by
  obtain ⟨e, v', h', g1, g2, rfl, c, es, x3, x6, x7, x8, g3, g4, g5⟩ := loop_rule0 (call := callW F) (K := K) (b := c21_8) (keep := K20) (fun i v h => ∃ c es acc, v = V20 s c l.length i ∧ Acc 27 3 h c es ∧ AllR IsEv es acc ∧ es.length ≤ i ∧ acc ++ evL (l.drop i) = evL l)
    (fun e v h' => e = .exit 0 ∧ ∃ c es x3 x6 x7 x8, Acc 27 3 h' c es ∧ AllR IsEv es (evL l) ∧ v = [.junk, .junk, c, x3, s, .v (.int .i64 l.length), x6, x7, x8]) l.length (m := K) (v := v) (h := h0) hK ⟨_, [], [], hv, .nil, .nil, Nat.le_refl _, rfl⟩ (by
      rintro i v h' hi ⟨c, es, acc, rfl, hA, hR, hel, hac⟩
      by_cases hil : i < l.length
      · have hlt := lt_t hil
        have hw := wrap_succ hil hs.max
        obtain ⟨c1, k, dd, e, e1, n1, y1, t1, y2⟩ := hs.at hil
        have hE := IsEn.mk c1 l[i].lab n1 k dd l[i].terms t1 e
        have hV := IsEv.mk l[i].lab k dd l[i].terms t1 e
        have hxe : (⟨l[i].lab, k, l[i].terms, e⟩ : En) = l[i] := by rw [y1, y2]
        have z : (ofVal (.agg #[.slice none 0 0, .int .i64 0, .slice none 0 0, .int .i64 0])).cl = some [.v (.slice none 0 0), .v (.int .i64 0), .v (.slice none 0 0), .v (.int .i64 0)] := by kernel_rfl
        have cl := hE.cl
        simp only [AV.cells] at cl
        have clv := ev_cl t1 k e
        have sv := fun H => ev3_sn t1 (k := k) (e := e) H
        have bz : ∀ h : List AO, bs1 h 3 (some (.agg [.v (.int .i64 k), dd, .v (.int .i64 e)])) = some (.slc 3 true true [.agg [.v (.int .i64 k), dd, .v (.int .i64 e)]], h) := fun h => bs1_some clv rfl
        have st : Q113 (h' ++ [.box 29 [.v (.slice none 0 0), .v (.int .i64 0), .v (.slice none 0 0), .v (.int .i64 0)]]) 4 (.ptr h'.length 0) (.agg [c1, .v (.int .i64 k), dd, .v (.int .i64 e)]) = some (h' ++ [.box 29 [c1, .v (.int .i64 k), dd, .v (.int .i64 e)]]) := st_new cl rfl rfl
        have ld3 : Q76 (h' ++ [.box 29 [c1, .v (.int .i64 k), dd, .v (.int .i64 e)]]) true 3 (.ptr h'.length 1) = some (.agg [.v (.int .i64 k), dd, .v (.int .i64 e)]) := by rw [ld_new]; rfl
        have hA' : Acc 27 3 (h' ++ [.box 29 [c1, .v (.int .i64 k), dd, .v (.int .i64 e)]]) c es := by
          cases hA with
          | nil => exact .nil
          | own id ver k es hr hk hne => exact .own id ver k es (his_get hr) hk hne
        obtain ⟨c', h2, f1, f2, f3⟩ := hA'.add' (bytes := 40) (x := .slc 3 true true [.agg [.v (.int .i64 k), dd, .v (.int .i64 e)]]) (ys := [.agg [.v (.int .i64 k), dd, .v (.int .i64 e)]]) rfl (fits_small (by simp only [List.length_cons, List.length_nil]; omega) (by omega))
        have lk : Q76 h2 false 1 (.ptr h'.length 1) = some (.v (.int .i64 k)) := by
          rw [bx_ld (f3.box (cs := [c1, .v (.int .i64 k), dd, .v (.int .i64 e)]) (bt := 29) (by simp))]; rfl
        have hR' := AllR.app hR (.one (hxe ▸ hV) : AllR IsEv [.agg [.v (.int .i64 k), dd, .v (.int .i64 e)]] [l[i]])
        rw [List.drop_eq_getElem_cons hil, evL] at hac
        cases hq : (k == 3) with
        | true =>
          rw [← y1, hq, if_pos rfl] at hac
          refine ⟨.exit 0, [.junk, .junk, c', .ptr h'.length 0, s, .v (.int .i64 l.length), .v (.int .i64 i), .v (.bool true), .v (.bool true)], h2, ?_, rfl, c', _, _, _, _, _, f2, hac ▸ hR', rfl⟩
          simp only [V20, c21_8, c21_3, c21_4, c21_5, c21_6, blk10, hlt, e1, ip_ld4, z, st, ld3, lk, sv, bz, hq, Q104, e_append, f1, Q0, Q1, Q2, Q3, Q4, Q5, Q6, Q7, Q8, Q9, Q10, Q11, Q12, Q13, Q14, Q15, Q16, Q17, Q18, Q19, Q20, Q21, Q22, Q23, Q24, Q25, Q26, Q27, Q28, Q29, Q30, Q31, Q32, Q33, Q35, Q36, Q37, Q38, Q39, Q40, Q41, Q42, Q43, Q44, Q45, Q46, Q47, Q48, Q49, Q50, Q51, Q52, Q53, Q54, Q55, Q56, Q57, Q58, Q59, Q60, Q61, Q62, Q63, Q64, Q65, Q66, Q67, Q68, Q69, Q70, Q71, Q72, Q73, Q99, Q100, Q101, Q102, Q103, Q74, Q75, Q77, Q78, Q79, Q80, Q81, Q82, Q83, Q84, clr, List.length_nil, List.length_cons, List.getElem?_cons_zero, List.getElem?_cons_succ, Nat.reduceAdd, Nat.zero_add, Nat.add_zero, Nat.reduceLeDiff, Nat.reduceSub, ↓reduceIte, List.drop_succ_cons, List.drop_zero, List.take_succ_cons, List.take_zero, Bool.false_eq_true, List.nil_append, List.cons_append, Bool.not_true, Bool.not_false, cond_true, cond_false, bne, Q85, Q86, Q87, Q88, Q89, Q90, Q91, Q92, Q93, Q94, Q95, Q96, Q97, Q98, Q110, Q111, Q116, Q117, Q118, Q119, Q120, Q121, Q122, Q123, Option.map_some, Option.map_none, Q34]
        | false =>
          rw [← y1, hq, if_neg (by simp)] at hac
          refine ⟨.normal, [.junk, .junk, c', .ptr h'.length 0, s, .v (.int .i64 l.length), .v (.int .i64 ((i + 1 : Nat) : Int)), .v (.bool true), .v (.bool false)], h2, ?_, hil, c', _, acc ++ [l[i]], rfl, f2, hR', by simp only [List.length_append, List.length_cons, List.length_nil]; omega, by rw [List.append_assoc]; exact hac⟩
          simp only [V20, c21_8, c21_3, c21_4, c21_5, c21_6, c21_7, hlt, hw, e1, ip_ld4, z, st, ld3, lk, sv, bz, hq, Q104, e_append, f1, Q0, Q1, Q2, Q3, Q4, Q5, Q6, Q7, Q8, Q9, Q10, Q11, Q12, Q13, Q14, Q15, Q16, Q17, Q18, Q19, Q20, Q21, Q22, Q23, Q24, Q25, Q26, Q27, Q28, Q29, Q30, Q31, Q32, Q33, Q35, Q36, Q37, Q38, Q39, Q40, Q41, Q42, Q43, Q44, Q45, Q46, Q47, Q48, Q49, Q50, Q51, Q52, Q53, Q54, Q55, Q56, Q57, Q58, Q59, Q60, Q61, Q62, Q63, Q64, Q65, Q66, Q67, Q68, Q69, Q70, Q71, Q72, Q73, Q99, Q100, Q101, Q102, Q103, Q74, Q75, Q77, Q78, Q79, Q80, Q81, Q82, Q83, Q84, clr, List.length_nil, List.length_cons, List.getElem?_cons_zero, List.getElem?_cons_succ, Nat.reduceAdd, Nat.zero_add, Nat.add_zero, Nat.reduceLeDiff, Nat.reduceSub, ↓reduceIte, List.drop_succ_cons, List.drop_zero, List.take_succ_cons, List.take_zero, Bool.false_eq_true, List.nil_append, List.cons_append, Bool.not_true, Bool.not_false, cond_true, cond_false, bne, Q85, Q86, Q87, Q88, Q89, Q90, Q91, Q92, Q93, Q94, Q95, Q96, Q97, Q98, Q110, Q111, Q116, Q117, Q118, Q119, Q120, Q121, Q122, Q123, Option.map_some, Option.map_none, Q34]
      · have hie : i = l.length := by omega
        subst hie
        have hlt := lt_f (n := l.length)
        rw [List.drop_length, evL, List.append_nil] at hac
        refine ⟨.exit 0, [.junk, .junk, c, .junk, s, .v (.int .i64 l.length), .v (.int .i64 l.length), .v (.bool false), .junk], h', ?_, rfl, c, es, _, _, _, _, hA, hac ▸ hR, rfl⟩
        simp only [V20, c21_8, c21_3, hlt, Q0, Q1, Q2, Q3, Q4, Q5, Q6, Q7, Q8, Q9, Q10, Q11, Q12, Q13, Q14, Q15, Q16, Q17, Q18, Q19, Q20, Q21, Q22, Q23, Q24, Q25, Q26, Q27, Q28, Q29, Q30, Q31, Q32, Q33, Q35, Q36, Q37, Q38, Q39, Q40, Q41, Q42, Q43, Q44, Q45, Q46, Q47, Q48, Q49, Q50, Q51, Q52, Q53, Q54, Q55, Q56, Q57, Q58, Q59, Q60, Q61, Q62, Q63, Q64, Q65, Q66, Q67, Q68, Q69, Q70, Q71, Q72, Q73, Q99, Q100, Q101, Q102, Q103, Q74, Q75, Q77, Q78, Q79, Q80, Q81, Q82, Q83, Q84, clr, List.length_nil, List.length_cons, List.getElem?_cons_zero, List.getElem?_cons_succ, Nat.reduceAdd, Nat.zero_add, Nat.add_zero, Nat.reduceLeDiff, Nat.reduceSub, ↓reduceIte, List.drop_succ_cons, List.drop_zero, List.take_succ_cons, List.take_zero, Bool.false_eq_true, List.nil_append, List.cons_append, Bool.not_true, Bool.not_false, cond_true, cond_false, bne, Q85, Q86, Q87, Q88, Q89, Q90, Q91, Q92, Q93, Q94, Q95, Q96, Q97, Q98, Q110, Q111, Q116, Q117, Q118, Q119, Q120, Q121, Q122, Q123, Option.map_some, Option.map_none, Q34])
  exact ⟨v', h', c, es, x3, x6, x7, x8, g1, g3, g4, g5⟩
end
theorem acc_leave3 {h : List AO} {rt : TypeId} {c : AV} {es : List AV} (hA : Acc rt 3 h c es) : ∃ r, lvf h c = some (r, []) ∧ Sl 3 r es := by
  cases hA with
  | nil => exact ⟨_, rfl, .nil⟩
  | own id ver k es hr hk hne =>
    have := lvf_own (n := es.length) hr (Nat.le_refl _)
    rw [List.take_length] at this
    exact ⟨_, this, .slc _ _ _⟩
theorem lv1_of {h : List AO} {vars : List AV} {i : Nat} {x r : AV} (hx : getO vars [] (.var i) = x) (hl : lvf h x = some (r, [])) : lv [.var i] (some (.ret, vars, h)) = some (r, []) := by
  simp only [Q85, Q87, hx, hl]
theorem events_ok {s : AV} {l : List En} (hs : Lg s l) (hl : l.length ≤ 1000) : ∃ r es, Sl 3 r es ∧ AllR IsEv es (evL l) ∧ callW F 20 [s] [] = some (r, []) := by
  have q1 := fun H => hs.len H
  obtain ⟨e, v', h', c, es, lp, hA, hR, g⟩ := ev_loop (K := l.length + 1) hs hl (by omega) [s, .v (.slice none 0 0), .v (.slice none 0 0), .v undef, s, .v (.int .i64 l.length), .v (.int .i64 0), .v undef, .v undef] [] rfl
  obtain ⟨r, lf, hr⟩ := acc_leave3 hA
  refine ⟨r, es, hr, hR, callW_pure (c := c20) rfl rfl (l.length + 1) ?_⟩
  rw [show c20.body = (.seq (.region [] [] c20_0) (.seq (.region [] [] c20_1) (.seq (.seq (.region [] [] c20_2) (.block 0 (.loop K20 [] c20_9))) (.seq (.region [] [] c20_10) .ret)))) from rfl, show c20.res = [.var 1] from rfl]
  generalize c20_9 = bb at lp ⊢
  rcases g with ⟨rfl, g⟩ | ⟨rfl, rfl⟩
  · generalize (CC.seq (.region [] [] c20_10) .ret) = rest
    simp only [c20, start, List.replicate, c20_0, c20_1, c20_2, q1, lp, Q0, Q1, Q2, Q3, Q4, Q5, Q6, Q7, Q8, Q9, Q10, Q11, Q12, Q13, Q14, Q15, Q16, Q17, Q18, Q19, Q20, Q21, Q22, Q23, Q24, Q25, Q26, Q27, Q28, Q29, Q30, Q31, Q32, Q33, Q35, Q36, Q37, Q38, Q39, Q40, Q41, Q42, Q43, Q44, Q45, Q46, Q47, Q48, Q49, Q50, Q51, Q52, Q53, Q54, Q55, Q56, Q57, Q58, Q59, Q60, Q61, Q62, Q63, Q64, Q65, Q66, Q67, Q68, Q69, Q70, Q71, Q72, Q73, Q99, Q100, Q101, Q102, Q103, Q74, Q75, Q77, Q78, Q79, Q80, Q81, Q82, Q83, Q84, clr, List.length_nil, List.length_cons, List.getElem?_cons_zero, List.getElem?_cons_succ, Nat.reduceAdd, Nat.zero_add, Nat.add_zero, Nat.reduceLeDiff, Nat.reduceSub, ↓reduceIte, List.drop_succ_cons, List.drop_zero, List.take_succ_cons, List.take_zero, Bool.false_eq_true, List.nil_append, List.cons_append, Bool.not_true, Bool.not_false, cond_true, cond_false, bne, Q85, Q86, Q87, Q88, Q89, Q90, Q91, Q92, Q93, Q94, Q95, Q96, Q97, Q98, Q110, Q111, Q116, Q117, Q118, Q119, Q120, Q121, Q122, Q123, Option.map_some, Option.map_none, Q34]
    exact lv1_of g lf
  · simp only [c20, start, List.replicate, c20_0, c20_1, c20_2, c20_10, q1, lp, lf, Q0, Q1, Q2, Q3, Q4, Q5, Q6, Q7, Q8, Q9, Q10, Q11, Q12, Q13, Q14, Q15, Q16, Q17, Q18, Q19, Q20, Q21, Q22, Q23, Q24, Q25, Q26, Q27, Q28, Q29, Q30, Q31, Q32, Q33, Q35, Q36, Q37, Q38, Q39, Q40, Q41, Q42, Q43, Q44, Q45, Q46, Q47, Q48, Q49, Q50, Q51, Q52, Q53, Q54, Q55, Q56, Q57, Q58, Q59, Q60, Q61, Q62, Q63, Q64, Q65, Q66, Q67, Q68, Q69, Q70, Q71, Q72, Q73, Q99, Q100, Q101, Q102, Q103, Q74, Q75, Q77, Q78, Q79, Q80, Q81, Q82, Q83, Q84, clr, List.length_nil, List.length_cons, List.getElem?_cons_zero, List.getElem?_cons_succ, Nat.reduceAdd, Nat.zero_add, Nat.add_zero, Nat.reduceLeDiff, Nat.reduceSub, ↓reduceIte, List.drop_succ_cons, List.drop_zero, List.take_succ_cons, List.take_zero, Bool.false_eq_true, List.nil_append, List.cons_append, Bool.not_true, Bool.not_false, cond_true, cond_false, bne, Q85, Q86, Q87, Q88, Q89, Q90, Q91, Q92, Q93, Q94, Q95, Q96, Q97, Q98, Q110, Q111, Q116, Q117, Q118, Q119, Q120, Q121, Q122, Q123, Option.map_some, Option.map_none, Q34]
theorem revents_ok {s : AV} {l : List En} (hs : Lg s l) (hl : l.length ≤ 1000) : ∃ r es, Sl 3 r es ∧ AllR IsEv es (evL l) ∧ callW F 21 [s] [] = some (r, []) := by
  have q1 := fun H => hs.len H
  obtain ⟨v', h', c, es, x3, x6, x7, x8, lp, hA, hR, rfl⟩ := rev_loop (K := l.length + 1) hs hl (by omega) [s, .v (.slice none 0 0), .v (.slice none 0 0), .v undef, s, .v (.int .i64 l.length), .v (.int .i64 0), .v undef, .v undef] [] rfl
  obtain ⟨r, lf, hr⟩ := acc_leave3 hA
  refine ⟨r, es, hr, hR, callW_pure (c := c21) rfl rfl (l.length + 1) ?_⟩
  rw [show c21.body = (.seq (.region [] [] c21_0) (.seq (.region [] [] c21_1) (.seq (.seq (.region [] [] c21_2) (.block 0 (.loop K20 [] c21_8))) (.seq (.region [] [] c21_9) .ret)))) from rfl]
  generalize c21_8 = bb at lp ⊢
  simp only [c21, start, List.replicate, c21_0, c21_1, c21_2, c21_9, q1, lp, lf, Q0, Q1, Q2, Q3, Q4, Q5, Q6, Q7, Q8, Q9, Q10, Q11, Q12, Q13, Q14, Q15, Q16, Q17, Q18, Q19, Q20, Q21, Q22, Q23, Q24, Q25, Q26, Q27, Q28, Q29, Q30, Q31, Q32, Q33, Q35, Q36, Q37, Q38, Q39, Q40, Q41, Q42, Q43, Q44, Q45, Q46, Q47, Q48, Q49, Q50, Q51, Q52, Q53, Q54, Q55, Q56, Q57, Q58, Q59, Q60, Q61, Q62, Q63, Q64, Q65, Q66, Q67, Q68, Q69, Q70, Q71, Q72, Q73, Q99, Q100, Q101, Q102, Q103, Q74, Q75, Q77, Q78, Q79, Q80, Q81, Q82, Q83, Q84, clr, List.length_nil, List.length_cons, List.getElem?_cons_zero, List.getElem?_cons_succ, Nat.reduceAdd, Nat.zero_add, Nat.add_zero, Nat.reduceLeDiff, Nat.reduceSub, ↓reduceIte, List.drop_succ_cons, List.drop_zero, List.take_succ_cons, List.take_zero, Bool.false_eq_true, List.nil_append, List.cons_append, Bool.not_true, Bool.not_false, cond_true, cond_false, bne, Q85, Q86, Q87, Q88, Q89, Q90, Q91, Q92, Q93, Q94, Q95, Q96, Q97, Q98, Q110, Q111, Q116, Q117, Q118, Q119, Q120, Q121, Q122, Q123, Option.map_some, Option.map_none, Q34]
def V19 (c d : AV) (n i : Int) (x7 : AV) : List AV := [c, d, .junk, .junk, .junk, .v (.int .i64 n), .v (.int .i64 i), x7, .junk]
def K19 : List Bool := [true, true, false, false, false, true, true, false, false]
theorem sameev_ok {c d : AV} {es ds : List AV} {l : List En} (hc : Sl 3 c es) (hd : Sl 3 d ds) (he : AllR IsEv es l) (hf : AllR IsEv ds l) (hm : l.length ≤ maxLen) : callW F 19 [c, d] [] = some (.v (.bool true), []) := by
  have q1 := fun H => hc.len H
  have q2 := fun H => hd.len H
  rw [he.length] at q1
  rw [hf.length] at q2
  have tsr : ∀ l : List Tm, tsS l l = true := fun l => (same_iff _ _ _ (Nat.lt_succ_self _)).2 rfl
  obtain ⟨e, v', h', g1, g2, rfl, rfl, rfl⟩ := loop_rule0 (call := callW F) (K := l.length + 1) (b := c19_9) (keep := K19)
    (fun i v h => v = V19 c d l.length i .junk ∧ h = [])
    (fun e v h => e = .exit 0 ∧ h = [] ∧ v = V19 c d l.length l.length (.v (.bool false)))
    l.length (m := l.length + 1) (v := [c, d, .v (.bool false), .v undef, .v (.bool false), .v (.int .i64 l.length), .v (.int .i64 0), .v undef, .v undef]) (h := []) (by omega) ⟨rfl, rfl⟩ (by
      rintro i v h hi ⟨rfl, rfl⟩
      by_cases hil : i < l.length
      · have hlt := lt_t hil
        have hw := wrap_succ (i := i) (len := l.length) hil hm
        obtain ⟨a, a1, a2⟩ := he.get' (List.getElem?_eq_getElem hil)
        obtain ⟨b, b1, b2⟩ := hf.get' (List.getElem?_eq_getElem hil)
        have i1 := fun H => hc.ia a1 H
        have i2 := fun H => hd.ia b1 H
        generalize l[i] = x at a2 b2
        cases a2 with
        | mk lab k dd ts t1 e =>
        cases b2 with
        | mk _ _ dd2 _ t2 _ =>
        have hev := event_ok (k := k) (e := e) (k' := k) (e' := e) t1 t2
        rw [evS, tsr] at hev
        simp only [beq_self_eq_true, Bool.and_self] at hev
        have s3 := fun H => ev3_sn t1 (k := k) (e := e) H
        have s4 := fun H => ev3_sn t2 (k := k) (e := e) H
        simp only [AV.cells] at i1 i2
        refine ⟨.normal, [c, d, .junk, .v (.int .i64 i), .junk, .v (.int .i64 l.length), .v (.int .i64 ((i + 1 : Nat) : Int)), .v (.bool true), .v (.bool false)], [], ?_, hil, rfl, rfl⟩
        simp only [V19, c19_9, c19_4, c19_5, c19_6, c19_8, hlt, hw, i1, i2, ip_ld3, s3, s4, hev, Q0, Q1, Q2, Q3, Q4, Q5, Q6, Q7, Q8, Q9, Q10, Q11, Q12, Q13, Q14, Q15, Q16, Q17, Q18, Q19, Q20, Q21, Q22, Q23, Q24, Q25, Q26, Q27, Q28, Q29, Q30, Q31, Q32, Q33, Q35, Q36, Q37, Q38, Q39, Q40, Q41, Q42, Q43, Q44, Q45, Q46, Q47, Q48, Q49, Q50, Q51, Q52, Q53, Q54, Q55, Q56, Q57, Q58, Q59, Q60, Q61, Q62, Q63, Q64, Q65, Q66, Q67, Q68, Q69, Q70, Q71, Q72, Q73, Q99, Q100, Q101, Q102, Q103, Q74, Q75, Q77, Q78, Q79, Q80, Q81, Q82, Q83, Q84, clr, List.length_nil, List.length_cons, List.getElem?_cons_zero, List.getElem?_cons_succ, Nat.reduceAdd, Nat.zero_add, Nat.add_zero, Nat.reduceLeDiff, Nat.reduceSub, ↓reduceIte, List.drop_succ_cons, List.drop_zero, List.take_succ_cons, List.take_zero, Bool.false_eq_true, List.nil_append, List.cons_append, Bool.not_true, Bool.not_false, cond_true, cond_false, bne, Q85, Q86, Q87, Q88, Q89, Q90, Q91, Q92, Q93, Q94, Q95, Q96, Q97, Q98, Q110, Q111, Q116, Q117, Q118, Q119, Q120, Q121, Q122, Q123, Option.map_some, Option.map_none, Q34]
      · have hie : i = l.length := by omega
        subst hie
        have hlt := lt_f (n := l.length)
        refine ⟨.exit 0, V19 c d l.length l.length (.v (.bool false)), [], ?_, rfl, rfl, rfl⟩
        simp only [V19, c19_9, c19_4, hlt, Q0, Q1, Q2, Q3, Q4, Q5, Q6, Q7, Q8, Q9, Q10, Q11, Q12, Q13, Q14, Q15, Q16, Q17, Q18, Q19, Q20, Q21, Q22, Q23, Q24, Q25, Q26, Q27, Q28, Q29, Q30, Q31, Q32, Q33, Q35, Q36, Q37, Q38, Q39, Q40, Q41, Q42, Q43, Q44, Q45, Q46, Q47, Q48, Q49, Q50, Q51, Q52, Q53, Q54, Q55, Q56, Q57, Q58, Q59, Q60, Q61, Q62, Q63, Q64, Q65, Q66, Q67, Q68, Q69, Q70, Q71, Q72, Q73, Q99, Q100, Q101, Q102, Q103, Q74, Q75, Q77, Q78, Q79, Q80, Q81, Q82, Q83, Q84, clr, List.length_nil, List.length_cons, List.getElem?_cons_zero, List.getElem?_cons_succ, Nat.reduceAdd, Nat.zero_add, Nat.add_zero, Nat.reduceLeDiff, Nat.reduceSub, ↓reduceIte, List.drop_succ_cons, List.drop_zero, List.take_succ_cons, List.take_zero, Bool.false_eq_true, List.nil_append, List.cons_append, Bool.not_true, Bool.not_false, cond_true, cond_false, bne, Q85, Q86, Q87, Q88, Q89, Q90, Q91, Q92, Q93, Q94, Q95, Q96, Q97, Q98, Q110, Q111, Q116, Q117, Q118, Q119, Q120, Q121, Q122, Q123, Option.map_some, Option.map_none, Q34])
  refine callW_pure (c := c19) rfl rfl (l.length + 1) ?_
  rw [show c19.body = (.seq (.region [] [] c19_0) (.seq (.seq (.region [] [] c19_1) (.cond (.var 4) (.seq (.region [] [] c19_2) .ret) .skip)) (.seq (.seq (.region [] [] c19_3) (.block 0 (.loop K19 [] c19_9))) (.seq (.region [] [] c19_10) .ret)))) from rfl]
  have hl : ((l.length : Int) == (l.length : Int)) = true := by simp
  simp only [V19] at g1
  generalize c19_9 = bb at g1 ⊢
  simp only [c19, start, List.replicate, c19_0, c19_1, c19_3, c19_10, q1, q2, hl, g1, Bool.not_true, Q0, Q1, Q2, Q3, Q4, Q5, Q6, Q7, Q8, Q9, Q10, Q11, Q12, Q13, Q14, Q15, Q16, Q17, Q18, Q19, Q20, Q21, Q22, Q23, Q24, Q25, Q26, Q27, Q28, Q29, Q30, Q31, Q32, Q33, Q35, Q36, Q37, Q38, Q39, Q40, Q41, Q42, Q43, Q44, Q45, Q46, Q47, Q48, Q49, Q50, Q51, Q52, Q53, Q54, Q55, Q56, Q57, Q58, Q59, Q60, Q61, Q62, Q63, Q64, Q65, Q66, Q67, Q68, Q69, Q70, Q71, Q72, Q73, Q99, Q100, Q101, Q102, Q103, Q74, Q75, Q77, Q78, Q79, Q80, Q81, Q82, Q83, Q84, clr, List.length_nil, List.length_cons, List.getElem?_cons_zero, List.getElem?_cons_succ, Nat.reduceAdd, Nat.zero_add, Nat.add_zero, Nat.reduceLeDiff, Nat.reduceSub, ↓reduceIte, List.drop_succ_cons, List.drop_zero, List.take_succ_cons, List.take_zero, Bool.false_eq_true, List.nil_append, List.cons_append, Bool.not_true, Bool.not_false, cond_true, cond_false, bne, Q85, Q86, Q87, Q88, Q89, Q90, Q91, Q92, Q93, Q94, Q95, Q96, Q97, Q98, Q110, Q111, Q116, Q117, Q118, Q119, Q120, Q121, Q122, Q123, Option.map_some, Option.map_none, Q34]
end Go.AE.Ytkdjdhfoodlnfaa
end

/-! LogDrops, over the evaluator. -/
section
set_option linter.unusedVariables false
set_option linter.unusedSimpArgs false
namespace Go.AE.Ytkdjdhfoodlnfaa
open Go Go.AE Go.Proofs.Ytkdjdhfoodlnfaa

theorem lg_refl' : ∀ (l : List En), lgL l l = true
  | [] => rfl
  | a :: l => by
    have tsr : tsS a.terms a.terms = true := (same_iff _ _ _ (Nat.lt_succ_self _)).2 rfl
    rw [lgL, lg_refl' l, enS, cmp_refl, evS, tsr]
    simp
theorem lgs_refl' (l : List En) : lgS l l = true := by rw [lgS, lg_refl']; simp
def V7 (s u mine a ok : AV) (len i : Int) (x13 : AV) : List AV := [s, .junk, .junk, .junk, .junk, u, mine, a, ok, .junk, .junk, .v (.int .i64 len), .v (.int .i64 i), x13]
def K7 : List Bool := [true, false, false, false, false, true, true, true, true, false, false, true, true, false]
theorem drops_loop {K n id ver : Nat} {s u mine ok : AV} {H : List AO} (hn : n ≤ maxLen) (hE : EnRow H id ver n) (hK : n < K) (v : List AV) (hv : clr K7 v = V7 s u mine (.own 4 id ver 0 n) ok n 0 .junk) :
    ∃ H', Only id H H' ∧ EnRow H' id ver n ∧ loopN (exec (callW F) K c7_12) K7 K v H = some (.exit 0, V7 s u mine (.own 4 id ver 0 n) ok n n (.v (.bool false)), H') := by
  obtain ⟨e, v', h', g1, g2, rfl, rfl, ho, hE'⟩ := loop_rule0 (call := callW F) (K := K) (b := c7_12) (keep := K7) (fun i v h => v = V7 s u mine (.own 4 id ver 0 n) ok n i .junk ∧ EnRow h id ver n ∧ Only id H h)
    (fun e v h => e = .exit 0 ∧ v = V7 s u mine (.own 4 id ver 0 n) ok n n (.v (.bool false)) ∧ Only id H h ∧ EnRow h id ver n) n (m := K) (v := v) (h := H) hK ⟨hv, hE, Only.refl id H⟩ (by
      rintro i v h hi ⟨rfl, he, ho⟩
      by_cases hil : i < n
      · have hlt := lt_t hil
        have hw := wrap_succ hil hn
        obtain ⟨h2, e1, e2, e3, e4, e5, e6⟩ := he.wr hil
        refine ⟨.normal, [s, .junk, .junk, .junk, .junk, u, mine, .own 4 id ver 0 n, ok, .v (.int .i64 i), .junk, .v (.int .i64 n), .v (.int .i64 ((i + 1 : Nat) : Int)), .v (.bool true)], h2, ?_, hil, rfl, e5, ⟨by rw [e6.1, ho.1], fun j hj => by rw [e6.2 j hj, ho.2 j hj]⟩⟩
        simp only [V7, c7_12, c7_8, c7_9, c7_10, c7_11, hlt, hw, e1, e2, e3, e4, Q0, Q1, Q2, Q3, Q4, Q5, Q6, Q7, Q8, Q9, Q10, Q11, Q12, Q13, Q14, Q15, Q16, Q17, Q18, Q19, Q20, Q21, Q22, Q23, Q24, Q25, Q26, Q27, Q28, Q29, Q30, Q31, Q32, Q33, Q35, Q36, Q37, Q38, Q39, Q40, Q41, Q42, Q43, Q44, Q45, Q46, Q47, Q48, Q49, Q50, Q51, Q52, Q53, Q54, Q55, Q56, Q57, Q58, Q59, Q60, Q61, Q62, Q63, Q64, Q65, Q66, Q67, Q68, Q69, Q70, Q71, Q72, Q73, Q99, Q100, Q101, Q102, Q103, Q75, Q77, Q78, Q79, Q80, Q81, Q82, Q83, Q84, clr, List.length_nil, List.length_cons, List.getElem?_cons_zero, List.getElem?_cons_succ, Nat.reduceAdd, Nat.zero_add, Nat.add_zero, Nat.reduceLeDiff, Nat.reduceSub, ↓reduceIte, List.drop_succ_cons, List.drop_zero, List.take_succ_cons, List.take_zero, Bool.false_eq_true, List.nil_append, List.cons_append, Bool.not_true, Bool.not_false, cond_true, cond_false, bne, Q85, Q86, Q87, Q88, Q89, Q90, Q91, Q92, Q93, Q94, Q95, Q96, Q97, Q98, Q110, Q111, Q116, Q117, Q118, Q119, Q120, Q121, Q122, Q123, Option.map_some, Option.map_none, Q34]
      · have hie : i = n := by omega
        subst hie
        have hlt := lt_f (n := i)
        refine ⟨.exit 0, V7 s u mine (.own 4 id ver 0 i) ok i i (.v (.bool false)), h, ?_, rfl, rfl, ho, he⟩
        simp only [V7, c7_12, c7_8, hlt, Q0, Q1, Q2, Q3, Q4, Q5, Q6, Q7, Q8, Q9, Q10, Q11, Q12, Q13, Q14, Q15, Q16, Q17, Q18, Q19, Q20, Q21, Q22, Q23, Q24, Q25, Q26, Q27, Q28, Q29, Q30, Q31, Q32, Q33, Q35, Q36, Q37, Q38, Q39, Q40, Q41, Q42, Q43, Q44, Q45, Q46, Q47, Q48, Q49, Q50, Q51, Q52, Q53, Q54, Q55, Q56, Q57, Q58, Q59, Q60, Q61, Q62, Q63, Q64, Q65, Q66, Q67, Q68, Q69, Q70, Q71, Q72, Q73, Q99, Q100, Q101, Q102, Q103, Q75, Q77, Q78, Q79, Q80, Q81, Q82, Q83, Q84, clr, List.length_nil, List.length_cons, List.getElem?_cons_zero, List.getElem?_cons_succ, Nat.reduceAdd, Nat.zero_add, Nat.add_zero, Nat.reduceLeDiff, Nat.reduceSub, ↓reduceIte, List.drop_succ_cons, List.drop_zero, List.take_succ_cons, List.take_zero, Bool.false_eq_true, List.nil_append, List.cons_append, Bool.not_true, Bool.not_false, cond_true, cond_false, bne, Q85, Q86, Q87, Q88, Q89, Q90, Q91, Q92, Q93, Q94, Q95, Q96, Q97, Q98, Q110, Q111, Q116, Q117, Q118, Q119, Q120, Q121, Q122, Q123, Option.map_some, Option.map_none, Q34])
  exact ⟨h', ho, hE', g1⟩
theorem drops_loop0 {K : Nat} {s u mine ok a : AV} {H : List AO} (hK : 0 < K) (v : List AV) (hv : clr K7 v = V7 s u mine a ok ((0 : Nat) : Int) 0 .junk) :
    loopN (exec (callW F) K c7_12) K7 K v H = some (.exit 0, V7 s u mine a ok ((0 : Nat) : Int) ((0 : Nat) : Int) (.v (.bool false)), H) := by
  obtain ⟨m, rfl⟩ : ∃ m, K = m + 1 := ⟨K - 1, by omega⟩
  refine loop_exit ?_
  rw [hv]
  have hlt : decide ((0 : Int) < ((0 : Nat) : Int)) = false := rfl
  simp only [V7, c7_12, c7_8, hlt, Q0, Q1, Q2, Q3, Q4, Q5, Q6, Q7, Q8, Q9, Q10, Q11, Q12, Q13, Q14, Q15, Q16, Q17, Q18, Q19, Q20, Q21, Q22, Q23, Q24, Q25, Q26, Q27, Q28, Q29, Q30, Q31, Q32, Q33, Q35, Q36, Q37, Q38, Q39, Q40, Q41, Q42, Q43, Q44, Q45, Q46, Q47, Q48, Q49, Q50, Q51, Q52, Q53, Q54, Q55, Q56, Q57, Q58, Q59, Q60, Q61, Q62, Q63, Q64, Q65, Q66, Q67, Q68, Q69, Q70, Q71, Q72, Q73, Q99, Q100, Q101, Q102, Q103, Q75, Q77, Q78, Q79, Q80, Q81, Q82, Q83, Q84, clr, List.length_nil, List.length_cons, List.getElem?_cons_zero, List.getElem?_cons_succ, Nat.reduceAdd, Nat.zero_add, Nat.add_zero, Nat.reduceLeDiff, Nat.reduceSub, ↓reduceIte, List.drop_succ_cons, List.drop_zero, List.take_succ_cons, List.take_zero, Bool.false_eq_true, List.nil_append, List.cons_append, Bool.not_true, Bool.not_false, cond_true, cond_false, bne, Q85, Q86, Q87, Q88, Q89, Q90, Q91, Q92, Q93, Q94, Q95, Q96, Q97, Q98, Q110, Q111, Q116, Q117, Q118, Q119, Q120, Q121, Q122, Q123, Option.map_some, Option.map_none, Q34]
  rfl
theorem mine2 {s : AV} {es : List AV} {l : List En} (hs : Sl 4 s es) (ha : AllR IsEn es l) (hm : es.length ≤ maxLen) (hl : es.length ≤ 1000) : ∃ mi H1 H2 s', evAppend [] 29 4 64 (.v (.slice none 0 0)) s = some (mi, H1) ∧
    (∀ v0 v1 v2 v3 v4 v5 v7 v8 v9 v10 v11 v12 v13 : AV, doMark ([v0, v1, v2, v3, v4, v5, mi, v7, v8, v9, v10, v11, v12, v13], H1) (.v 6) = ([v0, v1, v2, v3, v4, v5, mi, v7, v8, v9, v10, v11, v12, v13], H2)) ∧
    (∀ G, mi.snap1 (H2 ++ G) = some s') ∧ Lg s' l ∧ (∀ n, H2.all (AO.below n) = true) ∧ (∀ H' : List AO, (∀ j, j < H2.length → H'[j]? = H2[j]?) → RdE H' mi l) := by
  have he := hs.elems []
  cases es with
  | nil =>
    have hl0 : l = [] := by have := ha.length; exact List.length_eq_zero_iff.1 (by simpa using this.symm)
    subst hl0
    refine ⟨.v (.slice none 0 0), [], [], .v (.slice none 0 0), by simp [evAppend, evAppendL, he], ?_, fun _ => rfl, ⟨[], .nil, .nil, by simp⟩, fun _ => rfl, fun H' _ => ⟨rfl, by simp, fun i hi => by simp at hi⟩⟩
    intros; rfl
  | cons e0 es0 =>
    have hf : fits (e0 :: es0).length 64 = true := fits_small (by omega) (by omega)
    generalize hE : e0 :: es0 = es at *
    have hne : es ≠ [] := by rw [← hE]; simp
    refine ⟨.own 4 0 0 0 es.length, [.row 29 4 0 es 0], [.row 29 4 0 es es.length], .slc 4 false false es, by simp [evAppend, evAppendL, he, hne, hf], ?_, ?_, ⟨es, .slc _ _ _, ha, hm⟩, fun _ => rfl, ?_⟩
    · intros; simp [doMark, raise1, raise0, raise, rowAt, rowT]
    · intro G; simp [AV.snap1, AV.snap0, rowAt]
    · intro H' hH'
      exact RdE.own (rt := 29) (L := es) (k := es.length) (by rw [hH' 0 (by simp)]; rfl) ha (List.take_length ..) hm
theorem drop2 {c s' mi : AV} {l : List En} {y : List Int} {H2 : List AO} (hs : Lg s' l) (hl : l.length ≤ 1000) (hc : Ns c y) (d : Int) (sm : ∀ G, mi.snap1 (H2 ++ G) = some s') (hb : ∀ n, H2.all (AO.below n) = true) :
    ∃ a G, ∃ n : Nat, callW F 16 [mi, c, .v (.int .i64 d)] H2 = some (a, H2 ++ G) ∧ (H2 ++ G).all (AO.below (H2 ++ G).length) = true ∧ RdE (H2 ++ G) a (dropL l y d) ∧ evLen (H2 ++ G) .slice a = some n ∧
      ∀ (K : Nat) (s u mine ok : AV), n ≤ 1000 → (n < K → ∀ v, clr K7 v = V7 s u mine a ok n 0 .junk → ∃ H' : List AO, (∀ j, j < H2.length → H'[j]? = H2[j]?) ∧ H'.all (AO.below H'.length) = true ∧ loopN (exec (callW F) K c7_12) K7 K v (H2 ++ G) = some (.exit 0, V7 s u mine a ok n n (.v (.bool false)), H')) := by
  have sm0 := sm []
  rw [List.append_nil] at sm0
  have bb : ∀ n, AO.below n (.box 23 [c]) = true := fun n => hc.bel n
  have b3 : ∀ n, AO.below n (.box 3 [.v (.int .i64 d)]) = true := fun _ => rfl
  have br : ∀ n L, AO.below n (.row 29 4 0 L 0) = true := fun _ _ => rfl
  rcases drop_keep hs (by omega) hc d with ⟨rfl, h⟩ | ⟨es, L', h1, h2, h3, h⟩
  · refine ⟨_, _, 0, h mi H2 sm0, ?_, (Lg.rd (l := dropL [] y d) ⟨[], .slc _ _ _, .nil, by simp⟩ _), rfl, fun K s u mine ok _ hK v hv => ?_⟩
    · simp only [List.all_append, List.all_cons, List.all_nil, hb, bb, b3, Bool.and_true]
    · refine ⟨_, fun j hj => List.getElem?_append_left hj, ?_, drops_loop0 hK v hv⟩
      simp only [List.all_append, List.all_cons, List.all_nil, hb, bb, b3, Bool.and_true]
  · have hr : (H2 ++ [.box 23 [c], .box 3 [.v (.int .i64 d)], .row 29 4 0 L' 0])[H2.length + 2]? = some (.row 29 4 0 L' 0) := by simp
    have hlen : es.length ≤ L'.length := by
      have := congrArg List.length h2
      rw [List.length_take] at this; omega
    have hba : (H2 ++ ([.box 23 [c], .box 3 [.v (.int .i64 d)], .row 29 4 0 L' 0] : List AO)).all (AO.below (H2 ++ ([.box 23 [c], .box 3 [.v (.int .i64 d)], .row 29 4 0 L' 0] : List AO)).length) = true := by
      simp only [List.all_append, List.all_cons, List.all_nil, hb, bb, b3, br, Bool.and_true]
    refine ⟨_, _, es.length, h mi H2 sm0, hba, RdE.own hr h1 h2 h3, row_len hr hlen, fun K s u mine ok hn hK v hv => ?_⟩
    have hmx : maxLen = 9223372036854775807 := rfl
    have hE : EnRow (H2 ++ [.box 23 [c], .box 3 [.v (.int .i64 d)], .row 29 4 0 L' 0]) (H2.length + 2) 0 es.length := ⟨L', hr, hlen, fun j hj => by
      obtain ⟨x, _, hx⟩ := h1.get (List.getElem?_eq_getElem hj)
      refine ⟨es[j], x, ?_, hx⟩
      rw [← List.getElem?_eq_getElem hj]
      conv => rhs; rw [← h2]
      rw [List.getElem?_take_of_lt hj]⟩
    obtain ⟨H', hO, hE', lp⟩ := drops_loop (K := K) (s := s) (u := u) (mine := mine) (ok := ok) (by omega) hE hK v hv
    refine ⟨H', fun j hj => by rw [hO.2 j (by omega), List.getElem?_append_left hj], ?_, lp⟩
    rw [hO.1]; exact hO.below hE' hba
theorem dropsLaw_ok {s c o : AV} {l : List En} {y : List Int} {op : List (List Int)} (hs : Lg s l) (hc : Ns c y) (d : Int) (ho : Nss o op) : callW F 7 [s, c, .v (.int .i64 d), o] [] = some (.v (.bool true), []) := by
  have hlive := live_ok
  obtain ⟨bg, hbg, hbl⟩ := big_ok hs ho
  have q1 := fun H => hs.len H
  have q2 := fun H => hc.len H
  have s1 := fun H => hs.sn H
  have s2 := fun H => hc.sn H
  have s3 := fun H => ho.sn H
  cases bg with
  | true =>
    refine callW_pure (c := c7) rfl rfl 0 ?_
    simp only [c7, start, List.replicate, c7_0, c7_1, c7_2, c7_3, hlive, hbg, s1, s3, Q122, Q0, Q1, Q2, Q3, Q4, Q5, Q6, Q7, Q8, Q9, Q10, Q11, Q12, Q13, Q14, Q15, Q16, Q17, Q18, Q19, Q20, Q21, Q22, Q23, Q24, Q25, Q26, Q27, Q28, Q29, Q30, Q31, Q32, Q33, Q35, Q36, Q37, Q38, Q39, Q40, Q41, Q42, Q43, Q44, Q45, Q46, Q47, Q48, Q49, Q50, Q51, Q52, Q53, Q54, Q55, Q56, Q57, Q58, Q59, Q60, Q61, Q62, Q63, Q64, Q65, Q66, Q67, Q68, Q69, Q70, Q71, Q72, Q73, Q99, Q100, Q101, Q102, Q103, Q74, Q75, Q77, Q78, Q79, Q80, Q81, Q82, Q83, Q84, clr, List.length_nil, List.length_cons, List.getElem?_cons_zero, List.getElem?_cons_succ, Nat.reduceAdd, Nat.zero_add, Nat.add_zero, Nat.reduceLeDiff, Nat.reduceSub, ↓reduceIte, List.drop_succ_cons, List.drop_zero, List.take_succ_cons, List.take_zero, Bool.false_eq_true, List.nil_append, List.cons_append, Bool.not_true, Bool.not_false, cond_true, cond_false, bne, Q85, Q86, Q87, Q88, Q89, Q90, Q91, Q92, Q93, Q94, Q95, Q96, Q97, Q98, Q110, Q111, Q116, Q117, Q118, Q119, Q120, Q121, Q122, Q123, Option.map_some, Option.map_none, Q34]
  | false =>
  obtain ⟨hl2, _⟩ := hbl rfl
  cases hby : decide ((y.length : Int) > 100) with
  | true =>
    refine callW_pure (c := c7) rfl rfl 0 ?_
    simp only [c7, start, List.replicate, c7_0, c7_1, c7_2, c7_3, hlive, hbg, hby, q2, s1, s3, Q122, Q0, Q1, Q2, Q3, Q4, Q5, Q6, Q7, Q8, Q9, Q10, Q11, Q12, Q13, Q14, Q15, Q16, Q17, Q18, Q19, Q20, Q21, Q22, Q23, Q24, Q25, Q26, Q27, Q28, Q29, Q30, Q31, Q32, Q33, Q35, Q36, Q37, Q38, Q39, Q40, Q41, Q42, Q43, Q44, Q45, Q46, Q47, Q48, Q49, Q50, Q51, Q52, Q53, Q54, Q55, Q56, Q57, Q58, Q59, Q60, Q61, Q62, Q63, Q64, Q65, Q66, Q67, Q68, Q69, Q70, Q71, Q72, Q73, Q99, Q100, Q101, Q102, Q103, Q74, Q75, Q77, Q78, Q79, Q80, Q81, Q82, Q83, Q84, clr, List.length_nil, List.length_cons, List.getElem?_cons_zero, List.getElem?_cons_succ, Nat.reduceAdd, Nat.zero_add, Nat.add_zero, Nat.reduceLeDiff, Nat.reduceSub, ↓reduceIte, List.drop_succ_cons, List.drop_zero, List.take_succ_cons, List.take_zero, Bool.false_eq_true, List.nil_append, List.cons_append, Bool.not_true, Bool.not_false, cond_true, cond_false, bne, Q85, Q86, Q87, Q88, Q89, Q90, Q91, Q92, Q93, Q94, Q95, Q96, Q97, Q98, Q110, Q111, Q116, Q117, Q118, Q119, Q120, Q121, Q122, Q123, Option.map_some, Option.map_none, Q34]
  | false =>
  have hs0 := hs
  obtain ⟨es, hsl, hae, hm⟩ := hs
  have hen := hae.length
  obtain ⟨mi, H1, H2, s', ap, mk, sm, hs', hb, rd⟩ := mine2 hsl hae hm (by omega)
  obtain ⟨a, G, n, p16, hb3, rda, qa, lp⟩ := drop2 hs' (by omega) hc d sm hb
  obtain ⟨rr, hrr, p17⟩ := rdrop_ok hs0 (by omega) hc d
  have hdl : (dropL l y d).length ≤ l.length := List.length_filter_le _ _
  have hna : n = (dropL l y d).length := by have := rda.len; rw [qa] at this; exact Option.some.inj this
  have same1 := same_own hb3 rda (hrr.rd (H2 ++ G))
  rw [lgs_refl'] at same1
  have p15 := ready_ok hs' ho
  have p18 := rready_ok hs0 ho
  obtain ⟨ev, es1, e1, e2, p20⟩ := events_ok hs' (by omega)
  obtain ⟨ev', es2, e3, e4, p21⟩ := revents_ok hs0 (by omega)
  have hmx : maxLen = 9223372036854775807 := rfl
  have p19 := sameev_ok e1 e3 e2 e4 (by have := ev_len l; omega)
  have srr := fun H => hrr.sn H
  have s5 := fun H => hs'.sn H
  have sev := fun H => e1.sn1 H
  have sev' := fun H => e3.sn1 H
  have sm3 := sm G
  obtain ⟨H4, hO, hb4, lp⟩ := lp (n + 1) s (.v (.bool true)) mi (.v (.bool true)) (by omega) (by omega) [s, c, .v (.int .i64 d), o, .v (.bool false), .v (.bool true), mi, a, .v (.bool true), .v undef, .v (.bool false), .v (.int .i64 n), .v (.int .i64 0), .v undef] rfl
  have same2 := same_own hb4 (rd H4 hO) (hs0.rd H4)
  rw [lgs_refl'] at same2
  have z1 : ((readyL l op : Int) == (readyL l op : Int)) = true := by simp
  refine callW_pure (c := c7) rfl rfl (n + 1) ?_
  rw [show c7.body = (.seq (.region [] [] c7_0) (.seq (.region [] [] c7_1) (.seq (.seq (.region [] [] c7_2) (.cond (.var 10) (.seq (.region [] [] c7_3) .ret) .skip)) (.seq (.region [] [] c7_4) (.seq (.region [.v 6] [] c7_5) (.seq (.region [] [] c7_6) (.seq (.seq (.region [] [] c7_7) (.block 0 (.loop K7 [] c7_12))) (.seq (.region [] [] c7_13) .ret)))))))) from rfl]
  simp only [V7] at lp
  generalize c7_12 = bb at lp ⊢
  generalize H2 ++ G = H3 at *
  simp only [c7, start, List.replicate, c7_0, c7_1, c7_2, c7_4, c7_5, c7_6, c7_7, c7_13, hlive, hbg, hby, q1, q2, qa, s1, s2, s3, s5, srr, sev, sev', sm3, snap_int, e_append, ap, x_region_m, List.foldl_cons, List.foldl_nil, mk, marked_eq, e_callh, List.map_cons, List.map_nil, p16, p17, same1, p15, p18, z1, p20, p21, p19, lp, same2, Q122, Q0, Q1, Q2, Q3, Q4, Q5, Q6, Q7, Q8, Q9, Q10, Q11, Q12, Q13, Q14, Q15, Q16, Q17, Q18, Q19, Q20, Q21, Q22, Q23, Q24, Q25, Q26, Q27, Q28, Q29, Q30, Q31, Q32, Q33, Q35, Q36, Q37, Q38, Q39, Q40, Q41, Q42, Q43, Q44, Q45, Q46, Q47, Q48, Q49, Q50, Q51, Q52, Q53, Q54, Q55, Q56, Q57, Q58, Q59, Q60, Q61, Q62, Q63, Q64, Q65, Q66, Q67, Q68, Q69, Q70, Q71, Q72, Q73, Q99, Q100, Q101, Q102, Q103, Q74, Q75, Q77, Q78, Q79, Q80, Q81, Q82, Q83, Q84, clr, List.length_nil, List.length_cons, List.getElem?_cons_zero, List.getElem?_cons_succ, Nat.reduceAdd, Nat.zero_add, Nat.add_zero, Nat.reduceLeDiff, Nat.reduceSub, ↓reduceIte, List.drop_succ_cons, List.drop_zero, List.take_succ_cons, List.take_zero, Bool.false_eq_true, List.nil_append, List.cons_append, Bool.not_true, Bool.not_false, cond_true, cond_false, bne, Q85, Q86, Q87, Q88, Q89, Q90, Q91, Q92, Q93, Q94, Q95, Q96, Q97, Q98, Q110, Q111, Q116, Q117, Q118, Q119, Q120, Q121, Q122, Q123, Option.map_some, Option.map_none, Q34]
end Go.AE.Ytkdjdhfoodlnfaa
end

/-! What comes in, out of its types. -/
section
set_option linter.unusedVariables false
namespace Go.AE.Ytkdjdhfoodlnfaa
open Go Go.AE Go.Proofs.Ytkdjdhfoodlnfaa
theorem tmTy : TmTy T 3 9 2 66 24 := ⟨⟨_, rfl, rfl⟩, ⟨_, rfl, rfl⟩, ⟨_, rfl, rfl⟩, ⟨_, _, _, _, _, rfl, rfl, rfl, rfl, rfl, rfl, rfl, rfl⟩, ⟨_, rfl, rfl⟩⟩
theorem iv_of : ∀ {es : List AV} {l : List Int}, AllR IsI es l → es = l.map iv
  | _, _, .nil => rfl
  | _, _, .cons a x es l h hs => by rw [List.map_cons, ← iv_of hs, show a = iv x from h]
theorem wt_ns {cs : List AV} (w : WT T 23 cs) : ∃ c l, cs = [c] ∧ Ns c l := by
  obtain ⟨c, l, h, es, hs, ha, hm⟩ := wt_ints (t := 23) (e := 3) (i := ti23) (j := ti3) rfl rfl rfl rfl rfl rfl w
  have := iv_of ha
  subst this
  exact ⟨c, l, h, hs, by simpa using hm⟩
theorem wt_en {cs : List AV} (w : WT T 29 cs) : ∃ x, IsEn (.agg cs) x := by
  obtain ⟨a, b, rfl, w0, w1⟩ := wt_struct2 (i := ti29) rfl rfl w
  obtain ⟨c, lab, rfl, hc⟩ := wt_ns w0
  obtain ⟨k, t, e, rfl, w2, w3, w4⟩ := wt_struct3 (t := 27) (i := ti27) rfl rfl w1
  obtain ⟨n, rfl, _⟩ := wt_int_of (t := 3) (i := ti3) (k := .i64) rfl rfl w2
  obtain ⟨d, ts, rfl, hd⟩ := tmTy.terms w3
  obtain ⟨m, rfl, _⟩ := wt_int_of (t := 25) (i := ti25) (k := .i64) rfl rfl w4
  exact ⟨_, .mk c lab hc n d ts hd m⟩
theorem log_in {a : AV} (w : WT T 22 a.cells) (e : Q77 ti22.agg a.cells = some a) : ∃ l, Lg a l := by
  rcases wt_slice_of (t := 22) (e := 29) (i := ti22) (j := ti29) rfl rfl rfl w with h | ⟨l, h, hl, hel, has⟩
  · rw [one_cell e h]; exact ⟨[], [], .nil, .nil, by simp⟩
  · rw [one_cell e h]
    obtain ⟨xs, hxs⟩ := allR_of (R := IsEn) (l := l) (fun el hm => by
      obtain ⟨x, hx⟩ := wt_en (hel el hm)
      have := has el hm
      rw [← agg_cells this] at hx
      exact ⟨x, hx⟩)
    exact ⟨xs, l, .slc _ _ _, hxs, hl⟩
theorem ent_in {a : AV} (w : WT T 29 a.cells) (e : Q77 ti29.agg a.cells = some a) : ∃ x, IsEn a x := by
  obtain ⟨x, hx⟩ := wt_en w
  rw [agg_cells e]; exact ⟨x, hx⟩
theorem ns_in {a : AV} (w : WT T 23 a.cells) (e : Q77 ti23.agg a.cells = some a) : ∃ l, Ns a l := by
  obtain ⟨c, l, h, hl⟩ := wt_ns w
  rw [one_cell e h]; exact ⟨l, hl⟩
theorem nss_in {a : AV} (w : WT T 39 a.cells) (e : Q77 ti39.agg a.cells = some a) : ∃ l, Nss a l := by
  rcases wt_slice_of (t := 39) (e := 23) (i := ti39) (j := ti23) rfl rfl rfl w with h | ⟨l, h, hl, hel, has⟩
  · rw [one_cell e h]; exact ⟨[], [], .nil, .nil, by simp⟩
  · rw [one_cell e h]
    obtain ⟨xs, hxs⟩ := allR_of (R := Ns) (l := l) (fun el hm => ns_in (hel el hm) (has el hm))
    exact ⟨xs, l, .slc _ _ _, hxs, hl⟩
theorem int_in {a : AV} (w : WT T 3 a.cells) (e : Q77 ti3.agg a.cells = some a) : ∃ n : Int, a = .v (.int .i64 n) ∧ (Lit.int .i64 n).wf = true := by
  obtain ⟨n, h, hn⟩ := wt_int_of (t := 3) (i := ti3) (k := .i64) rfl rfl w
  exact ⟨n, one_cell e h, hn⟩
end Go.AE.Ytkdjdhfoodlnfaa
end
