/- Texts of this claim, put together. -/
import Derived.Test.YtkdjdhfoodlnfaaPart1
import Derived.Test.YtkdjdhfoodlnfaaEval3
import Derived.Test.YtkdjdhfoodlnfaaEval4
/-! sort.Search; the least of places; whether a log is too great. -/
section
set_option linter.unusedVariables false
set_option linter.unusedSimpArgs false
namespace Go.AE.Ytkdjdhfoodlnfaa
open Go Go.AE Go.Proofs.Ytkdjdhfoodlnfaa

def cvI (k : IntKind) (h : List AO) : AV → Option (AV × List AO)
  | .v (.int _ n) => some (.v (.int k (k.wrap n)), h)
  | _ => none
theorem e_conv {call : CallF} {vars env : List AV} {h : List AO} {k : IntKind} {x : Opd} : evOp call vars env h (.conv k x) = cvI k h (getO vars env x) := by
  simp only [evOp, cvI]
  rfl
theorem cvI_int {k k' : IntKind} {h : List AO} {n : Int} : cvI k h (.v (.int k' n)) = some (.v (.int k (k.wrap n)), h) := rfl
theorem e_shf {call : CallF} {vars env : List AV} {h : List AO} {l : Bool} {x y : Opd} : evOp call vars env h (.shf l x y) = withH h (evShf l (getO vars env x) (getO vars env y)) := map_withH
theorem shf1 {a : Nat} : evShf false (.v (.int .u64 (a : Int))) (.v (.int .u64 1)) = some (.v (.int .u64 ((a / 2 : Nat) : Int))) := by
  have : ((a : Int).fdiv 2) = ((a / 2 : Nat) : Int) := by
    rw [Int.fdiv_eq_ediv_of_nonneg _ (by decide)]; omega
  simp only [evShf]
  have h2 : (2 : Int) ^ min (1 : Int).toNat IntKind.u64.bits = 2 := by decide
  rw [if_pos (by decide)]
  simp only [Bool.false_eq_true, if_false, h2, this]
theorem u64_nat {n : Nat} (h : n < 18446744073709551616) : IntKind.u64.wrap (n : Int) = n := by
  have h1 : IntKind.u64.wrap (n : Int) = (n : Int) % 18446744073709551616 := by
    simp [IntKind.wrap, IntKind.signed, IntKind.bits]
  rw [h1]; omega
theorem i64_nat {n : Nat} (h : n ≤ maxLen) : IntKind.i64.wrap (n : Int) = n := by
  have : maxLen = 9223372036854775807 := rfl
  rw [IntWalk.i64_in] <;> omega
theorem cast_add {i j : Nat} : ((i : Int) + (j : Int)) = ((i + j : Nat) : Int) := by omega
def V23 (f : AV) (i j : Int) : List AV := [.junk, f, .junk, .v (.int .i64 i), .v (.int .i64 j), .junk, .junk, .junk]
def K23 : List Bool := [false, true, false, true, true, false, false, false]
theorem search_ok {g : FuncId} {first cap : List AV} {H : List AO} {n : Nat} {p : Nat → Bool} (hb : H.all (AO.below H.length) = true) (hn : n ≤ 1000000) (hp : ∀ k, k < n → callW F g (first ++ [.v (.int .i64 k)] ++ cap) H = some (.v (.bool (p k)), H))
    (mono : ∀ a b, a ≤ b → b < n → p a = true → p b = true) :
    ∃ r : Nat, callW F 23 [.v (.int .i64 n), .fn (.func g) first cap] H = some (.v (.int .i64 r), H) ∧ r ≤ n ∧ (∀ k, k < r → p k = false) ∧ (r < n → p r = true) := by
  have hmx : maxLen = 9223372036854775807 := rfl
  obtain ⟨e, v', h', g1, g2, rfl, r, x7, rfl, q1, q2, q3, rfl⟩ := loop_rule0 (call := callW F) (K := n + 1) (b := c23_7) (keep := K23)
    (fun t v h => h = H ∧ ∃ i j : Nat, v = V23 (.fn (.func g) first cap) i j ∧ i ≤ j ∧ j ≤ n ∧ j - i + t ≤ n ∧ (∀ k, k < i → p k = false) ∧ (j < n → p j = true))
    (fun e v h => e = .exit 0 ∧ ∃ (r : Nat) (x7 : AV), v = [.junk, .fn (.func g) first cap, .junk, .v (.int .i64 r), .v (.int .i64 r), .junk, .v (.bool false), x7] ∧ r ≤ n ∧ (∀ k, k < r → p k = false) ∧ (r < n → p r = true) ∧ h = H)
    n (m := n + 1) (v := [.v (.int .i64 n), .fn (.func g) first cap, .v (.int .i64 0), .v (.int .i64 ((0 : Nat) : Int)), .v (.int .i64 n), .v undef, .v undef, .v undef]) (h := H) (by omega) ⟨rfl, 0, n, rfl, by omega, by omega, by omega, fun k hk => by omega, fun h => by omega⟩ (by
      rintro t v h ht ⟨rfl, i, j, rfl, hij, hjn, hd, a1, a2⟩
      by_cases hlt : i < j
      · have l1 := lt_t hlt
        have w1 := i64_nat (n := i + j) (by omega)
        have w2 := u64_nat (n := i + j) (by omega)
        have sh := shf1 (a := i + j)
        obtain ⟨m, hme⟩ : ∃ m, m = (i + j) / 2 := ⟨_, rfl⟩
        rw [← hme] at sh
        have w3 := i64_nat (n := m) (by omega)
        have hm : m < j := by omega
        have hm2 : i ≤ m := by omega
        have hc := hp m (by omega)
        have w4 : IntKind.i64.wrap ((m : Int) + 1) = ((m + 1 : Nat) : Int) := wrap_succ hm (by omega)
        cases hpm : p m with
        | true =>
          rw [hpm] at hc
          refine ⟨.normal, [.junk, .fn (.func g) first cap, .junk, .v (.int .i64 i), .v (.int .i64 m), .v (.int .i64 m), .v (.bool true), .v (.bool false)], h, ?_, by omega, rfl, i, m, rfl, hm2, by omega, by omega, a1, fun _ => hpm⟩
          simp only [V23, c23_7, c23_2, c23_3, c23_4, c23_6, l1, cast_add, e_conv, cvI_int, e_shf, sh, w1, w2, w3, w4, Q117, Q118, hc, Q0, Q1, Q2, Q3, Q4, Q5, Q6, Q7, Q8, Q9, Q10, Q11, Q12, Q13, Q14, Q15, Q16, Q17, Q18, Q19, Q20, Q21, Q22, Q23, Q24, Q25, Q26, Q27, Q28, Q29, Q30, Q31, Q32, Q33, Q35, Q36, Q37, Q38, Q39, Q40, Q41, Q42, Q43, Q44, Q45, Q46, Q47, Q48, Q49, Q50, Q51, Q52, Q53, Q54, Q55, Q56, Q57, Q58, Q59, Q60, Q61, Q62, Q63, Q64, Q65, Q66, Q67, Q68, Q69, Q70, Q71, Q72, Q73, Q99, Q100, Q101, Q102, Q103, Q74, Q75, Q77, Q78, Q79, Q80, Q81, Q82, Q83, Q84, clr, List.length_nil, List.length_cons, List.getElem?_cons_zero, List.getElem?_cons_succ, Nat.reduceAdd, Nat.zero_add, Nat.add_zero, Nat.reduceLeDiff, Nat.reduceSub, ↓reduceIte, List.drop_succ_cons, List.drop_zero, List.take_succ_cons, List.take_zero, Bool.false_eq_true, List.nil_append, List.cons_append, Bool.not_true, Bool.not_false, cond_true, cond_false, bne, Q85, Q86, Q87, Q88, Q89, Q90, Q91, Q92, Q93, Q94, Q95, Q96, Q97, Q98, Q110, Q111, Q116, Q117, Q118, Q119, Q120, Q121, Q122, Q123, Option.map_some, Option.map_none, Q34]
        | false =>
          rw [hpm] at hc
          refine ⟨.normal, [.junk, .fn (.func g) first cap, .junk, .v (.int .i64 ((m + 1 : Nat) : Int)), .v (.int .i64 j), .v (.int .i64 m), .v (.bool true), .v (.bool true)], h, ?_, by omega, rfl, m + 1, j, rfl, by omega, hjn, by omega, ?_, a2⟩
          · simp only [V23, c23_7, c23_2, c23_3, c23_4, c23_5, l1, cast_add, e_conv, cvI_int, e_shf, sh, w1, w2, w3, w4, Q117, Q118, hc, Q0, Q1, Q2, Q3, Q4, Q5, Q6, Q7, Q8, Q9, Q10, Q11, Q12, Q13, Q14, Q15, Q16, Q17, Q18, Q19, Q20, Q21, Q22, Q23, Q24, Q25, Q26, Q27, Q28, Q29, Q30, Q31, Q32, Q33, Q35, Q36, Q37, Q38, Q39, Q40, Q41, Q42, Q43, Q44, Q45, Q46, Q47, Q48, Q49, Q50, Q51, Q52, Q53, Q54, Q55, Q56, Q57, Q58, Q59, Q60, Q61, Q62, Q63, Q64, Q65, Q66, Q67, Q68, Q69, Q70, Q71, Q72, Q73, Q99, Q100, Q101, Q102, Q103, Q74, Q75, Q77, Q78, Q79, Q80, Q81, Q82, Q83, Q84, clr, List.length_nil, List.length_cons, List.getElem?_cons_zero, List.getElem?_cons_succ, Nat.reduceAdd, Nat.zero_add, Nat.add_zero, Nat.reduceLeDiff, Nat.reduceSub, ↓reduceIte, List.drop_succ_cons, List.drop_zero, List.take_succ_cons, List.take_zero, Bool.false_eq_true, List.nil_append, List.cons_append, Bool.not_true, Bool.not_false, cond_true, cond_false, bne, Q85, Q86, Q87, Q88, Q89, Q90, Q91, Q92, Q93, Q94, Q95, Q96, Q97, Q98, Q110, Q111, Q116, Q117, Q118, Q119, Q120, Q121, Q122, Q123, Option.map_some, Option.map_none, Q34]
          · intro k hk
            cases hpk : p k with
            | false => rfl
            | true => rw [mono k m (by omega) (by omega) hpk] at hpm; cases hpm
      · have hie : i = j := by omega
        subst hie
        have l1 := lt_f (n := i)
        refine ⟨.exit 0, [.junk, .fn (.func g) first cap, .junk, .v (.int .i64 i), .v (.int .i64 i), .junk, .v (.bool false), .junk], h, ?_, rfl, i, .junk, rfl, hjn, a1, a2, rfl⟩
        simp only [V23, c23_7, c23_2, l1, Q0, Q1, Q2, Q3, Q4, Q5, Q6, Q7, Q8, Q9, Q10, Q11, Q12, Q13, Q14, Q15, Q16, Q17, Q18, Q19, Q20, Q21, Q22, Q23, Q24, Q25, Q26, Q27, Q28, Q29, Q30, Q31, Q32, Q33, Q35, Q36, Q37, Q38, Q39, Q40, Q41, Q42, Q43, Q44, Q45, Q46, Q47, Q48, Q49, Q50, Q51, Q52, Q53, Q54, Q55, Q56, Q57, Q58, Q59, Q60, Q61, Q62, Q63, Q64, Q65, Q66, Q67, Q68, Q69, Q70, Q71, Q72, Q73, Q99, Q100, Q101, Q102, Q103, Q74, Q75, Q77, Q78, Q79, Q80, Q81, Q82, Q83, Q84, clr, List.length_nil, List.length_cons, List.getElem?_cons_zero, List.getElem?_cons_succ, Nat.reduceAdd, Nat.zero_add, Nat.add_zero, Nat.reduceLeDiff, Nat.reduceSub, ↓reduceIte, List.drop_succ_cons, List.drop_zero, List.take_succ_cons, List.take_zero, Bool.false_eq_true, List.nil_append, List.cons_append, Bool.not_true, Bool.not_false, cond_true, cond_false, bne, Q85, Q86, Q87, Q88, Q89, Q90, Q91, Q92, Q93, Q94, Q95, Q96, Q97, Q98, Q110, Q111, Q116, Q117, Q118, Q119, Q120, Q121, Q122, Q123, Option.map_some, Option.map_none, Q34])
  refine ⟨r, callW_own (c := c23) rfl rfl (n + 1) ?_, q1, q2, q3⟩
  rw [show c23.body = (.seq (.region [] [] c23_0) (.seq (.region [] [] c23_1) (.seq (.block 0 (.loop K23 [] c23_7)) (.seq (.region [] [] c23_8) .ret)))) from rfl]
  generalize c23_7 = bb at g1 ⊢
  have body : exec (callW F) (n + 1) (.seq (.region [] [] c23_0) (.seq (.region [] [] c23_1) (.seq (.block 0 (.loop K23 [] bb)) (.seq (.region [] [] c23_8) .ret)))) (start c23 [.v (.int .i64 n), .fn (.func g) first cap]) (h' ++ []) = some (.ret, [.junk, .fn (.func g) first cap, .v (.int .i64 r), .v (.int .i64 r), .v (.int .i64 r), .junk, .v (.bool false), x7], h' ++ []) := by
    rw [List.append_nil]
    have z : ((0 : Nat) : Int) = 0 := rfl
    rw [z] at g1
    simp only [c23, start, List.replicate, c23_0, c23_1, c23_8, g1, Q0, Q1, Q2, Q3, Q4, Q5, Q6, Q7, Q8, Q9, Q10, Q11, Q12, Q13, Q14, Q15, Q16, Q17, Q18, Q19, Q20, Q21, Q22, Q23, Q24, Q25, Q26, Q27, Q28, Q29, Q30, Q31, Q32, Q33, Q35, Q36, Q37, Q38, Q39, Q40, Q41, Q42, Q43, Q44, Q45, Q46, Q47, Q48, Q49, Q50, Q51, Q52, Q53, Q54, Q55, Q56, Q57, Q58, Q59, Q60, Q61, Q62, Q63, Q64, Q65, Q66, Q67, Q68, Q69, Q70, Q71, Q72, Q73, Q99, Q100, Q101, Q102, Q103, Q74, Q75, Q77, Q78, Q79, Q80, Q81, Q82, Q83, Q84, clr, List.length_nil, List.length_cons, List.getElem?_cons_zero, List.getElem?_cons_succ, Nat.reduceAdd, Nat.zero_add, Nat.add_zero, Nat.reduceLeDiff, Nat.reduceSub, ↓reduceIte, List.drop_succ_cons, List.drop_zero, List.take_succ_cons, List.take_zero, Bool.false_eq_true, List.nil_append, List.cons_append, Bool.not_true, Bool.not_false, cond_true, cond_false, bne, Q85, Q86, Q87, Q88, Q89, Q90, Q91, Q92, Q93, Q94, Q95, Q96, Q97, Q98, Q110, Q111, Q116, Q117, Q118, Q119, Q120, Q121, Q122, Q123, Option.map_some, Option.map_none, Q34]
  rw [body, leave_own rfl hb, show c23.res = [.var 2] from rfl, own_res1 (x := .v (.int .i64 r)) rfl]
  exact lvo_one rfl
/-! ### The least of places -/
def Nss (c : AV) (ll : List (List Int)) : Prop := ∃ es, Sl 1 c es ∧ AllR Ns es ll ∧ es.length ≤ maxLen
theorem Nss.len {c : AV} {l : List (List Int)} (h : Nss c l) (H : List AO) : evLen H .slice c = some l.length := by
  obtain ⟨es, hs, ha, _⟩ := h
  rw [← ha.length]; exact hs.len H
theorem Nss.max {c : AV} {l : List (List Int)} (h : Nss c l) : l.length ≤ maxLen := by
  obtain ⟨es, hs, ha, hm⟩ := h
  rw [← ha.length]; exact hm
theorem Nss.sn {c : AV} {l : List (List Int)} (h : Nss c l) (H : List AO) : c.snap1 H = some c := by
  obtain ⟨es, hs, _⟩ := h
  exact hs.sn1 H
theorem Ns.cells {c : AV} {x : List Int} (h : Ns c x) : c.cells = [c] := by
  obtain ⟨hs, _⟩ := h
  generalize x.map iv = es at hs
  cases hs <;> rfl
theorem Nss.at {c : AV} {l : List (List Int)} (h : Nss c l) {i : Nat} (hi : i < l.length) : ∃ d, (∀ H, iaV H 1 c (some i) = some (.ip [d])) ∧ Ns d l[i] := by
  obtain ⟨es, hs, ha, _⟩ := h
  obtain ⟨a, e1, e2⟩ := ha.get' (List.getElem?_eq_getElem hi)
  have q := fun H => hs.ia e1 H
  rw [Ns.cells e2] at q
  exact ⟨a, q, e2⟩
def cv (call : CallF) (h : List AO) (xs : List AV) : AV → Option (AV × List AO)
  | .fn (.func f) first cap => call f (first ++ xs ++ cap) h
  | _ => none
theorem e_callv {call : CallF} {vars env : List AV} {h : List AO} {x : Opd} {args : List Opd} : evOp call vars env h (.callv x args) = cv call h (args.map (getO vars env)) (getO vars env x) := by
  simp only [evOp, cv]
  rfl
theorem cv_fn {call : CallF} {h : List AO} {f : FuncId} {xs first cap : List AV} : cv call h xs (.fn (.func f) first cap) = call f (first ++ xs ++ cap) h := rfl
def leastL (m : List Int) : List (List Int) → List Int
  | [] => m
  | x :: l => leastL (if decide (cmpL x m < 0) = true then x else m) l
def V29 (c fn m : AV) (i : Int) : List AV := [c, fn, .junk, m, .v (.int .i64 i), .junk, .junk, .junk]
def K29 : List Bool := [true, true, false, true, true, false, false, false]
theorem g_fnk {vars env : List AV} {f : FuncId} : getO vars env (.fn f) = .fn (.func f) [] [] := rfl
theorem least1_ok {c : AV} {o : List Int} {ll : List (List Int)} (hc : Nss c (o :: ll)) : ∃ r, Ns r (leastL o ll) ∧ callW F 29 [c, .fn (.func 25) [] []] [] = some (r, []) := by
  have q1 := fun H => hc.len H
  have hmax := hc.max
  have hmx : maxLen = 9223372036854775807 := rfl
  obtain ⟨d0, e0, n0⟩ := hc.at (i := 0) (by simp)
  simp only [List.getElem_cons_zero] at n0
  generalize hL : (o :: ll) = L at *
  have hLl : L.length = ll.length + 1 := by rw [← hL]; rfl
  obtain ⟨e, v', h', g1, g2, rfl, rfl, r, x7, n1, rfl⟩ := loop_rule0 (call := callW F) (K := L.length + 1) (b := c29_9) (keep := K29)
    (fun t v h => h = [] ∧ ∃ (m : AV) (mm : List Int), v = V29 c (.fn (.func 25) [] []) m ((t + 1 : Nat) : Int) ∧ Ns m mm ∧ leastL mm (L.drop (t + 1)) = leastL o ll ∧ t + 1 ≤ L.length)
    (fun e v h => e = .exit 0 ∧ h = [] ∧ ∃ (r x7 : AV), Ns r (leastL o ll) ∧ v = [c, .fn (.func 25) [] [], .junk, r, .v (.int .i64 L.length), .junk, .v (.bool false), x7])
    ll.length (m := L.length + 1) (v := [c, .fn (.func 25) [] [], .v (.slice none 0 0), d0, .v (.int .i64 1), .v (.bool false), .v undef, .v undef]) (h := []) (by omega) ⟨rfl, d0, o, rfl, n0, by rw [← hL]; rfl, by omega⟩ (by
      rintro t v h ht ⟨rfl, m, mm, rfl, hm, hl, htl⟩
      by_cases hlt : t + 1 < L.length
      · have l1 := lt_t hlt
        have w := wrap_succ (i := t + 1) (len := L.length) hlt hmax
        obtain ⟨d, e1, n1⟩ := hc.at hlt
        have hcm := compare_ok n1 hm
        rw [List.drop_eq_getElem_cons hlt, leastL] at hl
        cases hq : decide (cmpL L[t + 1] mm < 0) with
        | true =>
          rw [hq, if_pos rfl] at hl
          refine ⟨.normal, [c, .fn (.func 25) [] [], .junk, d, .v (.int .i64 ((t + 1 + 1 : Nat) : Int)), .junk, .v (.bool true), .v (.bool true)], [], ?_, by omega, rfl, d, L[t + 1], rfl, n1, hl, by omega⟩
          simp only [V29, c29_9, c29_5, c29_6, c29_7, c29_8, q1, l1, e1, w, ip_ld, e_callv, cv_fn, List.map_cons, List.map_nil, hcm, hq, Q0, Q1, Q2, Q3, Q4, Q5, Q6, Q7, Q8, Q9, Q10, Q11, Q12, Q13, Q14, Q15, Q16, Q17, Q18, Q19, Q20, Q21, Q22, Q23, Q24, Q25, Q26, Q27, Q28, Q29, Q30, Q31, Q32, Q33, Q35, Q36, Q37, Q38, Q39, Q40, Q41, Q42, Q43, Q44, Q45, Q46, Q47, Q48, Q49, Q50, Q51, Q52, Q53, Q54, Q55, Q56, Q57, Q58, Q59, Q60, Q61, Q62, Q63, Q64, Q65, Q66, Q67, Q68, Q69, Q70, Q71, Q72, Q73, Q99, Q100, Q101, Q102, Q103, Q74, Q75, Q77, Q78, Q79, Q80, Q81, Q82, Q83, Q84, clr, List.length_nil, List.length_cons, List.getElem?_cons_zero, List.getElem?_cons_succ, Nat.reduceAdd, Nat.zero_add, Nat.add_zero, Nat.reduceLeDiff, Nat.reduceSub, ↓reduceIte, List.drop_succ_cons, List.drop_zero, List.take_succ_cons, List.take_zero, Bool.false_eq_true, List.nil_append, List.cons_append, Bool.not_true, Bool.not_false, cond_true, cond_false, bne, Q85, Q86, Q87, Q88, Q89, Q90, Q91, Q92, Q93, Q94, Q95, Q96, Q97, Q98, Q110, Q111, Q116, Q117, Q118, Q119, Q120, Q121, Q122, Q123, Option.map_some, Option.map_none, Q34]
        | false =>
          rw [hq, if_neg (by simp)] at hl
          refine ⟨.normal, [c, .fn (.func 25) [] [], .junk, m, .v (.int .i64 ((t + 1 + 1 : Nat) : Int)), .junk, .v (.bool true), .v (.bool false)], [], ?_, by omega, rfl, m, mm, rfl, hm, hl, by omega⟩
          simp only [V29, c29_9, c29_5, c29_6, c29_8, q1, l1, e1, w, ip_ld, e_callv, cv_fn, List.map_cons, List.map_nil, hcm, hq, Q0, Q1, Q2, Q3, Q4, Q5, Q6, Q7, Q8, Q9, Q10, Q11, Q12, Q13, Q14, Q15, Q16, Q17, Q18, Q19, Q20, Q21, Q22, Q23, Q24, Q25, Q26, Q27, Q28, Q29, Q30, Q31, Q32, Q33, Q35, Q36, Q37, Q38, Q39, Q40, Q41, Q42, Q43, Q44, Q45, Q46, Q47, Q48, Q49, Q50, Q51, Q52, Q53, Q54, Q55, Q56, Q57, Q58, Q59, Q60, Q61, Q62, Q63, Q64, Q65, Q66, Q67, Q68, Q69, Q70, Q71, Q72, Q73, Q99, Q100, Q101, Q102, Q103, Q74, Q75, Q77, Q78, Q79, Q80, Q81, Q82, Q83, Q84, clr, List.length_nil, List.length_cons, List.getElem?_cons_zero, List.getElem?_cons_succ, Nat.reduceAdd, Nat.zero_add, Nat.add_zero, Nat.reduceLeDiff, Nat.reduceSub, ↓reduceIte, List.drop_succ_cons, List.drop_zero, List.take_succ_cons, List.take_zero, Bool.false_eq_true, List.nil_append, List.cons_append, Bool.not_true, Bool.not_false, cond_true, cond_false, bne, Q85, Q86, Q87, Q88, Q89, Q90, Q91, Q92, Q93, Q94, Q95, Q96, Q97, Q98, Q110, Q111, Q116, Q117, Q118, Q119, Q120, Q121, Q122, Q123, Option.map_some, Option.map_none, Q34]
      · have hie : t + 1 = L.length := by omega
        have l1 := lt_f (n := L.length)
        rw [hie, List.drop_length, leastL] at hl
        rw [hl] at hm
        refine ⟨.exit 0, [c, .fn (.func 25) [] [], .junk, m, .v (.int .i64 L.length), .junk, .v (.bool false), .junk], [], ?_, rfl, rfl, m, .junk, hm, rfl⟩
        rw [hie]
        simp only [V29, c29_9, c29_5, q1, l1, Q0, Q1, Q2, Q3, Q4, Q5, Q6, Q7, Q8, Q9, Q10, Q11, Q12, Q13, Q14, Q15, Q16, Q17, Q18, Q19, Q20, Q21, Q22, Q23, Q24, Q25, Q26, Q27, Q28, Q29, Q30, Q31, Q32, Q33, Q35, Q36, Q37, Q38, Q39, Q40, Q41, Q42, Q43, Q44, Q45, Q46, Q47, Q48, Q49, Q50, Q51, Q52, Q53, Q54, Q55, Q56, Q57, Q58, Q59, Q60, Q61, Q62, Q63, Q64, Q65, Q66, Q67, Q68, Q69, Q70, Q71, Q72, Q73, Q99, Q100, Q101, Q102, Q103, Q74, Q75, Q77, Q78, Q79, Q80, Q81, Q82, Q83, Q84, clr, List.length_nil, List.length_cons, List.getElem?_cons_zero, List.getElem?_cons_succ, Nat.reduceAdd, Nat.zero_add, Nat.add_zero, Nat.reduceLeDiff, Nat.reduceSub, ↓reduceIte, List.drop_succ_cons, List.drop_zero, List.take_succ_cons, List.take_zero, Bool.false_eq_true, List.nil_append, List.cons_append, Bool.not_true, Bool.not_false, cond_true, cond_false, bne, Q85, Q86, Q87, Q88, Q89, Q90, Q91, Q92, Q93, Q94, Q95, Q96, Q97, Q98, Q110, Q111, Q116, Q117, Q118, Q119, Q120, Q121, Q122, Q123, Option.map_some, Option.map_none, Q34])
  refine ⟨r, n1, callW_pure (c := c29) rfl rfl (L.length + 1) ?_⟩
  have z1 : decide ((L.length : Int) < 1) = false := decide_eq_false (by omega)
  have k0 : natV (.v (.int .i64 0)) = some 0 := rfl
  rw [show c29.body = (.seq (.region [] [] c29_0) (.seq (.seq (.region [] [] c29_1) (.cond (.var 5) (.region [] [] c29_2) .skip)) (.seq (.region [] [] c29_3) (.seq (.seq (.region [] [] c29_4) (.block 0 (.loop K29 [] c29_9))) (.seq (.region [] [] c29_10) .ret))))) from rfl]
  generalize c29_9 = bb at g1 ⊢
  have lr : ∀ h, lvf h r = some (r, []) := by
    intro h
    obtain ⟨hs, _⟩ := n1
    generalize (leastL o ll).map iv = es at hs
    cases hs <;> rfl
  simp only [c29, start, List.replicate, c29_0, c29_1, c29_3, c29_4, c29_10, q1, z1, e0, k0, ip_ld, g1, lr, Q0, Q1, Q2, Q3, Q4, Q5, Q6, Q7, Q8, Q9, Q10, Q11, Q12, Q13, Q14, Q15, Q16, Q17, Q18, Q19, Q20, Q21, Q22, Q23, Q24, Q25, Q26, Q27, Q28, Q29, Q30, Q31, Q32, Q33, Q35, Q36, Q37, Q38, Q39, Q40, Q41, Q42, Q43, Q44, Q45, Q46, Q47, Q48, Q49, Q50, Q51, Q52, Q53, Q54, Q55, Q56, Q57, Q58, Q59, Q60, Q61, Q62, Q63, Q64, Q65, Q66, Q67, Q68, Q69, Q70, Q71, Q72, Q73, Q99, Q100, Q101, Q102, Q103, Q74, Q75, Q77, Q78, Q79, Q80, Q81, Q82, Q83, Q84, clr, List.length_nil, List.length_cons, List.getElem?_cons_zero, List.getElem?_cons_succ, Nat.reduceAdd, Nat.zero_add, Nat.add_zero, Nat.reduceLeDiff, Nat.reduceSub, ↓reduceIte, List.drop_succ_cons, List.drop_zero, List.take_succ_cons, List.take_zero, Bool.false_eq_true, List.nil_append, List.cons_append, Bool.not_true, Bool.not_false, cond_true, cond_false, bne, Q85, Q86, Q87, Q88, Q89, Q90, Q91, Q92, Q93, Q94, Q95, Q96, Q97, Q98, Q110, Q111, Q116, Q117, Q118, Q119, Q120, Q121, Q122, Q123, Option.map_some, Option.map_none, Q34]
end Go.AE.Ytkdjdhfoodlnfaa
end

/-! Places are in a total order; what Put does to a log in order. -/
section
set_option linter.unusedVariables false
set_option linter.unusedSimpArgs false
namespace Go.AE.Ytkdjdhfoodlnfaa
open Go Go.AE Go.Proofs.Ytkdjdhfoodlnfaa

theorem cmp_lt {a b : Int} {l m : List Int} (h : a < b) : cmpL (a :: l) (b :: m) = -1 := by rw [cmpL, if_pos (decide_eq_true h)]
theorem cmp_gt {a b : Int} {l m : List Int} (h : b < a) : cmpL (a :: l) (b :: m) = 1 := by rw [cmpL, if_neg (by simp; omega), if_pos (decide_eq_true h)]
theorem cmp_eq {a : Int} {l m : List Int} : cmpL (a :: l) (a :: m) = cmpL l m := by rw [cmpL, if_neg (by simp), if_neg (by simp)]
theorem cmp_anti : ∀ (x y : List Int), cmpL y x = - cmpL x y
  | [], [] => rfl
  | [], _ :: _ => rfl
  | _ :: _, [] => rfl
  | a :: l, b :: m => by
    rcases Int.lt_trichotomy a b with h | h | h
    · rw [cmp_lt h, cmp_gt h]; rfl
    · subst h; rw [cmp_eq, cmp_eq]; exact cmp_anti l m
    · rw [cmp_lt h, cmp_gt h]
theorem cmp_zero : ∀ (x y : List Int), cmpL x y = 0 ↔ x = y
  | [], [] => by simp [cmpL]
  | [], _ :: _ => by simp [cmpL]
  | _ :: _, [] => by simp [cmpL]
  | a :: l, b :: m => by
    rcases Int.lt_trichotomy a b with h | h | h
    · rw [cmp_lt h, List.cons.injEq]; constructor
      · intro h2; cases h2
      · rintro ⟨rfl, _⟩; omega
    · subst h; rw [cmp_eq, cmp_zero l m]; simp
    · rw [cmp_gt h, List.cons.injEq]; constructor
      · intro h2; cases h2
      · rintro ⟨rfl, _⟩; omega
theorem cmp_trans : ∀ (x y z : List Int), cmpL x y < 0 → cmpL y z < 0 → cmpL x z < 0
  | [], [], _, h, _ => absurd h (by decide)
  | [], _ :: _, [], _, h => absurd h (by simp [cmpL])
  | [], _ :: _, _ :: _, _, _ => by simp [cmpL]
  | _ :: _, [], _, h, _ => absurd h (by simp [cmpL])
  | _ :: _, _ :: _, [], _, h => absurd h (by simp [cmpL])
  | a :: l, b :: m, c :: n, h1, h2 => by
    rcases Int.lt_trichotomy a b with h | h | h
    · rcases Int.lt_trichotomy b c with h' | h' | h'
      · rw [cmp_lt (by omega)]; decide
      · subst h'; rw [cmp_lt h]; decide
      · rw [cmp_gt h'] at h2; exact absurd h2 (by decide)
    · subst h
      rcases Int.lt_trichotomy a c with h' | h' | h'
      · rw [cmp_lt h']; decide
      · subst h'; rw [cmp_eq] at h1 h2 ⊢; exact cmp_trans l m n h1 h2
      · rw [cmp_gt h'] at h2; exact absurd h2 (by decide)
    · rw [cmp_gt h] at h1; exact absurd h1 (by decide)
theorem cmp_refl (x : List Int) : cmpL x x = 0 := (cmp_zero x x).2 rfl
theorem cmp_le_trans {x y z : List Int} (h1 : cmpL x y ≤ 0) (h2 : cmpL y z ≤ 0) : cmpL x z ≤ 0 := by
  by_cases a : cmpL x y = 0
  · rw [(cmp_zero _ _).1 a]; exact h2
  · by_cases b : cmpL y z = 0
    · rw [← (cmp_zero _ _).1 b]; exact h1
    · have := cmp_trans x y z (by omega) (by omega); omega
theorem cmp_lt_le {x y z : List Int} (h1 : cmpL x y < 0) (h2 : cmpL y z ≤ 0) : cmpL x z < 0 := by
  by_cases b : cmpL y z = 0
  · rw [← (cmp_zero _ _).1 b]; exact h1
  · exact cmp_trans x y z h1 (by omega)
theorem cmp_le_lt {x y z : List Int} (h1 : cmpL x y ≤ 0) (h2 : cmpL y z < 0) : cmpL x z < 0 := by
  by_cases b : cmpL x y = 0
  · rw [(cmp_zero _ _).1 b]; exact h2
  · exact cmp_trans x y z (by omega) h2
/-! ### Logs in order -/
theorem ord_cons {a : En} {l : List En} : ordL (a :: l) = true ↔ (∀ x ∈ l, cmpL a.lab x.lab < 0) ∧ ordL l = true := by
  induction l generalizing a with
  | nil => simp [ordL]
  | cons b l ih =>
    rw [ordL, Bool.and_eq_true, decide_eq_true_eq, ih]
    constructor
    · rintro ⟨h1, h2, h3⟩
      refine ⟨?_, h2, h3⟩
      intro x hx
      rcases List.mem_cons.1 hx with rfl | hx
      · exact h1
      · exact cmp_trans _ _ _ h1 (h2 x hx)
    · rintro ⟨h1, h2, h3⟩
      exact ⟨h1 b (List.mem_cons_self ..), h2, h3⟩
theorem ord_at {l : List En} (h : ordL l = true) {i j : Nat} (hij : i < j) (hj : j < l.length) : cmpL (l[i]'(by omega)).lab l[j].lab < 0 := by
  induction l generalizing i j with
  | nil => simp at hj
  | cons a l ih =>
    obtain ⟨h1, h2⟩ := ord_cons.1 h
    cases j with
    | zero => omega
    | succ j =>
      cases i with
      | zero => exact h1 _ (List.getElem_mem _)
      | succ i => exact ih h2 (by omega) (by simpa using hj)
def putL : List En → En → Option (List En)
  | [], e => some [e]
  | x :: l, e => if cmpL x.lab e.lab < 0 then (putL l e).map (x :: ·) else if cmpL x.lab e.lab = 0 then none else some (e :: x :: l)
theorem put_at : ∀ (l : List En) (e : En) (r : Nat), r ≤ l.length → (∀ (k : Nat) (h : k < l.length), k < r → cmpL l[k].lab e.lab < 0) → (∀ (h : r < l.length), cmpL l[r].lab e.lab ≥ 0) →
    putL l e = if h : r < l.length then (if cmpL l[r].lab e.lab = 0 then none else some (l.take r ++ e :: l.drop r)) else some (l.take r ++ e :: l.drop r)
  | [], e, r, hr, _, _ => by
    simp at hr
    subst hr
    simp [putL]
  | x :: l, e, 0, _, _, h2 => by
    have := h2 (by simp)
    simp only [List.getElem_cons_zero] at this
    rw [putL, if_neg (by omega), dif_pos (by simp)]
    simp only [List.getElem_cons_zero, List.take_zero, List.drop_zero, List.nil_append]
  | x :: l, e, r + 1, hr, h1, h2 => by
    have h0 := h1 0 (by simp) (by omega)
    simp only [List.getElem_cons_zero] at h0
    rw [putL, if_pos h0, put_at l e r (by simpa using hr) (fun k h hk => by have := h1 (k + 1) (by simp; omega) (by omega); simpa using this) (fun h => by have := h2 (by simp; omega); simpa using this)]
    by_cases hl : r < l.length
    · rw [dif_pos hl, dif_pos (by simp; omega)]
      simp only [List.getElem_cons_succ]
      split <;> simp
    · rw [dif_neg hl, dif_neg (by simp; omega)]
      simp
theorem put_mem {l : List En} {e : En} {m : List En} (h : putL l e = some m) : ∀ x, x ∈ m ↔ x = e ∨ x ∈ l := by
  induction l generalizing m with
  | nil => simp [putL] at h; subst h; simp
  | cons a l ih =>
    rw [putL] at h
    split at h
    · cases hp : putL l e with
      | none => rw [hp] at h; cases h
      | some m' =>
        rw [hp] at h
        simp at h
        subst h
        intro x
        rw [List.mem_cons, ih hp, List.mem_cons]
        constructor
        · rintro (h | h | h) <;> simp [h]
        · rintro (h | h | h) <;> simp [h]
    · split at h
      · cases h
      · simp at h; subst h; intro x; simp
theorem put_len {l : List En} {e : En} {m : List En} (h : putL l e = some m) : m.length = l.length + 1 := by
  induction l generalizing m with
  | nil => simp [putL] at h; subst h; simp
  | cons a l ih =>
    rw [putL] at h
    split at h
    · cases hp : putL l e with
      | none => rw [hp] at h; cases h
      | some m' =>
        rw [hp] at h
        simp at h
        subst h
        simp [ih hp]
    · split at h
      · cases h
      · simp at h; subst h; simp
theorem put_ord {l : List En} {e : En} {m : List En} (ho : ordL l = true) (h : putL l e = some m) : ordL m = true := by
  induction l generalizing m with
  | nil => simp [putL] at h; subst h; rfl
  | cons a l ih =>
    obtain ⟨h1, h2⟩ := ord_cons.1 ho
    rw [putL] at h
    split at h
    · rename_i hlt
      cases hp : putL l e with
      | none => rw [hp] at h; cases h
      | some m' =>
        rw [hp] at h
        simp at h
        subst h
        refine ord_cons.2 ⟨?_, ih h2 hp⟩
        intro x hx
        rcases (put_mem hp x).1 hx with rfl | hx
        · exact hlt
        · exact h1 x hx
    · split at h
      · cases h
      · rename_i h3 h4
        simp at h
        subst h
        have h5 : cmpL e.lab a.lab < 0 := by rw [cmp_anti]; omega
        refine ord_cons.2 ⟨?_, ho⟩
        intro x hx
        rcases List.mem_cons.1 hx with rfl | hx
        · exact h5
        · exact cmp_trans _ _ _ h5 (h1 x hx)
theorem put_none {l : List En} {e : En} (ho : ordL l = true) : putL l e = none ↔ ∃ x ∈ l, x.lab = e.lab := by
  induction l with
  | nil => simp [putL]
  | cons a l ih =>
    obtain ⟨h1, h2⟩ := ord_cons.1 ho
    rw [putL]
    split
    · rename_i hlt
      rw [Option.map_eq_none_iff, ih h2]
      have hne : a.lab ≠ e.lab := by intro h; rw [h, cmp_refl] at hlt; omega
      simp [hne]
    · rename_i hge
      split
      · rename_i h0
        simp [(cmp_zero _ _).1 h0]
      · rename_i h0
        simp only [reduceCtorEq, false_iff, not_exists, not_and, List.mem_cons, forall_eq_or_imp]
        refine ⟨fun h => h0 ((cmp_zero _ _).2 h), fun x hx h => ?_⟩
        have := h1 x hx
        rw [h] at this
        omega
end Go.AE.Ytkdjdhfoodlnfaa
end

/-! Ready, Drop, Put, big: walked. -/
section
set_option linter.unusedVariables false
set_option linter.unusedSimpArgs false
namespace Go.AE.Ytkdjdhfoodlnfaa
open Go Go.AE Go.Proofs.Ytkdjdhfoodlnfaa

theorem first_at {α : Type} {R : AV → α → Prop} {p : AV → Bool} {q : α → Bool} (hpq : ∀ a x, R a x → p a = q x) : ∀ {es : List AV} {l : List α}, AllR R es l → ∀ (k : Nat),
    firstAt p es k = if (l.takeWhile (fun x => !q x)).length < l.length then ((k + (l.takeWhile (fun x => !q x)).length : Nat) : Int) else -1
  | _, _, .nil, k => by simp [firstAt]
  | _, _, .cons a x es l h hs, k => by
    rw [firstAt, hpq a x h, List.takeWhile_cons]
    cases hq : q x with
    | true => simp
    | false =>
      rw [if_neg (by simp), first_at hpq hs (k + 1)]
      simp only [Bool.not_false, if_true, List.length_cons, Nat.add_lt_add_iff_right]
      split
      · congr 1; omega
      · rfl
theorem filter_R {α : Type} {R : AV → α → Prop} {p : AV → Bool} {q : α → Bool} (hpq : ∀ a x, R a x → p a = q x) : ∀ {es : List AV} {l : List α}, AllR R es l → AllR R (es.filter p) (l.filter q)
  | _, _, .nil => .nil
  | _, _, .cons a x es l h hs => by
    rw [List.filter_cons, List.filter_cons, hpq a x h]
    cases q x with
    | true => exact .cons _ _ _ _ h (filter_R hpq hs)
    | false => exact filter_R hpq hs
theorem Ns.bel {t : TypeId} {c : AV} {x : List Int} (h : Ns c x) (n : Nat) : AO.below n (.box t [c]) = true := by
  obtain ⟨hs, _⟩ := h
  generalize x.map iv = es at hs
  cases hs <;> rfl
theorem IsEn.elm {a : AV} {x : En} (h : IsEn a x) : El true 4 a := by
  have cl := h.cl
  cases h with
  | mk c lab hc k d ts hd e =>
    obtain ⟨hs, _⟩ := hc
    generalize lab.map iv = es at hs
    cases hs <;> cases hd <;> exact ⟨rfl, rfl, fun _ => rfl, cl, rfl, rfl⟩
theorem Lg.elm {es : List AV} {l : List En} (h : AllR IsEn es l) : ∀ e ∈ es, El true 4 e := by
  intro e he
  obtain ⟨x, _, hx⟩ := h.mem e he
  exact hx.elm
def ansB : Option (AV × List AO) → Bool
  | some (.v (.bool b), _) => b
  | _ => false
def readyL (l : List En) : List (List Int) → Nat
  | [] => l.length
  | o :: ll => (l.takeWhile (fun x => decide (cmpL x.lab (leastL o ll) < 0))).length
theorem ready_ok {c d : AV} {l : List En} {op : List (List Int)} (hc : Lg c l) (hd : Nss d op) : callW F 15 [c, d] [] = some (.v (.int .i64 (readyL l op)), []) := by
  have q1 := fun H => hc.len H
  have q2 := fun H => hd.len H
  cases op with
  | nil =>
    refine callW_pure (c := c15) rfl rfl 0 ?_
    have z : ((([] : List (List Int)).length : Int) == 0) = true := rfl
    generalize ([] : List (List Int)).length = n0 at q2 z
    simp only [c15, start, List.replicate, c15_0, c15_1, c15_2, q1, q2, z, readyL, Q0, Q1, Q2, Q3, Q4, Q5, Q6, Q7, Q8, Q9, Q10, Q11, Q12, Q13, Q14, Q15, Q16, Q17, Q18, Q19, Q20, Q21, Q22, Q23, Q24, Q25, Q26, Q27, Q28, Q29, Q30, Q31, Q32, Q33, Q35, Q36, Q37, Q38, Q39, Q40, Q41, Q42, Q43, Q44, Q45, Q46, Q47, Q48, Q49, Q50, Q51, Q52, Q53, Q54, Q55, Q56, Q57, Q58, Q59, Q60, Q61, Q62, Q63, Q64, Q65, Q66, Q67, Q68, Q69, Q70, Q71, Q72, Q73, Q99, Q100, Q101, Q102, Q103, Q74, Q75, Q77, Q78, Q79, Q80, Q81, Q82, Q83, Q84, clr, List.length_nil, List.length_cons, List.getElem?_cons_zero, List.getElem?_cons_succ, Nat.reduceAdd, Nat.zero_add, Nat.add_zero, Nat.reduceLeDiff, Nat.reduceSub, ↓reduceIte, List.drop_succ_cons, List.drop_zero, List.take_succ_cons, List.take_zero, Bool.false_eq_true, List.nil_append, List.cons_append, Bool.not_true, Bool.not_false, cond_true, cond_false, bne, Q85, Q86, Q87, Q88, Q89, Q90, Q91, Q92, Q93, Q94, Q95, Q96, Q97, Q98, Q110, Q111, Q116, Q117, Q118, Q119, Q120, Q121, Q122, Q123, Option.map_some, Option.map_none, Q34]
  | cons o ll =>
    obtain ⟨r, hr, h29⟩ := least1_ok hd
    have z : (((o :: ll).length : Int) == 0) = false := by simp; omega
    have cr := Ns.cl1 hr
    obtain ⟨es, hs, ha, hm⟩ := hc
    have hb : ([.box 23 [r]] : List AO).all (AO.below ([.box 23 [r]] : List AO).length) = true := by simp only [List.all_cons, List.all_nil, hr.bel, Bool.and_true]
    let p : AV → Bool := fun a => ansB (callW F 31 [a, .ptr 0 0] [.box 23 [r]])
    have hp : ∀ a x, IsEn a x → p a = decide (cmpL x.lab (leastL o ll) ≥ 0) := by
      intro a x h
      simp only [p, least_ok h hr (H := [.box 23 [r]]) (i := 0) rfl hb, ansB]
    have hi := index_run (F := F) (fi := 30) (g := 31) (agg := true) (sz := 4) (first := []) (cap := [.ptr 0 0]) (p := p) (H := [.box 23 [r]]) (s := c) (l := es) rfl hb (Rd.sl hs (Lg.elm ha)) hm (by
      intro a ha'
      obtain ⟨x, _, hx⟩ := ha.mem a ha'
      rw [hp a x hx]
      exact least_ok hx hr rfl hb)
    rw [first_at hp ha 0] at hi
    have tw : (fun x : En => !decide (cmpL x.lab (leastL o ll) ≥ 0)) = (fun x : En => decide (cmpL x.lab (leastL o ll) < 0)) := by
      funext x
      by_cases h : cmpL x.lab (leastL o ll) < 0
      · rw [decide_eq_true h, decide_eq_false (by omega)]; rfl
      · rw [decide_eq_false h, decide_eq_true (by omega)]; rfl
    rw [tw, Nat.zero_add] at hi
    have st : Q113 [.box 23 [.v (.slice none 0 0)]] 1 (.ptr 0 0) r = some [.box 23 [r]] := by
      simp only [Q113, List.getElem?_cons_zero]
      have s1 := hr.sn ([.box 23 [.v (.slice none 0 0)]] : List AO)
      simp only [cr, s1]
      first | rfl | simp [Q112]
    refine callW_pure (c := c15) rfl rfl 0 ?_
    have hle : (l.takeWhile (fun x => decide (cmpL x.lab (leastL o ll) < 0))).length ≤ l.length := (List.takeWhile_sublist _).length_le
    simp only [readyL]
    generalize (l.takeWhile (fun x => decide (cmpL x.lab (leastL o ll) < 0))).length = n at hi hle
    generalize (o :: ll).length = n1 at q2 z
    by_cases hn : n < l.length
    · rw [if_pos hn] at hi
      have z2 : decide ((n : Int) < 0) = false := decide_eq_false (by omega)
      simp only [c15, start, List.replicate, c15_0, c15_1, c15_3, c15_4, c15_5, c15_7, q1, q2, z, Q121, g_fnk, h29, Q34, st, e_mkfn, List.map_cons, List.map_nil, hi, z2, Q0, Q1, Q2, Q3, Q4, Q5, Q6, Q7, Q8, Q9, Q10, Q11, Q12, Q13, Q14, Q15, Q16, Q17, Q18, Q19, Q20, Q21, Q22, Q23, Q24, Q25, Q26, Q27, Q28, Q29, Q30, Q31, Q32, Q33, Q35, Q36, Q37, Q38, Q39, Q40, Q41, Q42, Q43, Q44, Q45, Q46, Q47, Q48, Q49, Q50, Q51, Q52, Q53, Q54, Q55, Q56, Q57, Q58, Q59, Q60, Q61, Q62, Q63, Q64, Q65, Q66, Q67, Q68, Q69, Q70, Q71, Q72, Q73, Q99, Q100, Q101, Q102, Q103, Q74, Q75, Q77, Q78, Q79, Q80, Q81, Q82, Q83, Q84, clr, List.length_nil, List.length_cons, List.getElem?_cons_zero, List.getElem?_cons_succ, Nat.reduceAdd, Nat.zero_add, Nat.add_zero, Nat.reduceLeDiff, Nat.reduceSub, ↓reduceIte, List.drop_succ_cons, List.drop_zero, List.take_succ_cons, List.take_zero, Bool.false_eq_true, List.nil_append, List.cons_append, Bool.not_true, Bool.not_false, cond_true, cond_false, bne, Q85, Q86, Q87, Q88, Q89, Q90, Q91, Q92, Q93, Q94, Q95, Q96, Q97, Q98, Q110, Q111, Q116, Q117, Q118, Q119, Q120, Q121, Q122, Q123, Option.map_some, Option.map_none, Q34]
    · rw [if_neg hn] at hi
      have hnl : n = l.length := by omega
      have z2 : decide ((-1 : Int) < 0) = true := rfl
      subst hnl
      simp only [c15, start, List.replicate, c15_0, c15_1, c15_3, c15_4, c15_5, c15_6, q1, q2, z, Q121, g_fnk, h29, Q34, st, e_mkfn, List.map_cons, List.map_nil, hi, z2, Q0, Q1, Q2, Q3, Q4, Q5, Q6, Q7, Q8, Q9, Q10, Q11, Q12, Q13, Q14, Q15, Q16, Q17, Q18, Q19, Q20, Q21, Q22, Q23, Q24, Q25, Q26, Q27, Q28, Q29, Q30, Q31, Q32, Q33, Q35, Q36, Q37, Q38, Q39, Q40, Q41, Q42, Q43, Q44, Q45, Q46, Q47, Q48, Q49, Q50, Q51, Q52, Q53, Q54, Q55, Q56, Q57, Q58, Q59, Q60, Q61, Q62, Q63, Q64, Q65, Q66, Q67, Q68, Q69, Q70, Q71, Q72, Q73, Q99, Q100, Q101, Q102, Q103, Q74, Q75, Q77, Q78, Q79, Q80, Q81, Q82, Q83, Q84, clr, List.length_nil, List.length_cons, List.getElem?_cons_zero, List.getElem?_cons_succ, Nat.reduceAdd, Nat.zero_add, Nat.add_zero, Nat.reduceLeDiff, Nat.reduceSub, ↓reduceIte, List.drop_succ_cons, List.drop_zero, List.take_succ_cons, List.take_zero, Bool.false_eq_true, List.nil_append, List.cons_append, Bool.not_true, Bool.not_false, cond_true, cond_false, bne, Q85, Q86, Q87, Q88, Q89, Q90, Q91, Q92, Q93, Q94, Q95, Q96, Q97, Q98, Q110, Q111, Q116, Q117, Q118, Q119, Q120, Q121, Q122, Q123, Option.map_some, Option.map_none, Q34]
def dropL (l : List En) (y : List Int) (d : Int) : List En := l.filter (fun x => !prunedL x.lab y d)
theorem drop_ok {c s : AV} {l : List En} {y : List Int} (hs : Lg s l) (hl : l.length ≤ 1000000) (hc : Ns c y) (d : Int) : ∃ r, Lg r (dropL l y d) ∧ callW F 16 [s, c, .v (.int .i64 d)] [] = some (r, []) := by
  have cc := Ns.cl1 hc
  obtain ⟨es, hsl, ha, hm⟩ := hs
  have hel : es.length ≤ 1000000 := by rw [ha.length]; exact hl
  have hcl := clone_call (F' := F) (f := 27) (rt := 29) (sz := 4) (bytes := 64) rfl (hsl.elems [.box 23 [c], .box 3 [.v (.int .i64 d)]]) (fits_small hel (by omega))
  have hb0 : ∀ n, AO.below n (.box 3 [.v (.int .i64 d)]) = true := fun _ => rfl
  cases es with
  | nil =>
    have hl0 : l = [] := by have := ha.length; exact List.length_eq_zero_iff.1 (by simpa using this.symm)
    subst hl0
    simp only [cloneR] at hcl
    have hb : ([.box 23 [c], .box 3 [.v (.int .i64 d)]] : List AO).all (AO.below ([.box 23 [c], .box 3 [.v (.int .i64 d)]] : List AO).length) = true := by simp only [List.all_cons, List.all_nil, hc.bel, hb0, Bool.and_true]
    have hd := delete_none (F := F) (f := 32) (fi := 30) (g := 33) (bt := 29) (agg := true) (sz := 4) (zero := [.slice none 0 0, .int .i64 0, .slice none 0 0, .int .i64 0]) (first := []) (cap := [.ptr 0 0, .ptr 1 0]) (p := fun _ => false) rfl rfl hb (s := .slc 4 true false []) (l := []) (Rd.sl (.slc _ _ _) (fun e h => by simp at h)) (by simp) rfl (fun x h => by simp at h) (fun x h => by simp at h)
    refine ⟨.slc 4 true false [], ⟨[], .slc _ _ _, .nil, by simp⟩, callW_pure (c := c16) rfl rfl 0 ?_⟩
    simp only [c16, start, List.replicate, c16_0, c16_1, cc, e_callh, hcl, Q121, e_mkfn, List.map_cons, List.map_nil, hd, Q0, Q1, Q2, Q3, Q4, Q5, Q6, Q7, Q8, Q9, Q10, Q11, Q12, Q13, Q14, Q15, Q16, Q17, Q18, Q19, Q20, Q21, Q22, Q23, Q24, Q25, Q26, Q27, Q28, Q29, Q30, Q31, Q32, Q33, Q35, Q36, Q37, Q38, Q39, Q40, Q41, Q42, Q43, Q44, Q45, Q46, Q47, Q48, Q49, Q50, Q51, Q52, Q53, Q54, Q55, Q56, Q57, Q58, Q59, Q60, Q61, Q62, Q63, Q64, Q65, Q66, Q67, Q68, Q69, Q70, Q71, Q72, Q73, Q99, Q100, Q101, Q102, Q103, Q74, Q75, Q77, Q78, Q79, Q80, Q81, Q82, Q83, Q84, clr, List.length_nil, List.length_cons, List.getElem?_cons_zero, List.getElem?_cons_succ, Nat.reduceAdd, Nat.zero_add, Nat.add_zero, Nat.reduceLeDiff, Nat.reduceSub, ↓reduceIte, List.drop_succ_cons, List.drop_zero, List.take_succ_cons, List.take_zero, Bool.false_eq_true, List.nil_append, List.cons_append, Bool.not_true, Bool.not_false, cond_true, cond_false, bne, Q85, Q86, Q87, Q88, Q89, Q90, Q91, Q92, Q93, Q94, Q95, Q96, Q97, Q98, Q110, Q111, Q116, Q117, Q118, Q119, Q120, Q121, Q122, Q123, Option.map_some, Option.map_none, Q34]
  | cons e0 es0 =>
    simp only [cloneR] at hcl
    generalize hE : e0 :: es0 = es at *
    have hne : (es0.length + 1) = es.length := by rw [← hE]; rfl
    rw [hne] at hcl
    have hb : ([.box 23 [c], .box 3 [.v (.int .i64 d)], .row 29 4 0 es 0] : List AO).all (AO.below ([.box 23 [c], .box 3 [.v (.int .i64 d)], .row 29 4 0 es 0] : List AO).length) = true := by
      simp only [List.all_cons, List.all_nil, hc.bel, hb0, Bool.and_true, Bool.true_and]; rfl
    let H0 : List AO := [.box 23 [c], .box 3 [.v (.int .i64 d)]]
    have hbH : H0.all (AO.below H0.length) = true := by simp only [H0, List.all_cons, List.all_nil, hc.bel, hb0, Bool.and_true]
    let p : AV → Bool := fun a => ansB (callW F 33 [a, .ptr 0 0, .ptr 1 0] H0)
    have hp : ∀ a x, IsEn a x → p a = prunedL x.lab y d := by
      intro a x h
      simp only [p, cut_ok h hc (H := H0) (i := 0) (j := 1) rfl rfl hbH, ansB]
    obtain ⟨L', h1, h2, h3, _⟩ := delete_run (F := F) (f := 32) (fi := 30) (g := 33) (bt := 29) (rt := 29) (agg := true) (sz := 4) (zero := [.slice none 0 0, .int .i64 0, .slice none 0 0, .int .i64 0]) (first := []) (cap := [.ptr 0 0, .ptr 1 0]) (p := p) (H := [.box 23 [c], .box 3 [.v (.int .i64 d)], .row 29 4 0 es 0]) (id := 2) (ver := 0) (l := es) rfl rfl hb rfl hm (Lg.elm ha) ⟨rfl, rfl, fun _ => rfl, rfl, rfl, rfl⟩ ⟨by kernel_rfl, rfl⟩ (by
      intro a ha' h hbh hoth
      obtain ⟨x, _, hx⟩ := ha.mem a ha'
      rw [hp a x hx]
      exact cut_ok hx hc (hoth 0 _ (by decide) rfl) (hoth 1 _ (by decide) rfl) hbh)
    have hfr := filter_R (p := fun x => !p x) (q := fun x => !prunedL x.lab y d) (fun a x h => by rw [hp a x h]) ha
    generalize hq : es.filter (fun x => !p x) = q at h1 h3 hfr
    have hql : q.length ≤ es.length := by rw [← hq]; exact List.length_filter_le _ _
    have lf := lvf_own (h := rowH [.box 23 [c], .box 3 [.v (.int .i64 d)], .row 29 4 0 es 0] 29 2 4 0 L') (id := 2) (n := q.length) (by simp [rowH]; exact ⟨rfl, rfl, rfl, rfl, rfl⟩) (by omega)
    rw [h3] at lf
    refine ⟨.slc 4 false false q, ⟨q, .slc _ _ _, hfr, by omega⟩, callW_pure (c := c16) rfl rfl 0 ?_⟩
    have app : ([.box 23 [c], .box 3 [.v (.int .i64 d)]] : List AO) ++ [.row 29 4 0 es 0] = [.box 23 [c], .box 3 [.v (.int .i64 d)], .row 29 4 0 es 0] := rfl
    rw [app] at hcl
    simp only [List.length_cons, List.length_nil, Nat.reduceAdd] at hcl
    simp only [c16, start, List.replicate, c16_0, c16_1, cc, e_callh, hcl, Q121, e_mkfn, List.map_cons, List.map_nil, h1, lf, Q0, Q1, Q2, Q3, Q4, Q5, Q6, Q7, Q8, Q9, Q10, Q11, Q12, Q13, Q14, Q15, Q16, Q17, Q18, Q19, Q20, Q21, Q22, Q23, Q24, Q25, Q26, Q27, Q28, Q29, Q30, Q31, Q32, Q33, Q35, Q36, Q37, Q38, Q39, Q40, Q41, Q42, Q43, Q44, Q45, Q46, Q47, Q48, Q49, Q50, Q51, Q52, Q53, Q54, Q55, Q56, Q57, Q58, Q59, Q60, Q61, Q62, Q63, Q64, Q65, Q66, Q67, Q68, Q69, Q70, Q71, Q72, Q73, Q99, Q100, Q101, Q102, Q103, Q74, Q75, Q77, Q78, Q79, Q80, Q81, Q82, Q83, Q84, clr, List.length_nil, List.length_cons, List.getElem?_cons_zero, List.getElem?_cons_succ, Nat.reduceAdd, Nat.zero_add, Nat.add_zero, Nat.reduceLeDiff, Nat.reduceSub, ↓reduceIte, List.drop_succ_cons, List.drop_zero, List.take_succ_cons, List.take_zero, Bool.false_eq_true, List.nil_append, List.cons_append, Bool.not_true, Bool.not_false, cond_true, cond_false, bne, Q85, Q86, Q87, Q88, Q89, Q90, Q91, Q92, Q93, Q94, Q95, Q96, Q97, Q98, Q110, Q111, Q116, Q117, Q118, Q119, Q120, Q121, Q122, Q123, Option.map_some, Option.map_none, Q34]
end Go.AE.Ytkdjdhfoodlnfaa
end

/-! Put, big: walked. -/
section
set_option linter.unusedVariables false
set_option linter.unusedSimpArgs false
namespace Go.AE.Ytkdjdhfoodlnfaa
open Go Go.AE Go.Proofs.Ytkdjdhfoodlnfaa

theorem AllR.ins {α : Type} {R : AV → α → Prop} {a : AV} {x : α} (h : R a x) : ∀ {es : List AV} {l : List α}, AllR R es l → ∀ (r : Nat), AllR R (insAt es r a) (l.take r ++ x :: l.drop r)
  | _, _, .nil, r => by simp [insAt]; exact .cons _ _ _ _ h .nil
  | _, _, .cons b y es l hb hs, 0 => by simp [insAt]; exact .cons _ _ _ _ h (.cons _ _ _ _ hb hs)
  | _, _, .cons b y es l hb hs, r + 1 => by
    have := AllR.ins h hs r
    simp only [insAt, List.take_succ_cons, List.drop_succ_cons, List.cons_append] at this ⊢
    exact .cons _ _ _ _ hb this
theorem lvf_own2 {rt : TypeId} {h : List AO} {sz id ver n k : Nat} {l : List AV} {x : Value} (hr : h[id]? = some (.row rt sz ver l k)) (hn : n ≤ l.length) : lvf h (.tup [.own sz id ver 0 n, .v x]) = some (.tup [.slc sz false false (l.take n), .v x], []) := by
  simp [lvf, AV.frz2, AV.frz1, AV.frz0, row_at hr hn]
theorem put_ok {s a : AV} {l : List En} {x : En} (hs : Lg s l) (hl : l.length ≤ 900000) (ho : ordL l = true) (ha : IsEn a x) :
    (putL l x = none ∧ callW F 11 [s, a] [] = some (.tup [.v (.slice none 0 0), .v (.int .i64 1)], [])) ∨ (∃ m r, putL l x = some m ∧ Lg r m ∧ callW F 11 [s, a] [] = some (.tup [r, .v (.int .i64 0)], [])) := by
  have cl := ha.cl
  have hel := ha.elm
  have q1 := fun H => hs.len H
  have hs' := hs
  obtain ⟨es, hsl, hae, hm⟩ := hs
  have hen : es.length = l.length := hae.length
  cases ha with
  | mk c1 lab hc k dd ts hd e =>
  simp only [AV.cells] at cl
  have hsc := hsl.cl
  have hbs : ∀ n, AO.below n (.box 22 [s]) = true := fun n => by cases hsl <;> rfl
  have hbe : ∀ n, AO.below n (.box 29 [c1, .v (.int .i64 k), dd, .v (.int .i64 e)]) = true := fun n => below_mono (Nat.zero_le n) _ hel.bel
  let H0 : List AO := [.box 22 [s], .box 29 [c1, .v (.int .i64 k), dd, .v (.int .i64 e)]]
  have hb : H0.all (AO.below H0.length) = true := by simp only [H0, List.all_cons, List.all_nil, hbs, hbe, Bool.and_true]
  let p : Nat → Bool := fun j => if h : j < l.length then decide (cmpL l[j].lab lab ≥ 0) else true
  have pe : ∀ j (h : j < l.length), p j = decide (cmpL l[j].lab lab ≥ 0) := fun j h => by simp only [p]; rw [dif_pos h]
  obtain ⟨r, h23, hr, r1, r2⟩ := search_ok (g := 24) (first := []) (cap := [.ptr 0 0, .ptr 1 0]) (H := H0) (n := l.length) (p := p) hb (by omega) (by
    intro j hj
    rw [pe j hj]
    exact find_ok hs' hc rfl rfl hb hj) (by
    intro i j hij hj h
    rw [pe i (by omega), decide_eq_true_eq] at h
    rw [pe j hj, decide_eq_true_eq]
    rcases Nat.lt_or_eq_of_le hij with h1 | rfl
    · have := ord_at ho h1 hj
      have h2 := cmp_le_lt (x := lab) (y := l[i].lab) (z := l[j].lab) (by rw [cmp_anti]; omega) this
      rw [cmp_anti]; omega
    · exact h)
  have hput := put_at l ⟨lab, k, ts, e⟩ r hr (by
    intro j hj hjr
    have := r1 j hjr
    rw [pe j hj, decide_eq_false_iff_not] at this
    simp only; omega) (by
    intro h
    have := r2 h
    rw [pe r h, decide_eq_true_eq] at this
    exact this)
  simp only [H0, List.nil_append] at h23
  have l0 : ∀ G, Q76 (.box 22 [s] :: G) false 1 (.ptr 0 0) = some s := fun _ => rfl
  have l1 : ∀ x G, Q76 (x :: .box 29 [c1, .v (.int .i64 k), dd, .v (.int .i64 e)] :: G) false 1 (.ptr 1 0) = some c1 := fun _ _ => rfl
  have l4 : ∀ x G, Q76 (x :: .box 29 [c1, .v (.int .i64 k), dd, .v (.int .i64 e)] :: G) true 4 (.ptr 1 0) = some (.agg [c1, .v (.int .i64 k), dd, .v (.int .i64 e)]) := fun _ _ => rfl
  have s2 := fun H => hc.sn H
  have sn := hel.snap
  have lt2 : ∀ h, lvf h (.tup [.v (.slice none 0 0), .v (.int .i64 1)]) = some (.tup [.v (.slice none 0 0), .v (.int .i64 1)], []) := fun _ => rfl
  have lt1 : ∀ h (l : List AV), lvf h (.tup [.slc 4 false false l, .v (.int .i64 0)]) = some (.tup [.slc 4 false false l, .v (.int .i64 0)], []) := fun _ _ => rfl
  have hbx : bx [] 22 (some [s]) = some (.ptr 0 0, [.box 22 [s]]) := rfl
  -- the last step
  have ins : (∀ (x : Bool), r < l.length → True) → ∀ (w : Prop), ∃ res, Lg res (l.take r ++ (⟨lab, k, ts, e⟩ : En) :: l.drop r) ∧ (∀ h, (∃ y, lvf h y = some (res, [])) → True) ∧
      ∀ (v : List AV), lv c11.res (exec (callW F) 0 (.seq (.region [] [] c11_4) .ret) [s, .agg [c1, .v (.int .i64 k), dd, .v (.int .i64 e)], .ptr 0 0, .ptr 1 0, .v (.slice none 0 0), .v (.int .i64 0), .v (.int .i64 r), .v (.bool false)] [.box 22 [s], .box 29 [c1, .v (.int .i64 k), dd, .v (.int .i64 e)]]) = some (.tup [res, .v (.int .i64 0)], []) := by
    intro _ w
    have hcl := clone_call (F' := F) (f := 27) (rt := 29) (sz := 4) (bytes := 64) rfl (hsl.elems [.box 22 [s], .box 29 [c1, .v (.int .i64 k), dd, .v (.int .i64 e)]]) (fits_small (by omega) (by omega))
    have hins := AllR.ins (R := IsEn) (.mk c1 lab hc k dd ts hd e) hae r
    have hil : (insAt es r (.agg [c1, .v (.int .i64 k), dd, .v (.int .i64 e)])).length = l.length + 1 := by rw [insAt_len (by omega), hen]
    cases es with
    | nil =>
      have hl0 : l.length = 0 := by rw [← hen]; rfl
      have hr0 : r = 0 := by omega
      subst hr0
      simp only [cloneR] at hcl
      have h26 : ∀ ex nn, callW F 26 [.slc 4 true false [], .v (.int .i64 0), .slc 4 ex nn [.agg [c1, .v (.int .i64 k), dd, .v (.int .i64 e)]]] [.box 22 [s], .box 29 [c1, .v (.int .i64 k), dd, .v (.int .i64 e)]] = some (.own 4 2 0 0 1, [.box 22 [s], .box 29 [c1, .v (.int .i64 k), dd, .v (.int .i64 e)], .row 29 4 0 [.agg [c1, .v (.int .i64 k), dd, .v (.int .i64 e)]] 0]) := by
        intro ex nn
        refine callW_oracle (g := insG 29 4 64) rfl ?_
        have : fits 1 64 = true := fits_small (by omega) (by omega)
        simp [insG, this]
      have lf := lvf_own2 (x := .int .i64 0) (h := [.box 22 [s], .box 29 [c1, .v (.int .i64 k), dd, .v (.int .i64 e)], .row 29 4 0 [.agg [c1, .v (.int .i64 k), dd, .v (.int .i64 e)]] 0]) (rt := 29) (sz := 4) (ver := 0) (k := 0) (id := 2) (n := 1) (l := [.agg [c1, .v (.int .i64 k), dd, .v (.int .i64 e)]]) rfl (by simp)
      simp only [List.take_succ_cons, List.take_zero] at lf
      refine ⟨.slc 4 false false [.agg [c1, .v (.int .i64 k), dd, .v (.int .i64 e)]], ⟨_, .slc _ _ _, hins, by simp; decide⟩, fun _ _ => trivial, fun v => ?_⟩
      have z0 : ((0 : Nat) : Int) = 0 := rfl
      have hres : c11.res = [.var 4, .var 5] := rfl
      rw [hres, z0]
      simp only [c11_4, l0, l4, e_callh, List.map_cons, List.map_nil, hcl, sn, cl, if_true, h26, lf, lt1, Q104, Q105, bs1, bs2, Q106, Q107, Q108, Q109, bd1, Q110, Q111, toL, List.map_cons, List.map_nil, Q112, List.set_cons_zero, List.set_cons_succ, and_self, Nat.le_refl, Q114, Q115, Q116, Q0, Q1, Q2, Q3, Q4, Q5, Q6, Q7, Q8, Q9, Q10, Q11, Q12, Q13, Q14, Q15, Q16, Q17, Q18, Q19, Q20, Q21, Q22, Q23, Q24, Q25, Q26, Q27, Q28, Q29, Q30, Q31, Q32, Q33, Q35, Q36, Q37, Q38, Q39, Q40, Q41, Q42, Q43, Q44, Q45, Q46, Q47, Q48, Q49, Q50, Q51, Q52, Q53, Q54, Q55, Q56, Q57, Q58, Q59, Q60, Q61, Q62, Q63, Q64, Q65, Q66, Q67, Q68, Q69, Q70, Q71, Q72, Q73, Q99, Q100, Q101, Q102, Q103, Q74, Q75, Q77, Q78, Q79, Q80, Q81, Q82, Q83, Q84, clr, List.length_nil, List.length_cons, List.getElem?_cons_zero, List.getElem?_cons_succ, Nat.reduceAdd, Nat.zero_add, Nat.add_zero, Nat.reduceLeDiff, Nat.reduceSub, ↓reduceIte, List.drop_succ_cons, List.drop_zero, List.take_succ_cons, List.take_zero, Bool.false_eq_true, List.nil_append, List.cons_append, Bool.not_true, Bool.not_false, cond_true, cond_false, bne, Q85, Q86, Q87, Q88, Q89, Q90, Q91, Q92, Q93, Q94, Q95, Q96, Q97, Q98, Q110, Q111, Q116, Q117, Q118, Q119, Q120, Q121, Q122, Q123, Option.map_some, Option.map_none, Q34]
    | cons e0 es0 =>
      simp only [cloneR] at hcl
      generalize hE : e0 :: es0 = es at *
      have hne : (es0.length + 1) = l.length := by rw [← hen, ← hE]; rfl
      rw [hne] at hcl
      have h26 : ∀ ex nn, callW F 26 [.own 4 2 0 0 l.length, .v (.int .i64 r), .slc 4 ex nn [.agg [c1, .v (.int .i64 k), dd, .v (.int .i64 e)]]] [.box 22 [s], .box 29 [c1, .v (.int .i64 k), dd, .v (.int .i64 e)], .row 29 4 0 es 0] = some (.own 4 2 1 0 (l.length + 1), [.box 22 [s], .box 29 [c1, .v (.int .i64 k), dd, .v (.int .i64 e)], .row 29 4 1 (insAt es r (.agg [c1, .v (.int .i64 k), dd, .v (.int .i64 e)])) 0]) := by
        intro ex nn
        refine callW_oracle (g := insG 29 4 64) rfl ?_
        have hf : fits (l.length + 1) 64 = true := fits_small (by omega) (by omega)
        have a1 : (r : Int) ≤ (l.length : Int) := by omega
        have a2 : 0 < l.length := by omega
        simp [insG, hf, a1, a2, hen]
      have lf := lvf_own2 (x := .int .i64 0) (h := [.box 22 [s], .box 29 [c1, .v (.int .i64 k), dd, .v (.int .i64 e)], .row 29 4 1 (insAt es r (.agg [c1, .v (.int .i64 k), dd, .v (.int .i64 e)])) 0]) (rt := 29) (sz := 4) (ver := 1) (k := 0) (id := 2) (n := l.length + 1) rfl (by omega)
      rw [List.take_of_length_le (by omega)] at lf
      have app : ([.box 22 [s], .box 29 [c1, .v (.int .i64 k), dd, .v (.int .i64 e)]] : List AO) ++ [.row 29 4 0 es 0] = [.box 22 [s], .box 29 [c1, .v (.int .i64 k), dd, .v (.int .i64 e)], .row 29 4 0 es 0] := rfl
      rw [app] at hcl
      simp only [List.length_cons, List.length_nil, Nat.reduceAdd] at hcl
      have hmx : maxLen = 9223372036854775807 := rfl
      refine ⟨.slc 4 false false (insAt es r (.agg [c1, .v (.int .i64 k), dd, .v (.int .i64 e)])), ⟨_, .slc _ _ _, hins, by omega⟩, fun _ _ => trivial, fun v => ?_⟩
      have hres : c11.res = [.var 4, .var 5] := rfl
      rw [hres]
      simp only [c11_4, l0, l4, e_callh, List.map_cons, List.map_nil, hcl, sn, cl, if_true, h26, lf, lt1, Q104, Q105, bs1, bs2, Q106, Q107, Q108, Q109, bd1, Q110, Q111, toL, List.map_cons, List.map_nil, Q112, List.set_cons_zero, List.set_cons_succ, and_self, Nat.le_refl, Q114, Q115, Q116, Q0, Q1, Q2, Q3, Q4, Q5, Q6, Q7, Q8, Q9, Q10, Q11, Q12, Q13, Q14, Q15, Q16, Q17, Q18, Q19, Q20, Q21, Q22, Q23, Q24, Q25, Q26, Q27, Q28, Q29, Q30, Q31, Q32, Q33, Q35, Q36, Q37, Q38, Q39, Q40, Q41, Q42, Q43, Q44, Q45, Q46, Q47, Q48, Q49, Q50, Q51, Q52, Q53, Q54, Q55, Q56, Q57, Q58, Q59, Q60, Q61, Q62, Q63, Q64, Q65, Q66, Q67, Q68, Q69, Q70, Q71, Q72, Q73, Q99, Q100, Q101, Q102, Q103, Q74, Q75, Q77, Q78, Q79, Q80, Q81, Q82, Q83, Q84, clr, List.length_nil, List.length_cons, List.getElem?_cons_zero, List.getElem?_cons_succ, Nat.reduceAdd, Nat.zero_add, Nat.add_zero, Nat.reduceLeDiff, Nat.reduceSub, ↓reduceIte, List.drop_succ_cons, List.drop_zero, List.take_succ_cons, List.take_zero, Bool.false_eq_true, List.nil_append, List.cons_append, Bool.not_true, Bool.not_false, cond_true, cond_false, bne, Q85, Q86, Q87, Q88, Q89, Q90, Q91, Q92, Q93, Q94, Q95, Q96, Q97, Q98, Q110, Q111, Q116, Q117, Q118, Q119, Q120, Q121, Q122, Q123, Option.map_some, Option.map_none, Q34]
  have body : c11.body = (.seq (.region [] [] c11_0) (.seq (.region [] [] c11_1) (.seq (.seq (.region [] [] c11_2) (.cond (.var 7) (.seq (.region [] [] c11_3) .ret) .skip)) (.seq (.region [] [] c11_4) .ret)))) := rfl
  have st : start c11 [s, .agg [c1, .v (.int .i64 k), dd, .v (.int .i64 e)]] = [s, .agg [c1, .v (.int .i64 k), dd, .v (.int .i64 e)], .v undef, .v undef, .v undef, .v undef, .v undef, .v undef] := rfl
  have hres : c11.res = [.var 4, .var 5] := rfl
  by_cases hlt : r < l.length
  · have z1 := lt_t hlt
    rw [dif_pos hlt] at hput
    obtain ⟨c2, k2, d2, e2, i1, n1, _⟩ := hs'.at hlt
    have p25 := compare_ok n1 hc
    have s1 := fun H => n1.sn H
    by_cases h0 : cmpL l[r].lab lab = 0
    · rw [if_pos h0] at hput
      have z2 : (cmpL l[r].lab lab == 0) = true := by simpa using h0
      refine .inl ⟨hput, callW_pure (c := c11) rfl rfl 0 ?_⟩
      rw [body, st, hres]
      generalize (CC.seq (.region [] [] c11_4) .ret) = rest
      simp only [c11_0, c11_1, c11_2, c11_3, hsc, cl, l0, l1, q1, e_mkfn, List.map_cons, List.map_nil, Q121, h23, z1, i1, ip_ld, s1, s2, p25, z2, lt2, Q122, Q0, Q1, Q2, Q3, Q4, Q5, Q6, Q7, Q8, Q9, Q10, Q11, Q12, Q13, Q14, Q15, Q16, Q17, Q18, Q19, Q20, Q21, Q22, Q23, Q24, Q25, Q26, Q27, Q28, Q29, Q30, Q31, Q32, Q33, Q35, Q36, Q37, Q38, Q39, Q40, Q41, Q42, Q43, Q44, Q45, Q46, Q47, Q48, Q49, Q50, Q51, Q52, Q53, Q54, Q55, Q56, Q57, Q58, Q59, Q60, Q61, Q62, Q63, Q64, Q65, Q66, Q67, Q68, Q69, Q70, Q71, Q72, Q73, Q99, Q100, Q101, Q102, Q103, Q74, Q75, Q77, Q78, Q79, Q80, Q81, Q82, Q83, Q84, clr, List.length_nil, List.length_cons, List.getElem?_cons_zero, List.getElem?_cons_succ, Nat.reduceAdd, Nat.zero_add, Nat.add_zero, Nat.reduceLeDiff, Nat.reduceSub, ↓reduceIte, List.drop_succ_cons, List.drop_zero, List.take_succ_cons, List.take_zero, Bool.false_eq_true, List.nil_append, List.cons_append, Bool.not_true, Bool.not_false, cond_true, cond_false, bne, Q85, Q86, Q87, Q88, Q89, Q90, Q91, Q92, Q93, Q94, Q95, Q96, Q97, Q98, Q110, Q111, Q116, Q117, Q118, Q119, Q120, Q121, Q122, Q123, Option.map_some, Option.map_none, Q34]
    · rw [if_neg h0] at hput
      have z2 : (cmpL l[r].lab lab == 0) = false := by simpa using h0
      obtain ⟨res, g1, _, g2⟩ := ins (fun _ _ => trivial) True
      refine .inr ⟨_, res, hput, g1, callW_pure (c := c11) rfl rfl 0 ?_⟩
      rw [← g2 []]
      rw [body, st]
      generalize (CC.seq (.region [] [] c11_4) .ret) = rest
      simp only [c11_0, c11_1, c11_2, hsc, cl, l0, l1, q1, e_mkfn, List.map_cons, List.map_nil, Q121, h23, z1, i1, ip_ld, s1, s2, p25, z2, lt2, Q122, Q0, Q1, Q2, Q3, Q4, Q5, Q6, Q7, Q8, Q9, Q10, Q11, Q12, Q13, Q14, Q15, Q16, Q17, Q18, Q19, Q20, Q21, Q22, Q23, Q24, Q25, Q26, Q27, Q28, Q29, Q30, Q31, Q32, Q33, Q35, Q36, Q37, Q38, Q39, Q40, Q41, Q42, Q43, Q44, Q45, Q46, Q47, Q48, Q49, Q50, Q51, Q52, Q53, Q54, Q55, Q56, Q57, Q58, Q59, Q60, Q61, Q62, Q63, Q64, Q65, Q66, Q67, Q68, Q69, Q70, Q71, Q72, Q73, Q99, Q100, Q101, Q102, Q103, Q74, Q75, Q77, Q78, Q79, Q80, Q81, Q82, Q83, Q84, clr, List.length_nil, List.length_cons, List.getElem?_cons_zero, List.getElem?_cons_succ, Nat.reduceAdd, Nat.zero_add, Nat.add_zero, Nat.reduceLeDiff, Nat.reduceSub, ↓reduceIte, List.drop_succ_cons, List.drop_zero, List.take_succ_cons, List.take_zero, Bool.false_eq_true, List.nil_append, List.cons_append, Bool.not_true, Bool.not_false, cond_true, cond_false, bne, Q85, Q86, Q87, Q88, Q89, Q90, Q91, Q92, Q93, Q94, Q95, Q96, Q97, Q98, Q110, Q111, Q116, Q117, Q118, Q119, Q120, Q121, Q122, Q123, Option.map_some, Option.map_none, Q34]
  · have hrl : r = l.length := by omega
    rw [dif_neg hlt] at hput
    obtain ⟨res, g1, _, g2⟩ := ins (fun _ _ => trivial) True
    refine .inr ⟨_, res, hput, g1, callW_pure (c := c11) rfl rfl 0 ?_⟩
    have z1 : decide ((r : Int) < (l.length : Int)) = false := decide_eq_false (by omega)
    rw [← g2 []]
    rw [body, st]
    generalize (CC.seq (.region [] [] c11_4) .ret) = rest
    simp only [c11_0, c11_1, c11_2, hsc, cl, l0, l1, q1, e_mkfn, List.map_cons, List.map_nil, Q121, h23, z1, Q122, Q0, Q1, Q2, Q3, Q4, Q5, Q6, Q7, Q8, Q9, Q10, Q11, Q12, Q13, Q14, Q15, Q16, Q17, Q18, Q19, Q20, Q21, Q22, Q23, Q24, Q25, Q26, Q27, Q28, Q29, Q30, Q31, Q32, Q33, Q35, Q36, Q37, Q38, Q39, Q40, Q41, Q42, Q43, Q44, Q45, Q46, Q47, Q48, Q49, Q50, Q51, Q52, Q53, Q54, Q55, Q56, Q57, Q58, Q59, Q60, Q61, Q62, Q63, Q64, Q65, Q66, Q67, Q68, Q69, Q70, Q71, Q72, Q73, Q99, Q100, Q101, Q102, Q103, Q74, Q75, Q77, Q78, Q79, Q80, Q81, Q82, Q83, Q84, clr, List.length_nil, List.length_cons, List.getElem?_cons_zero, List.getElem?_cons_succ, Nat.reduceAdd, Nat.zero_add, Nat.add_zero, Nat.reduceLeDiff, Nat.reduceSub, ↓reduceIte, List.drop_succ_cons, List.drop_zero, List.take_succ_cons, List.take_zero, Bool.false_eq_true, List.nil_append, List.cons_append, Bool.not_true, Bool.not_false, cond_true, cond_false, bne, Q85, Q86, Q87, Q88, Q89, Q90, Q91, Q92, Q93, Q94, Q95, Q96, Q97, Q98, Q110, Q111, Q116, Q117, Q118, Q119, Q120, Q121, Q122, Q123, Option.map_some, Option.map_none, Q34]
end Go.AE.Ytkdjdhfoodlnfaa
end

/-! The examples. -/
section
set_option linter.unusedVariables false
namespace Go.AE.Ytkdjdhfoodlnfaa
open Go Go.AE Go.Proofs.Ytkdjdhfoodlnfaa
set_option maxRecDepth 1000000 in
theorem live_n : callN F 40 8 [] [] = some (.v (.bool true), []) := by kernel_rfl
theorem live_ok : callW F 8 [] [] = some (.v (.bool true), []) := callW_iff.2 ⟨_, live_n⟩
end Go.AE.Ytkdjdhfoodlnfaa
end

/-! Whether a log is too great: walked. -/
section
set_option linter.unusedVariables false
set_option linter.unusedSimpArgs false
namespace Go.AE.Ytkdjdhfoodlnfaa
open Go Go.AE Go.Proofs.Ytkdjdhfoodlnfaa

def K9 : List Bool := [false, true, false, false, false, false, true, true, true, false, false, false, false, false, false, false]
def V9 (c d : AV) (len i : Int) (x9 : AV) : List AV := [.junk, d, .junk, .junk, .junk, .junk, c, .v (.int .i64 len), .v (.int .i64 i), x9, .junk, .junk, .junk, .junk, .junk, .junk]
theorem ip_ld4 {a b c d : AV} (H : List AO) : Q76 H true 4 (.ip [a, b, c, d]) = some (.agg [a, b, c, d]) := rfl
theorem lv1_one {h : List AO} {vars : List AV} {i : Nat} {x : Value} (hx : getO vars [] (.var i) = .v x) : lv [.var i] (some (.ret, vars, h)) = some (.v x, []) := by
  simp only [Q85]
  have h1 : resOf vars h (.var i) = some (.v x) := by rw [← hx]; rfl
  simp only [List.mapM_cons, List.mapM_nil, h1]
  rfl
theorem big_loop {K : Nat} {c d : AV} {l : List En} (hc : Lg c l) (hK : l.length < K) (h : List AO) (v : List AV) (hv : clr K9 v = V9 c d l.length 0 .junk) :
    ∃ e v' h', loopN (exec (callW F) K c9_9) K9 K v h = some (e, v', h') ∧ ((e = .ret ∧ getO v' [] (.var 2) = .v (.bool true)) ∨ (e = .exit 0 ∧ v' = V9 c d l.length l.length (.v (.bool false)))) := by
  obtain ⟨e, v', h', g1, g2, g3⟩ := loop_rule0 (call := callW F) (K := K) (b := c9_9) (keep := K9) (fun i v h' => v = V9 c d l.length i .junk)
    (fun e v h' => ((e = .ret ∧ getO v [] (.var 2) = .v (.bool true)) ∨ (e = .exit 0 ∧ v = V9 c d l.length l.length (.v (.bool false))))) l.length (m := K) (v := v) (h := h) hK hv (by
      rintro i v h' hi rfl
      by_cases hil : i < l.length
      · have hlt := lt_t hil
        have hw := wrap_succ hil hc.max
        obtain ⟨c1, k, dd, e, e1, n1, _, t1, _⟩ := hc.at hil
        have z : (ofVal (.agg #[.slice none 0 0, .int .i64 0, .slice none 0 0, .int .i64 0])).cl = some [.v (.slice none 0 0), .v (.int .i64 0), .v (.slice none 0 0), .v (.int .i64 0)] := by kernel_rfl
        have cl := (IsEn.mk c1 l[i].lab n1 k dd l[i].terms t1 e).cl
        simp only [AV.cells] at cl
        have st : Q113 (h' ++ [.box 29 [.v (.slice none 0 0), .v (.int .i64 0), .v (.slice none 0 0), .v (.int .i64 0)]]) 4 (.ptr h'.length 0) (.agg [c1, .v (.int .i64 k), dd, .v (.int .i64 e)]) = some (h' ++ [.box 29 [c1, .v (.int .i64 k), dd, .v (.int .i64 e)]]) := st_new cl rfl rfl
        have ld0 : Q76 (h' ++ [.box 29 [c1, .v (.int .i64 k), dd, .v (.int .i64 e)]]) false 1 (.ptr h'.length 0) = some c1 := by rw [ld_new]; rfl
        have ld2 : Q76 (h' ++ [.box 29 [c1, .v (.int .i64 k), dd, .v (.int .i64 e)]]) false 1 (.ptr h'.length 2) = some dd := by rw [ld_new]; rfl
        have ln1 := fun H => n1.len H
        have ln2 := fun H => IsL.ln t1 H
        cases hb : decide ((l[i].lab.length : Int) > 100) with
        | true =>
          refine ⟨.ret, [.junk, d, .v (.bool true), .ptr h'.length 0, .junk, .junk, c, .v (.int .i64 l.length), .v (.int .i64 i), .v (.bool true), .v (.bool true), .junk, .junk, .junk, .junk, .junk], h' ++ [.box 29 [c1, .v (.int .i64 k), dd, .v (.int .i64 e)]], ?_, .inl ⟨rfl, rfl⟩⟩
          simp only [V9, c9_9, c9_4, c9_5, c9_6, c9_7, hlt, hw, e1, ip_ld4, z, st, ld0, ld2, ln1, ln2, hb, Q122, Q0, Q1, Q2, Q3, Q4, Q5, Q6, Q7, Q8, Q9, Q10, Q11, Q12, Q13, Q14, Q15, Q16, Q17, Q18, Q19, Q20, Q21, Q22, Q23, Q24, Q25, Q26, Q27, Q28, Q29, Q30, Q31, Q32, Q33, Q35, Q36, Q37, Q38, Q39, Q40, Q41, Q42, Q43, Q44, Q45, Q46, Q47, Q48, Q49, Q50, Q51, Q52, Q53, Q54, Q55, Q56, Q57, Q58, Q59, Q60, Q61, Q62, Q63, Q64, Q65, Q66, Q67, Q68, Q69, Q70, Q71, Q72, Q73, Q99, Q100, Q101, Q102, Q103, Q74, Q75, Q77, Q78, Q79, Q80, Q81, Q82, Q83, Q84, clr, List.length_nil, List.length_cons, List.getElem?_cons_zero, List.getElem?_cons_succ, Nat.reduceAdd, Nat.zero_add, Nat.add_zero, Nat.reduceLeDiff, Nat.reduceSub, ↓reduceIte, List.drop_succ_cons, List.drop_zero, List.take_succ_cons, List.take_zero, Bool.false_eq_true, List.nil_append, List.cons_append, Bool.not_true, Bool.not_false, cond_true, cond_false, bne, Q85, Q86, Q87, Q88, Q89, Q90, Q91, Q92, Q93, Q94, Q95, Q96, Q97, Q98, Q110, Q111, Q116, Q117, Q118, Q119, Q120, Q121, Q122, Q123, Option.map_some, Option.map_none, Q34]
        | false =>
        cases hb2 : decide ((l[i].terms.length : Int) > 0) with
        | false =>
          refine ⟨.normal, [.junk, d, .junk, .ptr h'.length 0, .junk, .junk, c, .v (.int .i64 l.length), .v (.int .i64 ((i + 1 : Nat) : Int)), .v (.bool true), .v (.bool false), .junk, .junk, .junk, .junk, .junk], h' ++ [.box 29 [c1, .v (.int .i64 k), dd, .v (.int .i64 e)]], ?_, hil, rfl⟩
          simp only [V9, c9_9, c9_4, c9_5, c9_6, c9_8, hlt, hw, e1, ip_ld4, z, st, ld0, ld2, ln1, ln2, hb, hb2, Q122, Q0, Q1, Q2, Q3, Q4, Q5, Q6, Q7, Q8, Q9, Q10, Q11, Q12, Q13, Q14, Q15, Q16, Q17, Q18, Q19, Q20, Q21, Q22, Q23, Q24, Q25, Q26, Q27, Q28, Q29, Q30, Q31, Q32, Q33, Q35, Q36, Q37, Q38, Q39, Q40, Q41, Q42, Q43, Q44, Q45, Q46, Q47, Q48, Q49, Q50, Q51, Q52, Q53, Q54, Q55, Q56, Q57, Q58, Q59, Q60, Q61, Q62, Q63, Q64, Q65, Q66, Q67, Q68, Q69, Q70, Q71, Q72, Q73, Q99, Q100, Q101, Q102, Q103, Q74, Q75, Q77, Q78, Q79, Q80, Q81, Q82, Q83, Q84, clr, List.length_nil, List.length_cons, List.getElem?_cons_zero, List.getElem?_cons_succ, Nat.reduceAdd, Nat.zero_add, Nat.add_zero, Nat.reduceLeDiff, Nat.reduceSub, ↓reduceIte, List.drop_succ_cons, List.drop_zero, List.take_succ_cons, List.take_zero, Bool.false_eq_true, List.nil_append, List.cons_append, Bool.not_true, Bool.not_false, cond_true, cond_false, bne, Q85, Q86, Q87, Q88, Q89, Q90, Q91, Q92, Q93, Q94, Q95, Q96, Q97, Q98, Q110, Q111, Q116, Q117, Q118, Q119, Q120, Q121, Q122, Q123, Option.map_some, Option.map_none, Q34]
        | true =>
          refine ⟨.ret, [.junk, d, .v (.bool true), .ptr h'.length 0, .junk, .junk, c, .v (.int .i64 l.length), .v (.int .i64 i), .v (.bool true), .v (.bool true), .junk, .junk, .junk, .junk, .junk], h' ++ [.box 29 [c1, .v (.int .i64 k), dd, .v (.int .i64 e)]], ?_, .inl ⟨rfl, rfl⟩⟩
          simp only [V9, c9_9, c9_4, c9_5, c9_6, c9_7, hlt, hw, e1, ip_ld4, z, st, ld0, ld2, ln1, ln2, hb, hb2, Q122, Q0, Q1, Q2, Q3, Q4, Q5, Q6, Q7, Q8, Q9, Q10, Q11, Q12, Q13, Q14, Q15, Q16, Q17, Q18, Q19, Q20, Q21, Q22, Q23, Q24, Q25, Q26, Q27, Q28, Q29, Q30, Q31, Q32, Q33, Q35, Q36, Q37, Q38, Q39, Q40, Q41, Q42, Q43, Q44, Q45, Q46, Q47, Q48, Q49, Q50, Q51, Q52, Q53, Q54, Q55, Q56, Q57, Q58, Q59, Q60, Q61, Q62, Q63, Q64, Q65, Q66, Q67, Q68, Q69, Q70, Q71, Q72, Q73, Q99, Q100, Q101, Q102, Q103, Q74, Q75, Q77, Q78, Q79, Q80, Q81, Q82, Q83, Q84, clr, List.length_nil, List.length_cons, List.getElem?_cons_zero, List.getElem?_cons_succ, Nat.reduceAdd, Nat.zero_add, Nat.add_zero, Nat.reduceLeDiff, Nat.reduceSub, ↓reduceIte, List.drop_succ_cons, List.drop_zero, List.take_succ_cons, List.take_zero, Bool.false_eq_true, List.nil_append, List.cons_append, Bool.not_true, Bool.not_false, cond_true, cond_false, bne, Q85, Q86, Q87, Q88, Q89, Q90, Q91, Q92, Q93, Q94, Q95, Q96, Q97, Q98, Q110, Q111, Q116, Q117, Q118, Q119, Q120, Q121, Q122, Q123, Option.map_some, Option.map_none, Q34]
      · have hie : i = l.length := by omega
        subst hie
        have hlt := lt_f (n := l.length)
        refine ⟨.exit 0, V9 c d l.length l.length (.v (.bool false)), h', ?_, .inr ⟨rfl, rfl⟩⟩
        simp only [V9, c9_9, c9_4, hlt, Q0, Q1, Q2, Q3, Q4, Q5, Q6, Q7, Q8, Q9, Q10, Q11, Q12, Q13, Q14, Q15, Q16, Q17, Q18, Q19, Q20, Q21, Q22, Q23, Q24, Q25, Q26, Q27, Q28, Q29, Q30, Q31, Q32, Q33, Q35, Q36, Q37, Q38, Q39, Q40, Q41, Q42, Q43, Q44, Q45, Q46, Q47, Q48, Q49, Q50, Q51, Q52, Q53, Q54, Q55, Q56, Q57, Q58, Q59, Q60, Q61, Q62, Q63, Q64, Q65, Q66, Q67, Q68, Q69, Q70, Q71, Q72, Q73, Q99, Q100, Q101, Q102, Q103, Q74, Q75, Q77, Q78, Q79, Q80, Q81, Q82, Q83, Q84, clr, List.length_nil, List.length_cons, List.getElem?_cons_zero, List.getElem?_cons_succ, Nat.reduceAdd, Nat.zero_add, Nat.add_zero, Nat.reduceLeDiff, Nat.reduceSub, ↓reduceIte, List.drop_succ_cons, List.drop_zero, List.take_succ_cons, List.take_zero, Bool.false_eq_true, List.nil_append, List.cons_append, Bool.not_true, Bool.not_false, cond_true, cond_false, bne, Q85, Q86, Q87, Q88, Q89, Q90, Q91, Q92, Q93, Q94, Q95, Q96, Q97, Q98, Q110, Q111, Q116, Q117, Q118, Q119, Q120, Q121, Q122, Q123, Option.map_some, Option.map_none, Q34])
  exact ⟨e, v', h', g1, g3⟩
def K9b : List Bool := [false, false, false, false, false, false, false, false, false, false, false, true, true, true, false, false]
def V9b (d : AV) (len i : Int) (x14 : AV) : List AV := [.junk, .junk, .junk, .junk, .junk, .junk, .junk, .junk, .junk, .junk, .junk, d, .v (.int .i64 len), .v (.int .i64 i), x14, .junk]
theorem big_loop2 {K : Nat} {d : AV} {l : List (List Int)} (hc : Nss d l) (hK : l.length < K) (h : List AO) (v : List AV) (hv : clr K9b v = V9b d l.length 0 .junk) :
    ∃ e v' h', loopN (exec (callW F) K c9_16) K9b K v h = some (e, v', h') ∧ ((e = .ret ∧ getO v' [] (.var 2) = .v (.bool true)) ∨ (e = .exit 2 ∧ v' = V9b d l.length l.length (.v (.bool false)))) := by
  obtain ⟨e, v', h', g1, g2, g3⟩ := loop_rule0 (call := callW F) (K := K) (b := c9_16) (keep := K9b) (fun i v h' => v = V9b d l.length i .junk)
    (fun e v h' => ((e = .ret ∧ getO v [] (.var 2) = .v (.bool true)) ∨ (e = .exit 2 ∧ v = V9b d l.length l.length (.v (.bool false))))) l.length (m := K) (v := v) (h := h) hK hv (by
      rintro i v h' hi rfl
      by_cases hil : i < l.length
      · have hlt := lt_t hil
        have hw := wrap_succ hil hc.max
        obtain ⟨c1, e1, n1⟩ := hc.at hil
        have ln1 := fun H => n1.len H
        cases hb : decide ((l[i].length : Int) > 100) with
        | true =>
          refine ⟨.ret, [.junk, .junk, .v (.bool true), .junk, c1, .junk, .junk, .junk, .junk, .junk, .junk, d, .v (.int .i64 l.length), .v (.int .i64 i), .v (.bool true), .v (.bool true)], h', ?_, .inl ⟨rfl, rfl⟩⟩
          simp only [V9b, c9_16, c9_11, c9_12, c9_13, c9_14, hlt, hw, e1, ip_ld, ln1, hb, Q122, Q0, Q1, Q2, Q3, Q4, Q5, Q6, Q7, Q8, Q9, Q10, Q11, Q12, Q13, Q14, Q15, Q16, Q17, Q18, Q19, Q20, Q21, Q22, Q23, Q24, Q25, Q26, Q27, Q28, Q29, Q30, Q31, Q32, Q33, Q35, Q36, Q37, Q38, Q39, Q40, Q41, Q42, Q43, Q44, Q45, Q46, Q47, Q48, Q49, Q50, Q51, Q52, Q53, Q54, Q55, Q56, Q57, Q58, Q59, Q60, Q61, Q62, Q63, Q64, Q65, Q66, Q67, Q68, Q69, Q70, Q71, Q72, Q73, Q99, Q100, Q101, Q102, Q103, Q74, Q75, Q77, Q78, Q79, Q80, Q81, Q82, Q83, Q84, clr, List.length_nil, List.length_cons, List.getElem?_cons_zero, List.getElem?_cons_succ, Nat.reduceAdd, Nat.zero_add, Nat.add_zero, Nat.reduceLeDiff, Nat.reduceSub, ↓reduceIte, List.drop_succ_cons, List.drop_zero, List.take_succ_cons, List.take_zero, Bool.false_eq_true, List.nil_append, List.cons_append, Bool.not_true, Bool.not_false, cond_true, cond_false, bne, Q85, Q86, Q87, Q88, Q89, Q90, Q91, Q92, Q93, Q94, Q95, Q96, Q97, Q98, Q110, Q111, Q116, Q117, Q118, Q119, Q120, Q121, Q122, Q123, Option.map_some, Option.map_none, Q34]
        | false =>
          refine ⟨.normal, [.junk, .junk, .junk, .junk, c1, .junk, .junk, .junk, .junk, .junk, .junk, d, .v (.int .i64 l.length), .v (.int .i64 ((i + 1 : Nat) : Int)), .v (.bool true), .v (.bool false)], h', ?_, hil, rfl⟩
          simp only [V9b, c9_16, c9_11, c9_12, c9_13, c9_15, hlt, hw, e1, ip_ld, ln1, hb, Q122, Q0, Q1, Q2, Q3, Q4, Q5, Q6, Q7, Q8, Q9, Q10, Q11, Q12, Q13, Q14, Q15, Q16, Q17, Q18, Q19, Q20, Q21, Q22, Q23, Q24, Q25, Q26, Q27, Q28, Q29, Q30, Q31, Q32, Q33, Q35, Q36, Q37, Q38, Q39, Q40, Q41, Q42, Q43, Q44, Q45, Q46, Q47, Q48, Q49, Q50, Q51, Q52, Q53, Q54, Q55, Q56, Q57, Q58, Q59, Q60, Q61, Q62, Q63, Q64, Q65, Q66, Q67, Q68, Q69, Q70, Q71, Q72, Q73, Q99, Q100, Q101, Q102, Q103, Q74, Q75, Q77, Q78, Q79, Q80, Q81, Q82, Q83, Q84, clr, List.length_nil, List.length_cons, List.getElem?_cons_zero, List.getElem?_cons_succ, Nat.reduceAdd, Nat.zero_add, Nat.add_zero, Nat.reduceLeDiff, Nat.reduceSub, ↓reduceIte, List.drop_succ_cons, List.drop_zero, List.take_succ_cons, List.take_zero, Bool.false_eq_true, List.nil_append, List.cons_append, Bool.not_true, Bool.not_false, cond_true, cond_false, bne, Q85, Q86, Q87, Q88, Q89, Q90, Q91, Q92, Q93, Q94, Q95, Q96, Q97, Q98, Q110, Q111, Q116, Q117, Q118, Q119, Q120, Q121, Q122, Q123, Option.map_some, Option.map_none, Q34]
      · have hie : i = l.length := by omega
        subst hie
        have hlt := lt_f (n := l.length)
        refine ⟨.exit 2, V9b d l.length l.length (.v (.bool false)), h', ?_, .inr ⟨rfl, rfl⟩⟩
        simp only [V9b, c9_16, c9_11, hlt, Q0, Q1, Q2, Q3, Q4, Q5, Q6, Q7, Q8, Q9, Q10, Q11, Q12, Q13, Q14, Q15, Q16, Q17, Q18, Q19, Q20, Q21, Q22, Q23, Q24, Q25, Q26, Q27, Q28, Q29, Q30, Q31, Q32, Q33, Q35, Q36, Q37, Q38, Q39, Q40, Q41, Q42, Q43, Q44, Q45, Q46, Q47, Q48, Q49, Q50, Q51, Q52, Q53, Q54, Q55, Q56, Q57, Q58, Q59, Q60, Q61, Q62, Q63, Q64, Q65, Q66, Q67, Q68, Q69, Q70, Q71, Q72, Q73, Q99, Q100, Q101, Q102, Q103, Q74, Q75, Q77, Q78, Q79, Q80, Q81, Q82, Q83, Q84, clr, List.length_nil, List.length_cons, List.getElem?_cons_zero, List.getElem?_cons_succ, Nat.reduceAdd, Nat.zero_add, Nat.add_zero, Nat.reduceLeDiff, Nat.reduceSub, ↓reduceIte, List.drop_succ_cons, List.drop_zero, List.take_succ_cons, List.take_zero, Bool.false_eq_true, List.nil_append, List.cons_append, Bool.not_true, Bool.not_false, cond_true, cond_false, bne, Q85, Q86, Q87, Q88, Q89, Q90, Q91, Q92, Q93, Q94, Q95, Q96, Q97, Q98, Q110, Q111, Q116, Q117, Q118, Q119, Q120, Q121, Q122, Q123, Option.map_some, Option.map_none, Q34])
  exact ⟨e, v', h', g1, g3⟩
theorem big_ok {c d : AV} {l : List En} {m : List (List Int)} (hc : Lg c l) (hd : Nss d m) : ∃ r, callW F 9 [c, d] [] = some (.v (.bool r), []) ∧ (r = false → l.length ≤ 200 ∧ m.length ≤ 200) := by
  have q1 := fun H => hc.len H
  have q2 := fun H => hd.len H
  have st9 : start c9 [c, d] = [c, d, .v undef, .v undef, .v undef, .v undef, .v undef, .v undef, .v undef, .v undef, .v undef, .v undef, .v undef, .v undef, .v undef, .v undef] := rfl
  have hres : c9.res = [.var 2] := rfl
  cases b1 : decide ((l.length : Int) > 200) with
  | true =>
    refine ⟨true, callW_pure (c := c9) rfl rfl 0 ?_, fun h => by cases h⟩
    rw [st9]
    simp only [c9, c9_0, c9_1, c9_2, q1, q2, b1, Q122, Q0, Q1, Q2, Q3, Q4, Q5, Q6, Q7, Q8, Q9, Q10, Q11, Q12, Q13, Q14, Q15, Q16, Q17, Q18, Q19, Q20, Q21, Q22, Q23, Q24, Q25, Q26, Q27, Q28, Q29, Q30, Q31, Q32, Q33, Q35, Q36, Q37, Q38, Q39, Q40, Q41, Q42, Q43, Q44, Q45, Q46, Q47, Q48, Q49, Q50, Q51, Q52, Q53, Q54, Q55, Q56, Q57, Q58, Q59, Q60, Q61, Q62, Q63, Q64, Q65, Q66, Q67, Q68, Q69, Q70, Q71, Q72, Q73, Q99, Q100, Q101, Q102, Q103, Q74, Q75, Q77, Q78, Q79, Q80, Q81, Q82, Q83, Q84, clr, List.length_nil, List.length_cons, List.getElem?_cons_zero, List.getElem?_cons_succ, Nat.reduceAdd, Nat.zero_add, Nat.add_zero, Nat.reduceLeDiff, Nat.reduceSub, ↓reduceIte, List.drop_succ_cons, List.drop_zero, List.take_succ_cons, List.take_zero, Bool.false_eq_true, List.nil_append, List.cons_append, Bool.not_true, Bool.not_false, cond_true, cond_false, bne, Q85, Q86, Q87, Q88, Q89, Q90, Q91, Q92, Q93, Q94, Q95, Q96, Q97, Q98, Q110, Q111, Q116, Q117, Q118, Q119, Q120, Q121, Q122, Q123, Option.map_some, Option.map_none, Q34]
  | false =>
  cases b2 : decide ((m.length : Int) > 200) with
  | true =>
    refine ⟨true, callW_pure (c := c9) rfl rfl 0 ?_, fun h => by cases h⟩
    rw [st9]
    simp only [c9, c9_0, c9_1, c9_2, q1, q2, b1, b2, Q122, Q0, Q1, Q2, Q3, Q4, Q5, Q6, Q7, Q8, Q9, Q10, Q11, Q12, Q13, Q14, Q15, Q16, Q17, Q18, Q19, Q20, Q21, Q22, Q23, Q24, Q25, Q26, Q27, Q28, Q29, Q30, Q31, Q32, Q33, Q35, Q36, Q37, Q38, Q39, Q40, Q41, Q42, Q43, Q44, Q45, Q46, Q47, Q48, Q49, Q50, Q51, Q52, Q53, Q54, Q55, Q56, Q57, Q58, Q59, Q60, Q61, Q62, Q63, Q64, Q65, Q66, Q67, Q68, Q69, Q70, Q71, Q72, Q73, Q99, Q100, Q101, Q102, Q103, Q74, Q75, Q77, Q78, Q79, Q80, Q81, Q82, Q83, Q84, clr, List.length_nil, List.length_cons, List.getElem?_cons_zero, List.getElem?_cons_succ, Nat.reduceAdd, Nat.zero_add, Nat.add_zero, Nat.reduceLeDiff, Nat.reduceSub, ↓reduceIte, List.drop_succ_cons, List.drop_zero, List.take_succ_cons, List.take_zero, Bool.false_eq_true, List.nil_append, List.cons_append, Bool.not_true, Bool.not_false, cond_true, cond_false, bne, Q85, Q86, Q87, Q88, Q89, Q90, Q91, Q92, Q93, Q94, Q95, Q96, Q97, Q98, Q110, Q111, Q116, Q117, Q118, Q119, Q120, Q121, Q122, Q123, Option.map_some, Option.map_none, Q34]
  | false =>
    have hle : l.length ≤ 200 ∧ m.length ≤ 200 := by
      have h1 := of_decide_eq_false b1
      have h2 := of_decide_eq_false b2
      omega
    obtain ⟨e, v', h', g1, g2⟩ := big_loop (K := l.length + m.length + 1) (d := d) hc (by omega) [] [c, d, .v (.bool false), .v undef, .v undef, .v (.bool false), c, .v (.int .i64 l.length), .v (.int .i64 0), .v undef, .v undef, .v undef, .v undef, .v undef, .v undef, .v undef] rfl
    have hbody : c9.body = (.seq (.region [] [] c9_0) (.seq (.seq (.region [] [] c9_1) (.cond (.var 5) (.seq (.region [] [] c9_2) .ret) .skip)) (.seq (.seq (.region [] [] c9_3) (.block 0 (.loop K9 [] c9_9))) (.seq (.seq (.region [] [] c9_10) (.block 2 (.loop K9b [] c9_16))) (.seq (.region [] [] c9_17) .ret))))) := rfl
    rcases g2 with ⟨rfl, g2⟩ | ⟨rfl, rfl⟩
    · refine ⟨true, callW_pure (c := c9) rfl rfl (l.length + m.length + 1) ?_, fun h => by cases h⟩
      rw [st9, hbody, hres]
      generalize c9_9 = bb at g1 ⊢
      generalize (CC.seq (.seq (.region [] [] c9_10) (.block 2 (.loop K9b [] c9_16))) (.seq (.region [] [] c9_17) .ret)) = rest
      simp only [c9_0, c9_1, c9_3, q1, q2, b1, b2, g1, Q122, Q0, Q1, Q2, Q3, Q4, Q5, Q6, Q7, Q8, Q9, Q10, Q11, Q12, Q13, Q14, Q15, Q16, Q17, Q18, Q19, Q20, Q21, Q22, Q23, Q24, Q25, Q26, Q27, Q28, Q29, Q30, Q31, Q32, Q33, Q35, Q36, Q37, Q38, Q39, Q40, Q41, Q42, Q43, Q44, Q45, Q46, Q47, Q48, Q49, Q50, Q51, Q52, Q53, Q54, Q55, Q56, Q57, Q58, Q59, Q60, Q61, Q62, Q63, Q64, Q65, Q66, Q67, Q68, Q69, Q70, Q71, Q72, Q73, Q99, Q100, Q101, Q102, Q103, Q74, Q75, Q77, Q78, Q79, Q80, Q81, Q82, Q83, Q84, clr, List.length_nil, List.length_cons, List.getElem?_cons_zero, List.getElem?_cons_succ, Nat.reduceAdd, Nat.zero_add, Nat.add_zero, Nat.reduceLeDiff, Nat.reduceSub, ↓reduceIte, List.drop_succ_cons, List.drop_zero, List.take_succ_cons, List.take_zero, Bool.false_eq_true, List.nil_append, List.cons_append, Bool.not_true, Bool.not_false, cond_true, cond_false, bne, Q85, Q86, Q87, Q88, Q89, Q90, Q91, Q92, Q93, Q94, Q95, Q96, Q97, Q98, Q110, Q111, Q116, Q117, Q118, Q119, Q120, Q121, Q122, Q123, Option.map_some, Option.map_none, Q34]
      exact lv1_one g2
    · obtain ⟨e2, v2, h2, k1, k2⟩ := big_loop2 (K := l.length + m.length + 1) hd (by omega) h' [.junk, d, .junk, .junk, .junk, .junk, c, .v (.int .i64 l.length), .v (.int .i64 l.length), .v (.bool false), .junk, d, .v (.int .i64 m.length), .v (.int .i64 0), .junk, .junk] rfl
      rcases k2 with ⟨rfl, k2⟩ | ⟨rfl, rfl⟩
      · refine ⟨true, callW_pure (c := c9) rfl rfl (l.length + m.length + 1) ?_, fun h => by cases h⟩
        rw [st9, hbody, hres]
        simp only [V9] at g1
        generalize c9_9 = bb at g1 ⊢
        generalize c9_16 = bb2 at k1 ⊢
        generalize (CC.seq (.region [] [] c9_17) .ret) = rest
        simp only [c9_0, c9_1, c9_3, c9_10, q1, q2, b1, b2, g1, k1, Q122, Q0, Q1, Q2, Q3, Q4, Q5, Q6, Q7, Q8, Q9, Q10, Q11, Q12, Q13, Q14, Q15, Q16, Q17, Q18, Q19, Q20, Q21, Q22, Q23, Q24, Q25, Q26, Q27, Q28, Q29, Q30, Q31, Q32, Q33, Q35, Q36, Q37, Q38, Q39, Q40, Q41, Q42, Q43, Q44, Q45, Q46, Q47, Q48, Q49, Q50, Q51, Q52, Q53, Q54, Q55, Q56, Q57, Q58, Q59, Q60, Q61, Q62, Q63, Q64, Q65, Q66, Q67, Q68, Q69, Q70, Q71, Q72, Q73, Q99, Q100, Q101, Q102, Q103, Q74, Q75, Q77, Q78, Q79, Q80, Q81, Q82, Q83, Q84, clr, List.length_nil, List.length_cons, List.getElem?_cons_zero, List.getElem?_cons_succ, Nat.reduceAdd, Nat.zero_add, Nat.add_zero, Nat.reduceLeDiff, Nat.reduceSub, ↓reduceIte, List.drop_succ_cons, List.drop_zero, List.take_succ_cons, List.take_zero, Bool.false_eq_true, List.nil_append, List.cons_append, Bool.not_true, Bool.not_false, cond_true, cond_false, bne, Q85, Q86, Q87, Q88, Q89, Q90, Q91, Q92, Q93, Q94, Q95, Q96, Q97, Q98, Q110, Q111, Q116, Q117, Q118, Q119, Q120, Q121, Q122, Q123, Option.map_some, Option.map_none, Q34]
        exact lv1_one k2
      · refine ⟨false, callW_pure (c := c9) rfl rfl (l.length + m.length + 1) ?_, fun _ => hle⟩
        rw [st9, hbody, hres]
        simp only [V9] at g1
        simp only [V9b] at k1
        generalize c9_9 = bb at g1 ⊢
        generalize c9_16 = bb2 at k1 ⊢
        simp only [c9_0, c9_1, c9_3, c9_10, c9_17, q1, q2, b1, b2, g1, k1, Q122, Q0, Q1, Q2, Q3, Q4, Q5, Q6, Q7, Q8, Q9, Q10, Q11, Q12, Q13, Q14, Q15, Q16, Q17, Q18, Q19, Q20, Q21, Q22, Q23, Q24, Q25, Q26, Q27, Q28, Q29, Q30, Q31, Q32, Q33, Q35, Q36, Q37, Q38, Q39, Q40, Q41, Q42, Q43, Q44, Q45, Q46, Q47, Q48, Q49, Q50, Q51, Q52, Q53, Q54, Q55, Q56, Q57, Q58, Q59, Q60, Q61, Q62, Q63, Q64, Q65, Q66, Q67, Q68, Q69, Q70, Q71, Q72, Q73, Q99, Q100, Q101, Q102, Q103, Q74, Q75, Q77, Q78, Q79, Q80, Q81, Q82, Q83, Q84, clr, List.length_nil, List.length_cons, List.getElem?_cons_zero, List.getElem?_cons_succ, Nat.reduceAdd, Nat.zero_add, Nat.add_zero, Nat.reduceLeDiff, Nat.reduceSub, ↓reduceIte, List.drop_succ_cons, List.drop_zero, List.take_succ_cons, List.take_zero, Bool.false_eq_true, List.nil_append, List.cons_append, Bool.not_true, Bool.not_false, cond_true, cond_false, bne, Q85, Q86, Q87, Q88, Q89, Q90, Q91, Q92, Q93, Q94, Q95, Q96, Q97, Q98, Q110, Q111, Q116, Q117, Q118, Q119, Q120, Q121, Q122, Q123, Option.map_some, Option.map_none, Q34]
end Go.AE.Ytkdjdhfoodlnfaa
end

/-! The plain law of LogReady. -/
section
set_option linter.unusedVariables false
set_option linter.unusedSimpArgs false
namespace Go.AE.Ytkdjdhfoodlnfaa
open Go Go.AE Go.Proofs.Ytkdjdhfoodlnfaa

theorem Lg.take {c : AV} {l : List En} (h : Lg c l) {n : Nat} (hn : n ≤ l.length) : ∃ c', (∀ H, slV H 4 none (some (some n)) c = some c') ∧ Lg c' (l.take n) := by
  obtain ⟨es, hs, ha, hm⟩ := h
  have hl := ha.length
  have hat : ∀ {es : List AV} {l : List En}, AllR IsEn es l → ∀ n, AllR IsEn (es.take n) (l.take n) := by
    intro es l h
    induction h with
    | nil => intro n; simp; exact .nil
    | cons a x es l h hs ih =>
      intro n
      cases n with
      | zero => exact .nil
      | succ n => exact .cons _ _ _ _ h (ih n)
  have hlen : (es.take n).length ≤ maxLen := Nat.le_trans (by rw [List.length_take]; exact Nat.min_le_right _ _) hm
  cases hs with
  | nil =>
    have : n = 0 := by simp at hl; omega
    subst this
    exact ⟨.v (.slice none 0 0), fun H => rfl, _, .nil, hat ha 0, hlen⟩
  | slc ex nn es =>
    exact ⟨_, fun H => by simp only [slV, slo, if_true, Nat.zero_le, true_and]; rw [if_pos (by omega)], _, .slc _ _ _, by simpa using hat ha n, by simpa using hlen⟩
theorem Nss.drop {c : AV} {l : List (List Int)} (h : Nss c l) {n : Nat} (hn : n ≤ l.length) : ∃ c', (∀ H, slV H 1 (some (some n)) none c = some c') ∧ Nss c' (l.drop n) := by
  obtain ⟨es, hs, ha, hm⟩ := h
  have hl := ha.length
  have hat : ∀ {es : List AV} {l : List (List Int)}, AllR Ns es l → ∀ n, AllR Ns (es.drop n) (l.drop n) := by
    intro es l h
    induction h with
    | nil => intro n; simp; exact .nil
    | cons a x es l h hs ih =>
      intro n
      cases n with
      | zero => exact .cons _ _ _ _ h hs
      | succ n => simpa using ih n
  have hlen : (es.drop n).length ≤ maxLen := Nat.le_trans (by rw [List.length_drop]; exact Nat.sub_le _ _) hm
  cases hs with
  | nil =>
    have : n = 0 := by simp at hl; omega
    subst this
    exact ⟨.v (.slice none 0 0), fun H => rfl, _, .nil, hat ha 0, hlen⟩
  | slc ex nn es =>
    refine ⟨.slc 1 ex nn (es.drop n), fun H => ?_, _, .slc _ _ _, hat ha n, hlen⟩
    simp only [slV, slo, if_true, Nat.le_refl, and_true]
    rw [if_pos (by omega), List.take_of_length_le (by simp)]
    simp
/-! ### Plain -/
theorem least_mem : ∀ (l : List (List Int)) (m : List Int), leastL m l ∈ m :: l ∧ cmpL (leastL m l) m ≤ 0 ∧ ∀ x ∈ l, cmpL (leastL m l) x ≤ 0
  | [], m => by simp [leastL, cmp_refl]
  | x :: l, m => by
    rw [leastL]
    by_cases h : cmpL x m < 0
    · rw [if_pos (decide_eq_true h)]
      obtain ⟨h1, h2, h3⟩ := least_mem l x
      refine ⟨List.mem_cons_of_mem _ h1, ?_, ?_⟩
      · exact cmp_le_trans h2 (by omega)
      · intro y hy
        rcases List.mem_cons.1 hy with rfl | hy
        · exact h2
        · exact h3 y hy
    · rw [if_neg (by simpa using h)]
      obtain ⟨h1, h2, h3⟩ := least_mem l m
      refine ⟨?_, h2, ?_⟩
      · rcases List.mem_cons.1 h1 with h1 | h1
        · rw [h1]; exact List.mem_cons_self ..
        · exact List.mem_cons_of_mem _ (List.mem_cons_of_mem _ h1)
      · intro y hy
        rcases List.mem_cons.1 hy with rfl | hy
        · exact cmp_le_trans h2 (by rw [cmp_anti]; omega)
        · exact h3 y hy
theorem tw_mono {α : Type} {p q : α → Bool} (h : ∀ x, p x = true → q x = true) : ∀ (l : List α), (l.takeWhile p).length ≤ (l.takeWhile q).length
  | [] => Nat.le_refl _
  | x :: l => by
    rw [List.takeWhile_cons, List.takeWhile_cons]
    cases hp : p x with
    | true => rw [h x hp]; simpa using tw_mono h l
    | false => simp
theorem ready_le (l : List En) (op : List (List Int)) : readyL l op ≤ l.length := by
  cases op with
  | nil => exact Nat.le_refl _
  | cons o ll => exact (List.takeWhile_sublist _).length_le
theorem ready_drop {l : List En} {op : List (List Int)} {i : Nat} (hi : i < op.length) : readyL l op ≤ readyL l (op.drop i) := by
  cases op with
  | nil => simp at hi
  | cons o ll =>
    rw [List.drop_eq_getElem_cons hi, readyL, readyL]
    refine tw_mono (fun x h => ?_) l
    rw [decide_eq_true_eq] at h ⊢
    refine cmp_lt_le h ?_
    obtain ⟨h1, _⟩ := least_mem ((o :: ll).drop (i + 1)) (o :: ll)[i]
    obtain ⟨_, g2, g3⟩ := least_mem ll o
    have hm : leastL (o :: ll)[i] ((o :: ll).drop (i + 1)) ∈ o :: ll := by
      rcases List.mem_cons.1 h1 with h1 | h1
      · rw [h1]; exact List.getElem_mem hi
      · exact List.mem_of_mem_drop h1
    rcases List.mem_cons.1 hm with h | h
    · rw [h]; exact g2
    · exact g3 _ h
theorem left_cmp : ∀ {x y : List Int}, leftL x y = true → cmpL x y < 0
  | [], _, h => by simp [leftL] at h
  | _ :: _, [], h => by simp [leftL] at h
  | a :: l, b :: m, h => by
    rw [leftL] at h
    by_cases e : a = b
    · rw [if_pos e] at h
      subst e
      rw [cmp_eq]; exact left_cmp h
    · rw [if_neg e, decide_eq_true_eq] at h
      rw [cmp_lt h]; decide
theorem tw_all {α : Type} {p : α → Bool} : ∀ (l : List α), ∀ x ∈ l.take (l.takeWhile p).length, p x = true
  | [], x, h => by simp at h
  | y :: l, x, h => by
    rw [List.takeWhile_cons] at h
    cases hp : p y with
    | true =>
      rw [hp] at h
      simp only [if_true, List.length_cons, List.take_succ_cons, List.mem_cons] at h
      rcases h with rfl | h
      · exact hp
      · exact tw_all l x h
    | false => rw [hp] at h; simp at h
theorem drop_take {l : List En} {op : List (List Int)} {i : Nat} (hi : i < op.length) (d : Int) : readyL l op ≤ (dropL l op[i] d).length ∧ (dropL l op[i] d).take (readyL l op) = l.take (readyL l op) := by
  cases op with
  | nil => simp at hi
  | cons o ll =>
    have hall : ∀ x ∈ l.take (readyL l (o :: ll)), (!prunedL x.lab (o :: ll)[i] d) = true := by
      intro x hx
      have h1 := tw_all (p := fun x : En => decide (cmpL x.lab (leastL o ll) < 0)) l x hx
      rw [decide_eq_true_eq] at h1
      obtain ⟨_, g2, g3⟩ := least_mem ll o
      have h2 : cmpL (leastL o ll) (o :: ll)[i] ≤ 0 := by
        rcases List.mem_cons.1 (List.getElem_mem hi) with h | h
        · rw [h]; exact g2
        · exact g3 _ h
      have h3 := cmp_lt_le h1 h2
      cases hp : prunedL x.lab (o :: ll)[i] d with
      | false => rfl
      | true =>
        simp only [prunedL, Bool.and_eq_true] at hp
        have := left_cmp hp.1
        rw [cmp_anti] at this
        omega
    have hle := ready_le l (o :: ll)
    generalize readyL l (o :: ll) = n at hall hle
    have hsp : dropL l (o :: ll)[i] d = l.take n ++ (l.drop n).filter (fun x => !prunedL x.lab (o :: ll)[i] d) := by
      rw [dropL]
      conv => lhs; rw [← List.take_append_drop n l]
      rw [List.filter_append, List.filter_eq_self.2 hall]
    have hn : (l.take n).length = n := by rw [List.length_take]; omega
    constructor
    · rw [hsp, List.length_append, hn]; omega
    · rw [hsp, List.take_append_of_le_length (by omega), List.take_take, Nat.min_self]
theorem ts_refl (l : List Tm) : tsS l l = true := (same_iff _ _ _ (Nat.lt_succ_self _)).2 rfl
theorem lg_refl : ∀ (l : List En), lgL l l = true
  | [] => rfl
  | a :: l => by
    rw [lgL, lg_refl l, enS, cmp_refl, evS, ts_refl]
    simp
theorem lgs_refl (l : List En) : lgS l l = true := by rw [lgS, lg_refl]; simp
end Go.AE.Ytkdjdhfoodlnfaa
end

/-! LogTwice, over the evaluator. -/
section
set_option linter.unusedVariables false
set_option linter.unusedSimpArgs false
namespace Go.AE.Ytkdjdhfoodlnfaa
open Go Go.AE Go.Proofs.Ytkdjdhfoodlnfaa

/-! ### Plain -/
theorem drop_again (l : List En) (y : List Int) (d : Int) : dropL (dropL l y d) y d = dropL l y d := by
  rw [dropL, dropL, List.filter_filter]
  simp
theorem drop_len (l : List En) (y : List Int) (d : Int) : (dropL l y d).length ≤ l.length := List.length_filter_le _ _
theorem put_sub {l : List En} {e : En} {m : List En} (h : putL l e = some m) : l.Sublist m := by
  induction l generalizing m with
  | nil => exact List.nil_sublist _
  | cons a l ih =>
    rw [putL] at h
    split at h
    · cases hp : putL l e with
      | none => rw [hp] at h; cases h
      | some m' =>
        rw [hp] at h
        simp at h
        subst h
        exact (ih hp).cons_cons a
    · split at h
      · cases h
      · simp at h; subst h; exact (List.Sublist.refl _).cons e
theorem drop_put {l : List En} {e : En} {m : List En} (h : putL l e = some m) (y : List Int) (d : Int) : (dropL l y d).length ≤ (dropL m y d).length := ((put_sub h).filter _).length_le
def cntL (y : List Int) : List En → Nat
  | [] => 0
  | x :: l => (if (cmpL x.lab y == 0) = true then 1 else 0) + cntL y l
theorem cnt_le (y : List Int) : ∀ (l : List En), cntL y l ≤ l.length
  | [] => Nat.le_refl _
  | x :: l => by
    have := cnt_le y l
    rw [cntL, List.length_cons]
    split <;> omega
theorem cnt_none {y : List Int} : ∀ (l : List En), (∀ x ∈ l, cmpL x.lab y ≠ 0) → cntL y l = 0
  | [], _ => rfl
  | x :: l, h => by
    rw [cntL, cnt_none l (fun x hx => h x (List.mem_cons_of_mem _ hx)), if_neg (by simpa using h x (List.mem_cons_self ..))]
theorem cnt_one {y : List Int} : ∀ (l : List En), ordL l = true → (∃ x ∈ l, x.lab = y) → cntL y l = 1
  | [], _, h => by simp at h
  | x :: l, ho, ⟨z, hz, he⟩ => by
    obtain ⟨h1, h2⟩ := ord_cons.1 ho
    rw [cntL]
    rcases List.mem_cons.1 hz with rfl | hz
    · subst he
      rw [if_pos (by simp [cmp_refl]), cnt_none l (fun w hw => by have := h1 w hw; rw [cmp_anti]; omega)]
    · have := h1 z hz
      rw [he] at this
      rw [if_neg (by simp; omega), cnt_one l h2 ⟨z, hz, he⟩]
/-! ### The loop -/
def V6 (s c : AV) (d : Int) (a m : AV) (n : Int) (len i : Int) (x18 x19 : AV) : List AV := [s, .junk, c, .v (.int .i64 d), .ptr 0 0, .junk, .v (.bool true), a, m, .junk, .v (.int .i64 n), .junk, .junk, .junk, .junk, m, .v (.int .i64 len), .v (.int .i64 i), x18, x19]
def K6 : List Bool := [true, false, true, true, true, false, true, true, true, false, true, false, false, false, false, true, true, true, false, false]
theorem twice_loop {K : Nat} {s c a m : AV} {d : Int} {l : List En} {y : List Int} {cy : AV} {rest : List AV} (hm : Lg m l) (hy : Ns cy y) (hK : l.length < K) (v : List AV) (h0 : List AO) (hh : h0[0]? = some (.box 29 (cy :: rest))) (hv : clr K6 v = V6 s c d a m 0 l.length 0 .junk .junk) :
    ∃ h', loopN (exec (callW F) K c6_17) K6 K v h0 = some (.exit 0, V6 s c d a m (cntL y l) l.length l.length (.v (.bool false)) .junk, h') := by
  obtain ⟨e, v', h', g1, g2, rfl, rfl⟩ := loop_rule0 (call := callW F) (K := K) (b := c6_17) (keep := K6) (fun i v h => h[0]? = some (.box 29 (cy :: rest)) ∧ ∃ n : Nat, v = V6 s c d a m n l.length i .junk .junk ∧ n + cntL y (l.drop i) = cntL y l)
    (fun e v h' => e = .exit 0 ∧ v = V6 s c d a m (cntL y l) l.length l.length (.v (.bool false)) .junk) l.length (m := K) (v := v) (h := h0) hK ⟨hh, 0, hv, by simp⟩ (by
      rintro i v h' hi ⟨hh, n, rfl, hn⟩
      have hcl := cnt_le y l
      have hmx := hm.max
      by_cases hil : i < l.length
      · have hlt := lt_t hil
        have hw := wrap_succ hil hm.max
        obtain ⟨c1, k, dd, e, e1, n1, _, t1, _⟩ := hm.at hil
        have z : (ofVal (.agg #[.slice none 0 0, .int .i64 0, .slice none 0 0, .int .i64 0])).cl = some [.v (.slice none 0 0), .v (.int .i64 0), .v (.slice none 0 0), .v (.int .i64 0)] := by kernel_rfl
        have cl := (IsEn.mk c1 l[i].lab n1 k dd l[i].terms t1 e).cl
        simp only [AV.cells] at cl
        have st : Q113 (h' ++ [.box 29 [.v (.slice none 0 0), .v (.int .i64 0), .v (.slice none 0 0), .v (.int .i64 0)]]) 4 (.ptr h'.length 0) (.agg [c1, .v (.int .i64 k), dd, .v (.int .i64 e)]) = some (h' ++ [.box 29 [c1, .v (.int .i64 k), dd, .v (.int .i64 e)]]) := st_new cl rfl rfl
        have ld0 : Q76 (h' ++ [.box 29 [c1, .v (.int .i64 k), dd, .v (.int .i64 e)]]) false 1 (.ptr h'.length 0) = some c1 := by rw [ld_new]; rfl
        have ldE : Q76 (h' ++ [.box 29 [c1, .v (.int .i64 k), dd, .v (.int .i64 e)]]) false 1 (.ptr 0 0) = some cy := by
          rw [bx_ld (his_get hh)]; first | rfl | simp [Q77]
        have hcm := rcompare_ok n1 hy
        have s1 := fun H => n1.sn H
        have s2 := fun H => hy.sn H
        rw [List.drop_eq_getElem_cons hil, cntL] at hn
        cases hq : (cmpL l[i].lab y == 0) with
        | true =>
          rw [hq, if_pos rfl] at hn
          have hw2 : IntKind.i64.wrap ((n : Int) + 1) = ((n + 1 : Nat) : Int) := wrap_succ (i := n) (len := l.length) (by omega) hm.max
          refine ⟨.normal, [s, .junk, c, .v (.int .i64 d), .ptr 0 0, .junk, .v (.bool true), a, m, .junk, .v (.int .i64 ((n + 1 : Nat) : Int)), .ptr h'.length 0, .junk, .junk, .junk, m, .v (.int .i64 l.length), .v (.int .i64 ((i + 1 : Nat) : Int)), .v (.bool true), .v (.bool true)], h' ++ [.box 29 [c1, .v (.int .i64 k), dd, .v (.int .i64 e)]], ?_, hil, his_get hh, n + 1, rfl, by omega⟩
          simp only [V6, c6_17, c6_12, c6_13, c6_14, c6_15, c6_16, hlt, hw, hw2, e1, ip_ld4, z, st, ld0, ldE, s1, s2, hcm, hq, Q0, Q1, Q2, Q3, Q4, Q5, Q6, Q7, Q8, Q9, Q10, Q11, Q12, Q13, Q14, Q15, Q16, Q17, Q18, Q19, Q20, Q21, Q22, Q23, Q24, Q25, Q26, Q27, Q28, Q29, Q30, Q31, Q32, Q33, Q35, Q36, Q37, Q38, Q39, Q40, Q41, Q42, Q43, Q44, Q45, Q46, Q47, Q48, Q49, Q50, Q51, Q52, Q53, Q54, Q55, Q56, Q57, Q58, Q59, Q60, Q61, Q62, Q63, Q64, Q65, Q66, Q67, Q68, Q69, Q70, Q71, Q72, Q73, Q99, Q100, Q101, Q102, Q103, Q74, Q75, Q77, Q78, Q79, Q80, Q81, Q82, Q83, Q84, clr, List.length_nil, List.length_cons, List.getElem?_cons_zero, List.getElem?_cons_succ, Nat.reduceAdd, Nat.zero_add, Nat.add_zero, Nat.reduceLeDiff, Nat.reduceSub, ↓reduceIte, List.drop_succ_cons, List.drop_zero, List.take_succ_cons, List.take_zero, Bool.false_eq_true, List.nil_append, List.cons_append, Bool.not_true, Bool.not_false, cond_true, cond_false, bne, Q85, Q86, Q87, Q88, Q89, Q90, Q91, Q92, Q93, Q94, Q95, Q96, Q97, Q98, Q110, Q111, Q116, Q117, Q118, Q119, Q120, Q121, Q122, Q123, Option.map_some, Option.map_none, Q34]
        | false =>
          rw [hq, if_neg (by simp)] at hn
          refine ⟨.normal, [s, .junk, c, .v (.int .i64 d), .ptr 0 0, .junk, .v (.bool true), a, m, .junk, .v (.int .i64 n), .ptr h'.length 0, .junk, .junk, .junk, m, .v (.int .i64 l.length), .v (.int .i64 ((i + 1 : Nat) : Int)), .v (.bool true), .v (.bool false)], h' ++ [.box 29 [c1, .v (.int .i64 k), dd, .v (.int .i64 e)]], ?_, hil, his_get hh, n, rfl, by omega⟩
          simp only [V6, c6_17, c6_12, c6_13, c6_14, c6_16, hlt, hw, e1, ip_ld4, z, st, ld0, ldE, s1, s2, hcm, hq, Q0, Q1, Q2, Q3, Q4, Q5, Q6, Q7, Q8, Q9, Q10, Q11, Q12, Q13, Q14, Q15, Q16, Q17, Q18, Q19, Q20, Q21, Q22, Q23, Q24, Q25, Q26, Q27, Q28, Q29, Q30, Q31, Q32, Q33, Q35, Q36, Q37, Q38, Q39, Q40, Q41, Q42, Q43, Q44, Q45, Q46, Q47, Q48, Q49, Q50, Q51, Q52, Q53, Q54, Q55, Q56, Q57, Q58, Q59, Q60, Q61, Q62, Q63, Q64, Q65, Q66, Q67, Q68, Q69, Q70, Q71, Q72, Q73, Q99, Q100, Q101, Q102, Q103, Q74, Q75, Q77, Q78, Q79, Q80, Q81, Q82, Q83, Q84, clr, List.length_nil, List.length_cons, List.getElem?_cons_zero, List.getElem?_cons_succ, Nat.reduceAdd, Nat.zero_add, Nat.add_zero, Nat.reduceLeDiff, Nat.reduceSub, ↓reduceIte, List.drop_succ_cons, List.drop_zero, List.take_succ_cons, List.take_zero, Bool.false_eq_true, List.nil_append, List.cons_append, Bool.not_true, Bool.not_false, cond_true, cond_false, bne, Q85, Q86, Q87, Q88, Q89, Q90, Q91, Q92, Q93, Q94, Q95, Q96, Q97, Q98, Q110, Q111, Q116, Q117, Q118, Q119, Q120, Q121, Q122, Q123, Option.map_some, Option.map_none, Q34]
      · have hie : i = l.length := by omega
        subst hie
        have hlt := lt_f (n := l.length)
        rw [List.drop_length, cntL] at hn
        refine ⟨.exit 0, V6 s c d a m (cntL y l) l.length l.length (.v (.bool false)) .junk, h', ?_, rfl, rfl⟩
        rw [← hn]
        simp only [V6, c6_17, c6_12, hlt, Nat.add_zero, Q0, Q1, Q2, Q3, Q4, Q5, Q6, Q7, Q8, Q9, Q10, Q11, Q12, Q13, Q14, Q15, Q16, Q17, Q18, Q19, Q20, Q21, Q22, Q23, Q24, Q25, Q26, Q27, Q28, Q29, Q30, Q31, Q32, Q33, Q35, Q36, Q37, Q38, Q39, Q40, Q41, Q42, Q43, Q44, Q45, Q46, Q47, Q48, Q49, Q50, Q51, Q52, Q53, Q54, Q55, Q56, Q57, Q58, Q59, Q60, Q61, Q62, Q63, Q64, Q65, Q66, Q67, Q68, Q69, Q70, Q71, Q72, Q73, Q99, Q100, Q101, Q102, Q103, Q74, Q75, Q77, Q78, Q79, Q80, Q81, Q82, Q83, Q84, clr, List.length_nil, List.length_cons, List.getElem?_cons_zero, List.getElem?_cons_succ, Nat.reduceAdd, Nat.zero_add, Nat.add_zero, Nat.reduceLeDiff, Nat.reduceSub, ↓reduceIte, List.drop_succ_cons, List.drop_zero, List.take_succ_cons, List.take_zero, Bool.false_eq_true, List.nil_append, List.cons_append, Bool.not_true, Bool.not_false, cond_true, cond_false, bne, Q85, Q86, Q87, Q88, Q89, Q90, Q91, Q92, Q93, Q94, Q95, Q96, Q97, Q98, Q110, Q111, Q116, Q117, Q118, Q119, Q120, Q121, Q122, Q123, Option.map_some, Option.map_none, Q34])
  exact ⟨h', g1⟩
theorem Lg.raise : True := trivial
theorem nss2 {a b : AV} {x y : List Int} (ha : Ns a x) (hb : Ns b y) (ex nn : Bool) : Nss (.slc 1 ex nn [a, b]) [x, y] := ⟨[a, b], .slc _ _ _, .cons _ _ _ _ ha (.cons _ _ _ _ hb .nil), by simp; decide⟩
theorem twiceLaw_ok {s a c : AV} {l : List En} {x : En} {y : List Int} (hs : Lg s l) (ha : IsEn a x) (hc : Ns c y) (d : Int) : callW F 6 [s, a, c, .v (.int .i64 d)] [] = some (.v (.bool true), []) := by
  have hlive := live_ok
  have ho := ordered_ok hs
  have cl := ha.cl
  have hel := ha.elm
  have ha' := ha
  cases ha with
  | mk c1 lab h1 k dd ts hd e =>
  simp only [AV.cells] at cl
  obtain ⟨bg, hbg, hbl⟩ := big_ok hs (nss2 h1 hc true true)
  have q1 := fun H => hs.len H
  have s1 := fun H => hs.sn H
  have s2 := fun H => hc.sn H
  have s3 := fun H => h1.sn H
  have sn := hel.snap
  have k1 := Ns.cl1 h1
  have k2 := Ns.cl1 hc
  have l0 : ∀ G, Q76 (.box 29 [c1, .v (.int .i64 k), dd, .v (.int .i64 e)] :: G) false 1 (.ptr 0 0) = some c1 := fun _ => rfl
  have l4 : ∀ G, Q76 (.box 29 [c1, .v (.int .i64 k), dd, .v (.int .i64 e)] :: G) true 4 (.ptr 0 0) = some (.agg [c1, .v (.int .i64 k), dd, .v (.int .i64 e)]) := fun _ => rfl
  have b2 : ∀ h : List AO, bs2 h 1 (some c1) (some c) = some (.slc 1 true true [c1, c], h) := fun h => by simp [bs2, k1, k2]
  have sb : ∀ h : List AO, (AV.slc 1 true true [c1, c]).snap1 h = some (.slc 1 true true [c1, c]) := fun _ => rfl
  cases bg with
  | true =>
    refine callW_pure (c := c6) rfl rfl 0 ?_
    simp only [c6, start, List.replicate, c6_0, c6_1, c6_2, c6_3, cl, hlive, hbg, s1, s2, s3, l0, Q105, b2, sb, Q122, Q0, Q1, Q2, Q3, Q4, Q5, Q6, Q7, Q8, Q9, Q10, Q11, Q12, Q13, Q14, Q15, Q16, Q17, Q18, Q19, Q20, Q21, Q22, Q23, Q24, Q25, Q26, Q27, Q28, Q29, Q30, Q31, Q32, Q33, Q35, Q36, Q37, Q38, Q39, Q40, Q41, Q42, Q43, Q44, Q45, Q46, Q47, Q48, Q49, Q50, Q51, Q52, Q53, Q54, Q55, Q56, Q57, Q58, Q59, Q60, Q61, Q62, Q63, Q64, Q65, Q66, Q67, Q68, Q69, Q70, Q71, Q72, Q73, Q99, Q100, Q101, Q102, Q103, Q74, Q75, Q77, Q78, Q79, Q80, Q81, Q82, Q83, Q84, clr, List.length_nil, List.length_cons, List.getElem?_cons_zero, List.getElem?_cons_succ, Nat.reduceAdd, Nat.zero_add, Nat.add_zero, Nat.reduceLeDiff, Nat.reduceSub, ↓reduceIte, List.drop_succ_cons, List.drop_zero, List.take_succ_cons, List.take_zero, Bool.false_eq_true, List.nil_append, List.cons_append, Bool.not_true, Bool.not_false, cond_true, cond_false, bne, Q85, Q86, Q87, Q88, Q89, Q90, Q91, Q92, Q93, Q94, Q95, Q96, Q97, Q98, Q110, Q111, Q116, Q117, Q118, Q119, Q120, Q121, Q122, Q123, Option.map_some, Option.map_none, Q34]
  | false =>
  obtain ⟨hl2, _⟩ := hbl rfl
  cases hor : ordL l with
  | false =>
    rw [hor] at ho
    refine callW_pure (c := c6) rfl rfl 0 ?_
    simp only [c6, start, List.replicate, c6_0, c6_1, c6_2, c6_3, cl, hlive, hbg, ho, s1, s2, s3, l0, Q105, b2, sb, Q122, Q0, Q1, Q2, Q3, Q4, Q5, Q6, Q7, Q8, Q9, Q10, Q11, Q12, Q13, Q14, Q15, Q16, Q17, Q18, Q19, Q20, Q21, Q22, Q23, Q24, Q25, Q26, Q27, Q28, Q29, Q30, Q31, Q32, Q33, Q35, Q36, Q37, Q38, Q39, Q40, Q41, Q42, Q43, Q44, Q45, Q46, Q47, Q48, Q49, Q50, Q51, Q52, Q53, Q54, Q55, Q56, Q57, Q58, Q59, Q60, Q61, Q62, Q63, Q64, Q65, Q66, Q67, Q68, Q69, Q70, Q71, Q72, Q73, Q99, Q100, Q101, Q102, Q103, Q74, Q75, Q77, Q78, Q79, Q80, Q81, Q82, Q83, Q84, clr, List.length_nil, List.length_cons, List.getElem?_cons_zero, List.getElem?_cons_succ, Nat.reduceAdd, Nat.zero_add, Nat.add_zero, Nat.reduceLeDiff, Nat.reduceSub, ↓reduceIte, List.drop_succ_cons, List.drop_zero, List.take_succ_cons, List.take_zero, Bool.false_eq_true, List.nil_append, List.cons_append, Bool.not_true, Bool.not_false, cond_true, cond_false, bne, Q85, Q86, Q87, Q88, Q89, Q90, Q91, Q92, Q93, Q94, Q95, Q96, Q97, Q98, Q110, Q111, Q116, Q117, Q118, Q119, Q120, Q121, Q122, Q123, Option.map_some, Option.map_none, Q34]
  | true =>
  rw [hor] at ho
  obtain ⟨r, hr, hdr⟩ := drop_ok hs (by omega) hc d
  have hdl := drop_len l y d
  obtain ⟨r2, hr2, hdr2⟩ := drop_ok hr (by omega) hc d
  rw [drop_again] at hr2
  have hsame := same_ok hr2 hr
  rw [lgs_refl] at hsame
  have s4 := fun H => hr.sn H
  have s5 := fun H => hr2.sn H
  have q4 := fun H => hr.len H
  rcases put_ok hs (by omega) hor ha' with ⟨_, hp⟩ | ⟨m, rm, hpe, hm, hp⟩
  · have z1 : ((1 : Int) == 0) = false := rfl
    have z0 : (((0 : Nat) : Int) == 0) = true := rfl
    have ln : ∀ H, evLen H .slice (.v (.slice none 0 0)) = some 0 := fun _ => rfl
    refine callW_pure (c := c6) rfl rfl 0 ?_
    simp only [c6, start, List.replicate, c6_0, c6_1, c6_2, c6_4, c6_5, c6_7, c6_8, c6_9, cl, hlive, hbg, ho, s1, s2, s3, s4, s5, sn, l0, l4, Q105, b2, sb, hdr, hdr2, hsame, hp, z1, z0, ln, snap_int, Q122, Q0, Q1, Q2, Q3, Q4, Q5, Q6, Q7, Q8, Q9, Q10, Q11, Q12, Q13, Q14, Q15, Q16, Q17, Q18, Q19, Q20, Q21, Q22, Q23, Q24, Q25, Q26, Q27, Q28, Q29, Q30, Q31, Q32, Q33, Q35, Q36, Q37, Q38, Q39, Q40, Q41, Q42, Q43, Q44, Q45, Q46, Q47, Q48, Q49, Q50, Q51, Q52, Q53, Q54, Q55, Q56, Q57, Q58, Q59, Q60, Q61, Q62, Q63, Q64, Q65, Q66, Q67, Q68, Q69, Q70, Q71, Q72, Q73, Q99, Q100, Q101, Q102, Q103, Q74, Q75, Q77, Q78, Q79, Q80, Q81, Q82, Q83, Q84, clr, List.length_nil, List.length_cons, List.getElem?_cons_zero, List.getElem?_cons_succ, Nat.reduceAdd, Nat.zero_add, Nat.add_zero, Nat.reduceLeDiff, Nat.reduceSub, ↓reduceIte, List.drop_succ_cons, List.drop_zero, List.take_succ_cons, List.take_zero, Bool.false_eq_true, List.nil_append, List.cons_append, Bool.not_true, Bool.not_false, cond_true, cond_false, bne, Q85, Q86, Q87, Q88, Q89, Q90, Q91, Q92, Q93, Q94, Q95, Q96, Q97, Q98, Q110, Q111, Q116, Q117, Q118, Q119, Q120, Q121, Q122, Q123, Option.map_some, Option.map_none, Q34]
  · have z1 : ((0 : Int) == 0) = true := rfl
    have s6 := fun H => hm.sn H
    have q6 := fun H => hm.len H
    have hml := put_len hpe
    have hc1 : cntL lab m = 1 := cnt_one m (put_ord hor hpe) ⟨_, (put_mem hpe _).2 (.inl rfl), rfl⟩
    obtain ⟨r3, hr3, hdr3⟩ := drop_ok hm (by omega) hc d
    have q7 := fun H => hr3.len H
    have hge := drop_put hpe y d
    have b3 : decide (((dropL m y d).length : Int) ≥ ((dropL l y d).length : Int)) = true := decide_eq_true (by omega)
    have b4 : ((m.length : Int) == IntKind.i64.wrap ((l.length : Int) + 1)) = true := by
      rw [wrap_succ (i := l.length) (len := m.length) (by omega) hm.max, hml]; simp
    have b5 : (((1 : Nat) : Int) == 1) = true := rfl
    obtain ⟨h', lp⟩ := twice_loop (K := m.length + 1) (s := s) (c := c) (a := r) (d := d) (rest := [.v (.int .i64 k), dd, .v (.int .i64 e)]) hm h1 (by omega) [s, .agg [c1, .v (.int .i64 k), dd, .v (.int .i64 e)], c, .v (.int .i64 d), .ptr 0 0, .v (.bool false), .v (.bool true), r, rm, .v (.int .i64 0), .v (.int .i64 0), .v undef, .v (.bool false), .v (.bool false), .v (.bool false), rm, .v (.int .i64 m.length), .v (.int .i64 0), .v undef, .v undef] [.box 29 [c1, .v (.int .i64 k), dd, .v (.int .i64 e)]] rfl rfl
    rw [hc1] at lp
    simp only [V6] at lp
    refine callW_pure (c := c6) rfl rfl (m.length + 1) ?_
    rw [show c6.body = (.seq (.region [] [] c6_0) (.seq (.region [] [] c6_1) (.seq (.seq (.region [] [] c6_2) (.cond (.var 12) (.seq (.region [] [] c6_3) .ret) .skip)) (.seq (.region [] [] c6_4) (.seq (.seq (.region [] [] c6_5) (.cond (.var 13) (.seq (.region [] [] c6_6) .ret) .skip)) (.seq (.region [] [] c6_7) (.seq (.seq (.region [] [] c6_8) (.cond (.var 14) (.seq (.region [] [] c6_9) .ret) .skip)) (.seq (.region [] [] c6_10) (.seq (.seq (.region [] [] c6_11) (.block 0 (.loop K6 [] c6_17))) (.seq (.region [] [] c6_18) .ret)))))))))) from rfl]
    generalize c6_17 = bb at lp ⊢
    simp only [c6, start, List.replicate, c6_0, c6_1, c6_2, c6_4, c6_5, c6_7, c6_8, c6_10, c6_11, c6_18, cl, hlive, hbg, ho, s1, s2, s3, s4, s5, s6, sn, q1, q4, q6, q7, l0, l4, Q105, b2, sb, hdr, hdr2, hdr3, hsame, hp, z1, b3, b4, b5, lp, snap_int, Q122, Q0, Q1, Q2, Q3, Q4, Q5, Q6, Q7, Q8, Q9, Q10, Q11, Q12, Q13, Q14, Q15, Q16, Q17, Q18, Q19, Q20, Q21, Q22, Q23, Q24, Q25, Q26, Q27, Q28, Q29, Q30, Q31, Q32, Q33, Q35, Q36, Q37, Q38, Q39, Q40, Q41, Q42, Q43, Q44, Q45, Q46, Q47, Q48, Q49, Q50, Q51, Q52, Q53, Q54, Q55, Q56, Q57, Q58, Q59, Q60, Q61, Q62, Q63, Q64, Q65, Q66, Q67, Q68, Q69, Q70, Q71, Q72, Q73, Q99, Q100, Q101, Q102, Q103, Q74, Q75, Q77, Q78, Q79, Q80, Q81, Q82, Q83, Q84, clr, List.length_nil, List.length_cons, List.getElem?_cons_zero, List.getElem?_cons_succ, Nat.reduceAdd, Nat.zero_add, Nat.add_zero, Nat.reduceLeDiff, Nat.reduceSub, ↓reduceIte, List.drop_succ_cons, List.drop_zero, List.take_succ_cons, List.take_zero, Bool.false_eq_true, List.nil_append, List.cons_append, Bool.not_true, Bool.not_false, cond_true, cond_false, bne, Q85, Q86, Q87, Q88, Q89, Q90, Q91, Q92, Q93, Q94, Q95, Q96, Q97, Q98, Q110, Q111, Q116, Q117, Q118, Q119, Q120, Q121, Q122, Q123, Option.map_some, Option.map_none, Q34]
end Go.AE.Ytkdjdhfoodlnfaa
end

/-! What comes in, out of its types. -/
section
set_option linter.unusedVariables false
namespace Go.AE.Ytkdjdhfoodlnfaa
open Go Go.AE Go.Proofs.Ytkdjdhfoodlnfaa
theorem tmTy : TmTy T 3 9 2 66 24 := ⟨⟨_, rfl, rfl⟩, ⟨_, rfl, rfl⟩, ⟨_, rfl, rfl⟩, ⟨_, _, _, _, _, rfl, rfl, rfl, rfl, rfl, rfl, rfl, rfl⟩, ⟨_, rfl, rfl⟩⟩
theorem iv_of : ∀ {es : List AV} {l : List Int}, AllR IsI es l → es = l.map iv
  | _, _, .nil => rfl
  | _, _, .cons a x es l h hs => by rw [List.map_cons, ← iv_of hs, show a = iv x from h]
theorem wt_ns {cs : List AV} (w : WT T 23 cs) : ∃ c l, cs = [c] ∧ Ns c l := by
  obtain ⟨c, l, h, es, hs, ha, hm⟩ := wt_ints (t := 23) (e := 3) (i := ti23) (j := ti3) rfl rfl rfl rfl rfl rfl w
  have := iv_of ha
  subst this
  exact ⟨c, l, h, hs, by simpa using hm⟩
theorem wt_en {cs : List AV} (w : WT T 29 cs) : ∃ x, IsEn (.agg cs) x := by
  obtain ⟨a, b, rfl, w0, w1⟩ := wt_struct2 (i := ti29) rfl rfl w
  obtain ⟨c, lab, rfl, hc⟩ := wt_ns w0
  obtain ⟨k, t, e, rfl, w2, w3, w4⟩ := wt_struct3 (t := 27) (i := ti27) rfl rfl w1
  obtain ⟨n, rfl, _⟩ := wt_int_of (t := 3) (i := ti3) (k := .i64) rfl rfl w2
  obtain ⟨d, ts, rfl, hd⟩ := tmTy.terms w3
  obtain ⟨m, rfl, _⟩ := wt_int_of (t := 25) (i := ti25) (k := .i64) rfl rfl w4
  exact ⟨_, .mk c lab hc n d ts hd m⟩
theorem log_in {a : AV} (w : WT T 22 a.cells) (e : Q77 ti22.agg a.cells = some a) : ∃ l, Lg a l := by
  rcases wt_slice_of (t := 22) (e := 29) (i := ti22) (j := ti29) rfl rfl rfl w with h | ⟨l, h, hl, hel, has⟩
  · rw [one_cell e h]; exact ⟨[], [], .nil, .nil, by simp⟩
  · rw [one_cell e h]
    obtain ⟨xs, hxs⟩ := allR_of (R := IsEn) (l := l) (fun el hm => by
      obtain ⟨x, hx⟩ := wt_en (hel el hm)
      have := has el hm
      rw [← agg_cells this] at hx
      exact ⟨x, hx⟩)
    exact ⟨xs, l, .slc _ _ _, hxs, hl⟩
theorem ent_in {a : AV} (w : WT T 29 a.cells) (e : Q77 ti29.agg a.cells = some a) : ∃ x, IsEn a x := by
  obtain ⟨x, hx⟩ := wt_en w
  rw [agg_cells e]; exact ⟨x, hx⟩
theorem ns_in {a : AV} (w : WT T 23 a.cells) (e : Q77 ti23.agg a.cells = some a) : ∃ l, Ns a l := by
  obtain ⟨c, l, h, hl⟩ := wt_ns w
  rw [one_cell e h]; exact ⟨l, hl⟩
theorem nss_in {a : AV} (w : WT T 39 a.cells) (e : Q77 ti39.agg a.cells = some a) : ∃ l, Nss a l := by
  rcases wt_slice_of (t := 39) (e := 23) (i := ti39) (j := ti23) rfl rfl rfl w with h | ⟨l, h, hl, hel, has⟩
  · rw [one_cell e h]; exact ⟨[], [], .nil, .nil, by simp⟩
  · rw [one_cell e h]
    obtain ⟨xs, hxs⟩ := allR_of (R := Ns) (l := l) (fun el hm => ns_in (hel el hm) (has el hm))
    exact ⟨xs, l, .slc _ _ _, hxs, hl⟩
theorem int_in {a : AV} (w : WT T 3 a.cells) (e : Q77 ti3.agg a.cells = some a) : ∃ n : Int, a = .v (.int .i64 n) ∧ (Lit.int .i64 n).wf = true := by
  obtain ⟨n, h, hn⟩ := wt_int_of (t := 3) (i := ti3) (k := .i64) rfl rfl w
  exact ⟨n, one_cell e h, hn⟩
end Go.AE.Ytkdjdhfoodlnfaa
end
