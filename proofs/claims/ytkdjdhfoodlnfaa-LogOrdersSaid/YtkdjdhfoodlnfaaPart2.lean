/- Texts of this claim, put together. -/
import Derived.Test.YtkdjdhfoodlnfaaPart1
import Derived.Test.YtkdjdhfoodlnfaaEval3
import Derived.Test.YtkdjdhfoodlnfaaEval4
/-! Places are in a total order; what Put does to a log in order. -/
section
set_option linter.unusedVariables false
set_option linter.unusedSimpArgs false
namespace Go.AE.Ytkdjdhfoodlnfaa
open Go Go.AE Go.Proofs.Ytkdjdhfoodlnfaa

theorem cmp_lt {a b : Int} {l m : List Int} (h : a < b) : cmpL (a :: l) (b :: m) = -1 := by rw [cmpL, if_pos (decide_eq_true h)]
theorem cmp_gt {a b : Int} {l m : List Int} (h : b < a) : cmpL (a :: l) (b :: m) = 1 := by rw [cmpL, if_neg (by simp; omega), if_pos (decide_eq_true h)]
theorem cmp_eq {a : Int} {l m : List Int} : cmpL (a :: l) (a :: m) = cmpL l m := by rw [cmpL, if_neg (by simp), if_neg (by simp)]
theorem cmp_anti : ∀ (x y : List Int), cmpL y x = - cmpL x y
  | [], [] => rfl
  | [], _ :: _ => rfl
  | _ :: _, [] => rfl
  | a :: l, b :: m => by
    rcases Int.lt_trichotomy a b with h | h | h
    · rw [cmp_lt h, cmp_gt h]; rfl
    · subst h; rw [cmp_eq, cmp_eq]; exact cmp_anti l m
    · rw [cmp_lt h, cmp_gt h]
theorem cmp_zero : ∀ (x y : List Int), cmpL x y = 0 ↔ x = y
  | [], [] => by simp [cmpL]
  | [], _ :: _ => by simp [cmpL]
  | _ :: _, [] => by simp [cmpL]
  | a :: l, b :: m => by
    rcases Int.lt_trichotomy a b with h | h | h
    · rw [cmp_lt h, List.cons.injEq]; constructor
      · intro h2; cases h2
      · rintro ⟨rfl, _⟩; omega
    · subst h; rw [cmp_eq, cmp_zero l m]; simp
    · rw [cmp_gt h, List.cons.injEq]; constructor
      · intro h2; cases h2
      · rintro ⟨rfl, _⟩; omega
theorem cmp_trans : ∀ (x y z : List Int), cmpL x y < 0 → cmpL y z < 0 → cmpL x z < 0
  | [], [], _, h, _ => absurd h (by decide)
  | [], _ :: _, [], _, h => absurd h (by simp [cmpL])
  | [], _ :: _, _ :: _, _, _ => by simp [cmpL]
  | _ :: _, [], _, h, _ => absurd h (by simp [cmpL])
  | _ :: _, _ :: _, [], _, h => absurd h (by simp [cmpL])
  | a :: l, b :: m, c :: n, h1, h2 => by
    rcases Int.lt_trichotomy a b with h | h | h
    · rcases Int.lt_trichotomy b c with h' | h' | h'
      · rw [cmp_lt (by omega)]; decide
      · subst h'; rw [cmp_lt h]; decide
      · rw [cmp_gt h'] at h2; exact absurd h2 (by decide)
    · subst h
      rcases Int.lt_trichotomy a c with h' | h' | h'
      · rw [cmp_lt h']; decide
      · subst h'; rw [cmp_eq] at h1 h2 ⊢; exact cmp_trans l m n h1 h2
      · rw [cmp_gt h'] at h2; exact absurd h2 (by decide)
    · rw [cmp_gt h] at h1; exact absurd h1 (by decide)
theorem cmp_refl (x : List Int) : cmpL x x = 0 := (cmp_zero x x).2 rfl
theorem cmp_le_trans {x y z : List Int} (h1 : cmpL x y ≤ 0) (h2 : cmpL y z ≤ 0) : cmpL x z ≤ 0 := by
  by_cases a : cmpL x y = 0
  · rw [(cmp_zero _ _).1 a]; exact h2
  · by_cases b : cmpL y z = 0
    · rw [← (cmp_zero _ _).1 b]; exact h1
    · have := cmp_trans x y z (by omega) (by omega); omega
theorem cmp_lt_le {x y z : List Int} (h1 : cmpL x y < 0) (h2 : cmpL y z ≤ 0) : cmpL x z < 0 := by
  by_cases b : cmpL y z = 0
  · rw [← (cmp_zero _ _).1 b]; exact h1
  · exact cmp_trans x y z h1 (by omega)
theorem cmp_le_lt {x y z : List Int} (h1 : cmpL x y ≤ 0) (h2 : cmpL y z < 0) : cmpL x z < 0 := by
  by_cases b : cmpL x y = 0
  · rw [(cmp_zero _ _).1 b]; exact h2
  · exact cmp_trans x y z (by omega) h2
/-! ### Logs in order -/
theorem ord_cons {a : En} {l : List En} : ordL (a :: l) = true ↔ (∀ x ∈ l, cmpL a.lab x.lab < 0) ∧ ordL l = true := by
  induction l generalizing a with
  | nil => simp [ordL]
  | cons b l ih =>
    rw [ordL, Bool.and_eq_true, decide_eq_true_eq, ih]
    constructor
    · rintro ⟨h1, h2, h3⟩
      refine ⟨?_, h2, h3⟩
      intro x hx
      rcases List.mem_cons.1 hx with rfl | hx
      · exact h1
      · exact cmp_trans _ _ _ h1 (h2 x hx)
    · rintro ⟨h1, h2, h3⟩
      exact ⟨h1 b (List.mem_cons_self ..), h2, h3⟩
theorem ord_at {l : List En} (h : ordL l = true) {i j : Nat} (hij : i < j) (hj : j < l.length) : cmpL (l[i]'(by omega)).lab l[j].lab < 0 := by
  induction l generalizing i j with
  | nil => simp at hj
  | cons a l ih =>
    obtain ⟨h1, h2⟩ := ord_cons.1 h
    cases j with
    | zero => omega
    | succ j =>
      cases i with
      | zero => exact h1 _ (List.getElem_mem _)
      | succ i => exact ih h2 (by omega) (by simpa using hj)
def putL : List En → En → Option (List En)
  | [], e => some [e]
  | x :: l, e => if cmpL x.lab e.lab < 0 then (putL l e).map (x :: ·) else if cmpL x.lab e.lab = 0 then none else some (e :: x :: l)
theorem put_at : ∀ (l : List En) (e : En) (r : Nat), r ≤ l.length → (∀ (k : Nat) (h : k < l.length), k < r → cmpL l[k].lab e.lab < 0) → (∀ (h : r < l.length), cmpL l[r].lab e.lab ≥ 0) →
    putL l e = if h : r < l.length then (if cmpL l[r].lab e.lab = 0 then none else some (l.take r ++ e :: l.drop r)) else some (l.take r ++ e :: l.drop r)
  | [], e, r, hr, _, _ => by
    simp at hr
    subst hr
    simp [putL]
  | x :: l, e, 0, _, _, h2 => by
    have := h2 (by simp)
    simp only [List.getElem_cons_zero] at this
    rw [putL, if_neg (by omega), dif_pos (by simp)]
    simp only [List.getElem_cons_zero, List.take_zero, List.drop_zero, List.nil_append]
  | x :: l, e, r + 1, hr, h1, h2 => by
    have h0 := h1 0 (by simp) (by omega)
    simp only [List.getElem_cons_zero] at h0
    rw [putL, if_pos h0, put_at l e r (by simpa using hr) (fun k h hk => by have := h1 (k + 1) (by simp; omega) (by omega); simpa using this) (fun h => by have := h2 (by simp; omega); simpa using this)]
    by_cases hl : r < l.length
    · rw [dif_pos hl, dif_pos (by simp; omega)]
      simp only [List.getElem_cons_succ]
      split <;> simp
    · rw [dif_neg hl, dif_neg (by simp; omega)]
      simp
theorem put_mem {l : List En} {e : En} {m : List En} (h : putL l e = some m) : ∀ x, x ∈ m ↔ x = e ∨ x ∈ l := by
  induction l generalizing m with
  | nil => simp [putL] at h; subst h; simp
  | cons a l ih =>
    rw [putL] at h
    split at h
    · cases hp : putL l e with
      | none => rw [hp] at h; cases h
      | some m' =>
        rw [hp] at h
        simp at h
        subst h
        intro x
        rw [List.mem_cons, ih hp, List.mem_cons]
        constructor
        · rintro (h | h | h) <;> simp [h]
        · rintro (h | h | h) <;> simp [h]
    · split at h
      · cases h
      · simp at h; subst h; intro x; simp
theorem put_len {l : List En} {e : En} {m : List En} (h : putL l e = some m) : m.length = l.length + 1 := by
  induction l generalizing m with
  | nil => simp [putL] at h; subst h; simp
  | cons a l ih =>
    rw [putL] at h
    split at h
    · cases hp : putL l e with
      | none => rw [hp] at h; cases h
      | some m' =>
        rw [hp] at h
        simp at h
        subst h
        simp [ih hp]
    · split at h
      · cases h
      · simp at h; subst h; simp
theorem put_ord {l : List En} {e : En} {m : List En} (ho : ordL l = true) (h : putL l e = some m) : ordL m = true := by
  induction l generalizing m with
  | nil => simp [putL] at h; subst h; rfl
  | cons a l ih =>
    obtain ⟨h1, h2⟩ := ord_cons.1 ho
    rw [putL] at h
    split at h
    · rename_i hlt
      cases hp : putL l e with
      | none => rw [hp] at h; cases h
      | some m' =>
        rw [hp] at h
        simp at h
        subst h
        refine ord_cons.2 ⟨?_, ih h2 hp⟩
        intro x hx
        rcases (put_mem hp x).1 hx with rfl | hx
        · exact hlt
        · exact h1 x hx
    · split at h
      · cases h
      · rename_i h3 h4
        simp at h
        subst h
        have h5 : cmpL e.lab a.lab < 0 := by rw [cmp_anti]; omega
        refine ord_cons.2 ⟨?_, ho⟩
        intro x hx
        rcases List.mem_cons.1 hx with rfl | hx
        · exact h5
        · exact cmp_trans _ _ _ h5 (h1 x hx)
theorem put_none {l : List En} {e : En} (ho : ordL l = true) : putL l e = none ↔ ∃ x ∈ l, x.lab = e.lab := by
  induction l with
  | nil => simp [putL]
  | cons a l ih =>
    obtain ⟨h1, h2⟩ := ord_cons.1 ho
    rw [putL]
    split
    · rename_i hlt
      rw [Option.map_eq_none_iff, ih h2]
      have hne : a.lab ≠ e.lab := by intro h; rw [h, cmp_refl] at hlt; omega
      simp [hne]
    · rename_i hge
      split
      · rename_i h0
        simp [(cmp_zero _ _).1 h0]
      · rename_i h0
        simp only [reduceCtorEq, false_iff, not_exists, not_and, List.mem_cons, forall_eq_or_imp]
        refine ⟨fun h => h0 ((cmp_zero _ _).2 h), fun x hx h => ?_⟩
        have := h1 x hx
        rw [h] at this
        omega
end Go.AE.Ytkdjdhfoodlnfaa
end

/-! Ready, Drop, Put, big: walked. -/
section
set_option linter.unusedVariables false
set_option linter.unusedSimpArgs false
namespace Go.AE.Ytkdjdhfoodlnfaa
open Go Go.AE Go.Proofs.Ytkdjdhfoodlnfaa

theorem first_at {α : Type} {R : AV → α → Prop} {p : AV → Bool} {q : α → Bool} (hpq : ∀ a x, R a x → p a = q x) : ∀ {es : List AV} {l : List α}, AllR R es l → ∀ (k : Nat),
    firstAt p es k = if (l.takeWhile (fun x => !q x)).length < l.length then ((k + (l.takeWhile (fun x => !q x)).length : Nat) : Int) else -1
  | _, _, .nil, k => by simp [firstAt]
  | _, _, .cons a x es l h hs, k => by
    rw [firstAt, hpq a x h, List.takeWhile_cons]
    cases hq : q x with
    | true => simp
    | false =>
      rw [if_neg (by simp), first_at hpq hs (k + 1)]
      simp only [Bool.not_false, if_true, List.length_cons, Nat.add_lt_add_iff_right]
      split
      · congr 1; omega
      · rfl
theorem filter_R {α : Type} {R : AV → α → Prop} {p : AV → Bool} {q : α → Bool} (hpq : ∀ a x, R a x → p a = q x) : ∀ {es : List AV} {l : List α}, AllR R es l → AllR R (es.filter p) (l.filter q)
  | _, _, .nil => .nil
  | _, _, .cons a x es l h hs => by
    rw [List.filter_cons, List.filter_cons, hpq a x h]
    cases q x with
    | true => exact .cons _ _ _ _ h (filter_R hpq hs)
    | false => exact filter_R hpq hs
theorem Ns.bel {t : TypeId} {c : AV} {x : List Int} (h : Ns c x) (n : Nat) : AO.below n (.box t [c]) = true := by
  obtain ⟨hs, _⟩ := h
  generalize x.map iv = es at hs
  cases hs <;> rfl
theorem IsEn.elm {a : AV} {x : En} (h : IsEn a x) : El true 4 a := by
  have cl := h.cl
  cases h with
  | mk c lab hc k d ts hd e =>
    obtain ⟨hs, _⟩ := hc
    generalize lab.map iv = es at hs
    cases hs <;> cases hd <;> exact ⟨rfl, rfl, fun _ => rfl, cl, rfl, rfl⟩
theorem Lg.elm {es : List AV} {l : List En} (h : AllR IsEn es l) : ∀ e ∈ es, El true 4 e := by
  intro e he
  obtain ⟨x, _, hx⟩ := h.mem e he
  exact hx.elm
def ansB : Option (AV × List AO) → Bool
  | some (.v (.bool b), _) => b
  | _ => false
def readyL (l : List En) : List (List Int) → Nat
  | [] => l.length
  | o :: ll => (l.takeWhile (fun x => decide (cmpL x.lab (leastL o ll) < 0))).length
theorem ready_ok {c d : AV} {l : List En} {op : List (List Int)} (hc : Lg c l) (hd : Nss d op) : callW F 15 [c, d] [] = some (.v (.int .i64 (readyL l op)), []) := by
  have q1 := fun H => hc.len H
  have q2 := fun H => hd.len H
  cases op with
  | nil =>
    refine callW_pure (c := c15) rfl rfl 0 ?_
    have z : ((([] : List (List Int)).length : Int) == 0) = true := rfl
    generalize ([] : List (List Int)).length = n0 at q2 z
    simp only [c15, start, List.replicate, c15_0, c15_1, c15_2, q1, q2, z, readyL, Q0, Q1, Q2, Q3, Q4, Q5, Q6, Q7, Q8, Q9, Q10, Q11, Q12, Q13, Q14, Q15, Q16, Q17, Q18, Q19, Q20, Q21, Q22, Q23, Q24, Q25, Q26, Q27, Q28, Q29, Q30, Q31, Q32, Q33, Q35, Q36, Q37, Q38, Q39, Q40, Q41, Q42, Q43, Q44, Q45, Q46, Q47, Q48, Q49, Q50, Q51, Q52, Q53, Q54, Q55, Q56, Q57, Q58, Q59, Q60, Q61, Q62, Q63, Q64, Q65, Q66, Q67, Q68, Q69, Q70, Q71, Q72, Q73, Q99, Q100, Q101, Q102, Q103, Q74, Q75, Q77, Q78, Q79, Q80, Q81, Q82, Q83, Q84, clr, List.length_nil, List.length_cons, List.getElem?_cons_zero, List.getElem?_cons_succ, Nat.reduceAdd, Nat.zero_add, Nat.add_zero, Nat.reduceLeDiff, Nat.reduceSub, ↓reduceIte, List.drop_succ_cons, List.drop_zero, List.take_succ_cons, List.take_zero, Bool.false_eq_true, List.nil_append, List.cons_append, Bool.not_true, Bool.not_false, cond_true, cond_false, bne, Q85, Q86, Q87, Q88, Q89, Q90, Q91, Q92, Q93, Q94, Q95, Q96, Q97, Q98, Q110, Q111, Q116, Q117, Q118, Q119, Q120, Q121, Q122, Q123, Option.map_some, Option.map_none, Q34]
  | cons o ll =>
    obtain ⟨r, hr, h29⟩ := least1_ok hd
    have z : (((o :: ll).length : Int) == 0) = false := by simp; omega
    have cr := Ns.cl1 hr
    obtain ⟨es, hs, ha, hm⟩ := hc
    have hb : ([.box 23 [r]] : List AO).all (AO.below ([.box 23 [r]] : List AO).length) = true := by simp only [List.all_cons, List.all_nil, hr.bel, Bool.and_true]
    let p : AV → Bool := fun a => ansB (callW F 31 [a, .ptr 0 0] [.box 23 [r]])
    have hp : ∀ a x, IsEn a x → p a = decide (cmpL x.lab (leastL o ll) ≥ 0) := by
      intro a x h
      simp only [p, least_ok h hr (H := [.box 23 [r]]) (i := 0) rfl hb, ansB]
    have hi := index_run (F := F) (fi := 30) (g := 31) (agg := true) (sz := 4) (first := []) (cap := [.ptr 0 0]) (p := p) (H := [.box 23 [r]]) (s := c) (l := es) rfl hb (Rd.sl hs (Lg.elm ha)) hm (by
      intro a ha'
      obtain ⟨x, _, hx⟩ := ha.mem a ha'
      rw [hp a x hx]
      exact least_ok hx hr rfl hb)
    rw [first_at hp ha 0] at hi
    have tw : (fun x : En => !decide (cmpL x.lab (leastL o ll) ≥ 0)) = (fun x : En => decide (cmpL x.lab (leastL o ll) < 0)) := by
      funext x
      by_cases h : cmpL x.lab (leastL o ll) < 0
      · rw [decide_eq_true h, decide_eq_false (by omega)]; rfl
      · rw [decide_eq_false h, decide_eq_true (by omega)]; rfl
    rw [tw, Nat.zero_add] at hi
    have st : Q113 [.box 23 [.v (.slice none 0 0)]] 1 (.ptr 0 0) r = some [.box 23 [r]] := by
      simp only [Q113, List.getElem?_cons_zero]
      have s1 := hr.sn ([.box 23 [.v (.slice none 0 0)]] : List AO)
      simp only [cr, s1]
      first | rfl | simp [Q112]
    refine callW_pure (c := c15) rfl rfl 0 ?_
    have hle : (l.takeWhile (fun x => decide (cmpL x.lab (leastL o ll) < 0))).length ≤ l.length := (List.takeWhile_sublist _).length_le
    simp only [readyL]
    generalize (l.takeWhile (fun x => decide (cmpL x.lab (leastL o ll) < 0))).length = n at hi hle
    generalize (o :: ll).length = n1 at q2 z
    by_cases hn : n < l.length
    · rw [if_pos hn] at hi
      have z2 : decide ((n : Int) < 0) = false := decide_eq_false (by omega)
      simp only [c15, start, List.replicate, c15_0, c15_1, c15_3, c15_4, c15_5, c15_7, q1, q2, z, Q121, g_fnk, h29, Q34, st, e_mkfn, List.map_cons, List.map_nil, hi, z2, Q0, Q1, Q2, Q3, Q4, Q5, Q6, Q7, Q8, Q9, Q10, Q11, Q12, Q13, Q14, Q15, Q16, Q17, Q18, Q19, Q20, Q21, Q22, Q23, Q24, Q25, Q26, Q27, Q28, Q29, Q30, Q31, Q32, Q33, Q35, Q36, Q37, Q38, Q39, Q40, Q41, Q42, Q43, Q44, Q45, Q46, Q47, Q48, Q49, Q50, Q51, Q52, Q53, Q54, Q55, Q56, Q57, Q58, Q59, Q60, Q61, Q62, Q63, Q64, Q65, Q66, Q67, Q68, Q69, Q70, Q71, Q72, Q73, Q99, Q100, Q101, Q102, Q103, Q74, Q75, Q77, Q78, Q79, Q80, Q81, Q82, Q83, Q84, clr, List.length_nil, List.length_cons, List.getElem?_cons_zero, List.getElem?_cons_succ, Nat.reduceAdd, Nat.zero_add, Nat.add_zero, Nat.reduceLeDiff, Nat.reduceSub, ↓reduceIte, List.drop_succ_cons, List.drop_zero, List.take_succ_cons, List.take_zero, Bool.false_eq_true, List.nil_append, List.cons_append, Bool.not_true, Bool.not_false, cond_true, cond_false, bne, Q85, Q86, Q87, Q88, Q89, Q90, Q91, Q92, Q93, Q94, Q95, Q96, Q97, Q98, Q110, Q111, Q116, Q117, Q118, Q119, Q120, Q121, Q122, Q123, Option.map_some, Option.map_none, Q34]
    · rw [if_neg hn] at hi
      have hnl : n = l.length := by omega
      have z2 : decide ((-1 : Int) < 0) = true := rfl
      subst hnl
      simp only [c15, start, List.replicate, c15_0, c15_1, c15_3, c15_4, c15_5, c15_6, q1, q2, z, Q121, g_fnk, h29, Q34, st, e_mkfn, List.map_cons, List.map_nil, hi, z2, Q0, Q1, Q2, Q3, Q4, Q5, Q6, Q7, Q8, Q9, Q10, Q11, Q12, Q13, Q14, Q15, Q16, Q17, Q18, Q19, Q20, Q21, Q22, Q23, Q24, Q25, Q26, Q27, Q28, Q29, Q30, Q31, Q32, Q33, Q35, Q36, Q37, Q38, Q39, Q40, Q41, Q42, Q43, Q44, Q45, Q46, Q47, Q48, Q49, Q50, Q51, Q52, Q53, Q54, Q55, Q56, Q57, Q58, Q59, Q60, Q61, Q62, Q63, Q64, Q65, Q66, Q67, Q68, Q69, Q70, Q71, Q72, Q73, Q99, Q100, Q101, Q102, Q103, Q74, Q75, Q77, Q78, Q79, Q80, Q81, Q82, Q83, Q84, clr, List.length_nil, List.length_cons, List.getElem?_cons_zero, List.getElem?_cons_succ, Nat.reduceAdd, Nat.zero_add, Nat.add_zero, Nat.reduceLeDiff, Nat.reduceSub, ↓reduceIte, List.drop_succ_cons, List.drop_zero, List.take_succ_cons, List.take_zero, Bool.false_eq_true, List.nil_append, List.cons_append, Bool.not_true, Bool.not_false, cond_true, cond_false, bne, Q85, Q86, Q87, Q88, Q89, Q90, Q91, Q92, Q93, Q94, Q95, Q96, Q97, Q98, Q110, Q111, Q116, Q117, Q118, Q119, Q120, Q121, Q122, Q123, Option.map_some, Option.map_none, Q34]
def dropL (l : List En) (y : List Int) (d : Int) : List En := l.filter (fun x => !prunedL x.lab y d)
theorem drop_ok {c s : AV} {l : List En} {y : List Int} (hs : Lg s l) (hl : l.length ≤ 1000000) (hc : Ns c y) (d : Int) : ∃ r, Lg r (dropL l y d) ∧ callW F 16 [s, c, .v (.int .i64 d)] [] = some (r, []) := by
  have cc := Ns.cl1 hc
  obtain ⟨es, hsl, ha, hm⟩ := hs
  have hel : es.length ≤ 1000000 := by rw [ha.length]; exact hl
  have hcl := clone_call (F' := F) (f := 27) (rt := 29) (sz := 4) (bytes := 64) rfl (hsl.elems [.box 23 [c], .box 3 [.v (.int .i64 d)]]) (fits_small hel (by omega))
  have hb0 : ∀ n, AO.below n (.box 3 [.v (.int .i64 d)]) = true := fun _ => rfl
  cases es with
  | nil =>
    have hl0 : l = [] := by have := ha.length; exact List.length_eq_zero_iff.1 (by simpa using this.symm)
    subst hl0
    simp only [cloneR] at hcl
    have hb : ([.box 23 [c], .box 3 [.v (.int .i64 d)]] : List AO).all (AO.below ([.box 23 [c], .box 3 [.v (.int .i64 d)]] : List AO).length) = true := by simp only [List.all_cons, List.all_nil, hc.bel, hb0, Bool.and_true]
    have hd := delete_none (F := F) (f := 32) (fi := 30) (g := 33) (bt := 29) (agg := true) (sz := 4) (zero := [.slice none 0 0, .int .i64 0, .slice none 0 0, .int .i64 0]) (first := []) (cap := [.ptr 0 0, .ptr 1 0]) (p := fun _ => false) rfl rfl hb (s := .slc 4 true false []) (l := []) (Rd.sl (.slc _ _ _) (fun e h => by simp at h)) (by simp) rfl (fun x h => by simp at h) (fun x h => by simp at h)
    refine ⟨.slc 4 true false [], ⟨[], .slc _ _ _, .nil, by simp⟩, callW_pure (c := c16) rfl rfl 0 ?_⟩
    simp only [c16, start, List.replicate, c16_0, c16_1, cc, e_callh, hcl, Q121, e_mkfn, List.map_cons, List.map_nil, hd, Q0, Q1, Q2, Q3, Q4, Q5, Q6, Q7, Q8, Q9, Q10, Q11, Q12, Q13, Q14, Q15, Q16, Q17, Q18, Q19, Q20, Q21, Q22, Q23, Q24, Q25, Q26, Q27, Q28, Q29, Q30, Q31, Q32, Q33, Q35, Q36, Q37, Q38, Q39, Q40, Q41, Q42, Q43, Q44, Q45, Q46, Q47, Q48, Q49, Q50, Q51, Q52, Q53, Q54, Q55, Q56, Q57, Q58, Q59, Q60, Q61, Q62, Q63, Q64, Q65, Q66, Q67, Q68, Q69, Q70, Q71, Q72, Q73, Q99, Q100, Q101, Q102, Q103, Q74, Q75, Q77, Q78, Q79, Q80, Q81, Q82, Q83, Q84, clr, List.length_nil, List.length_cons, List.getElem?_cons_zero, List.getElem?_cons_succ, Nat.reduceAdd, Nat.zero_add, Nat.add_zero, Nat.reduceLeDiff, Nat.reduceSub, ↓reduceIte, List.drop_succ_cons, List.drop_zero, List.take_succ_cons, List.take_zero, Bool.false_eq_true, List.nil_append, List.cons_append, Bool.not_true, Bool.not_false, cond_true, cond_false, bne, Q85, Q86, Q87, Q88, Q89, Q90, Q91, Q92, Q93, Q94, Q95, Q96, Q97, Q98, Q110, Q111, Q116, Q117, Q118, Q119, Q120, Q121, Q122, Q123, Option.map_some, Option.map_none, Q34]
  | cons e0 es0 =>
    simp only [cloneR] at hcl
    generalize hE : e0 :: es0 = es at *
    have hne : (es0.length + 1) = es.length := by rw [← hE]; rfl
    rw [hne] at hcl
    have hb : ([.box 23 [c], .box 3 [.v (.int .i64 d)], .row 29 4 0 es 0] : List AO).all (AO.below ([.box 23 [c], .box 3 [.v (.int .i64 d)], .row 29 4 0 es 0] : List AO).length) = true := by
      simp only [List.all_cons, List.all_nil, hc.bel, hb0, Bool.and_true, Bool.true_and]; rfl
    let H0 : List AO := [.box 23 [c], .box 3 [.v (.int .i64 d)]]
    have hbH : H0.all (AO.below H0.length) = true := by simp only [H0, List.all_cons, List.all_nil, hc.bel, hb0, Bool.and_true]
    let p : AV → Bool := fun a => ansB (callW F 33 [a, .ptr 0 0, .ptr 1 0] H0)
    have hp : ∀ a x, IsEn a x → p a = prunedL x.lab y d := by
      intro a x h
      simp only [p, cut_ok h hc (H := H0) (i := 0) (j := 1) rfl rfl hbH, ansB]
    obtain ⟨L', h1, h2, h3, _⟩ := delete_run (F := F) (f := 32) (fi := 30) (g := 33) (bt := 29) (rt := 29) (agg := true) (sz := 4) (zero := [.slice none 0 0, .int .i64 0, .slice none 0 0, .int .i64 0]) (first := []) (cap := [.ptr 0 0, .ptr 1 0]) (p := p) (H := [.box 23 [c], .box 3 [.v (.int .i64 d)], .row 29 4 0 es 0]) (id := 2) (ver := 0) (l := es) rfl rfl hb rfl hm (Lg.elm ha) ⟨rfl, rfl, fun _ => rfl, rfl, rfl, rfl⟩ ⟨by kernel_rfl, rfl⟩ (by
      intro a ha' h hbh hoth
      obtain ⟨x, _, hx⟩ := ha.mem a ha'
      rw [hp a x hx]
      exact cut_ok hx hc (hoth 0 _ (by decide) rfl) (hoth 1 _ (by decide) rfl) hbh)
    have hfr := filter_R (p := fun x => !p x) (q := fun x => !prunedL x.lab y d) (fun a x h => by rw [hp a x h]) ha
    generalize hq : es.filter (fun x => !p x) = q at h1 h3 hfr
    have hql : q.length ≤ es.length := by rw [← hq]; exact List.length_filter_le _ _
    have lf := lvf_own (h := rowH [.box 23 [c], .box 3 [.v (.int .i64 d)], .row 29 4 0 es 0] 29 2 4 0 L') (id := 2) (n := q.length) (by simp [rowH]; exact ⟨rfl, rfl, rfl, rfl, rfl⟩) (by omega)
    rw [h3] at lf
    refine ⟨.slc 4 false false q, ⟨q, .slc _ _ _, hfr, by omega⟩, callW_pure (c := c16) rfl rfl 0 ?_⟩
    have app : ([.box 23 [c], .box 3 [.v (.int .i64 d)]] : List AO) ++ [.row 29 4 0 es 0] = [.box 23 [c], .box 3 [.v (.int .i64 d)], .row 29 4 0 es 0] := rfl
    rw [app] at hcl
    simp only [List.length_cons, List.length_nil, Nat.reduceAdd] at hcl
    simp only [c16, start, List.replicate, c16_0, c16_1, cc, e_callh, hcl, Q121, e_mkfn, List.map_cons, List.map_nil, h1, lf, Q0, Q1, Q2, Q3, Q4, Q5, Q6, Q7, Q8, Q9, Q10, Q11, Q12, Q13, Q14, Q15, Q16, Q17, Q18, Q19, Q20, Q21, Q22, Q23, Q24, Q25, Q26, Q27, Q28, Q29, Q30, Q31, Q32, Q33, Q35, Q36, Q37, Q38, Q39, Q40, Q41, Q42, Q43, Q44, Q45, Q46, Q47, Q48, Q49, Q50, Q51, Q52, Q53, Q54, Q55, Q56, Q57, Q58, Q59, Q60, Q61, Q62, Q63, Q64, Q65, Q66, Q67, Q68, Q69, Q70, Q71, Q72, Q73, Q99, Q100, Q101, Q102, Q103, Q74, Q75, Q77, Q78, Q79, Q80, Q81, Q82, Q83, Q84, clr, List.length_nil, List.length_cons, List.getElem?_cons_zero, List.getElem?_cons_succ, Nat.reduceAdd, Nat.zero_add, Nat.add_zero, Nat.reduceLeDiff, Nat.reduceSub, ↓reduceIte, List.drop_succ_cons, List.drop_zero, List.take_succ_cons, List.take_zero, Bool.false_eq_true, List.nil_append, List.cons_append, Bool.not_true, Bool.not_false, cond_true, cond_false, bne, Q85, Q86, Q87, Q88, Q89, Q90, Q91, Q92, Q93, Q94, Q95, Q96, Q97, Q98, Q110, Q111, Q116, Q117, Q118, Q119, Q120, Q121, Q122, Q123, Option.map_some, Option.map_none, Q34]
end Go.AE.Ytkdjdhfoodlnfaa
end

/-! Put, big: walked. -/
section
set_option linter.unusedVariables false
set_option linter.unusedSimpArgs false
namespace Go.AE.Ytkdjdhfoodlnfaa
open Go Go.AE Go.Proofs.Ytkdjdhfoodlnfaa

theorem AllR.ins {α : Type} {R : AV → α → Prop} {a : AV} {x : α} (h : R a x) : ∀ {es : List AV} {l : List α}, AllR R es l → ∀ (r : Nat), AllR R (insAt es r a) (l.take r ++ x :: l.drop r)
  | _, _, .nil, r => by simp [insAt]; exact .cons _ _ _ _ h .nil
  | _, _, .cons b y es l hb hs, 0 => by simp [insAt]; exact .cons _ _ _ _ h (.cons _ _ _ _ hb hs)
  | _, _, .cons b y es l hb hs, r + 1 => by
    have := AllR.ins h hs r
    simp only [insAt, List.take_succ_cons, List.drop_succ_cons, List.cons_append] at this ⊢
    exact .cons _ _ _ _ hb this
theorem lvf_own2 {rt : TypeId} {h : List AO} {sz id ver n k : Nat} {l : List AV} {x : Value} (hr : h[id]? = some (.row rt sz ver l k)) (hn : n ≤ l.length) : lvf h (.tup [.own sz id ver 0 n, .v x]) = some (.tup [.slc sz false false (l.take n), .v x], []) := by
  simp [lvf, AV.frz2, AV.frz1, AV.frz0, row_at hr hn]
theorem put_ok {s a : AV} {l : List En} {x : En} (hs : Lg s l) (hl : l.length ≤ 900000) (ho : ordL l = true) (ha : IsEn a x) :
    (putL l x = none ∧ callW F 11 [s, a] [] = some (.tup [.v (.slice none 0 0), .v (.int .i64 1)], [])) ∨ (∃ m r, putL l x = some m ∧ Lg r m ∧ callW F 11 [s, a] [] = some (.tup [r, .v (.int .i64 0)], [])) := by
  have cl := ha.cl
  have hel := ha.elm
  have q1 := fun H => hs.len H
  have hs' := hs
  obtain ⟨es, hsl, hae, hm⟩ := hs
  have hen : es.length = l.length := hae.length
  cases ha with
  | mk c1 lab hc k dd ts hd e =>
  simp only [AV.cells] at cl
  have hsc := hsl.cl
  have hbs : ∀ n, AO.below n (.box 22 [s]) = true := fun n => by cases hsl <;> rfl
  have hbe : ∀ n, AO.below n (.box 29 [c1, .v (.int .i64 k), dd, .v (.int .i64 e)]) = true := fun n => below_mono (Nat.zero_le n) _ hel.bel
  let H0 : List AO := [.box 22 [s], .box 29 [c1, .v (.int .i64 k), dd, .v (.int .i64 e)]]
  have hb : H0.all (AO.below H0.length) = true := by simp only [H0, List.all_cons, List.all_nil, hbs, hbe, Bool.and_true]
  let p : Nat → Bool := fun j => if h : j < l.length then decide (cmpL l[j].lab lab ≥ 0) else true
  have pe : ∀ j (h : j < l.length), p j = decide (cmpL l[j].lab lab ≥ 0) := fun j h => by simp only [p]; rw [dif_pos h]
  obtain ⟨r, h23, hr, r1, r2⟩ := search_ok (g := 24) (first := []) (cap := [.ptr 0 0, .ptr 1 0]) (H := H0) (n := l.length) (p := p) hb (by omega) (by
    intro j hj
    rw [pe j hj]
    exact find_ok hs' hc rfl rfl hb hj) (by
    intro i j hij hj h
    rw [pe i (by omega), decide_eq_true_eq] at h
    rw [pe j hj, decide_eq_true_eq]
    rcases Nat.lt_or_eq_of_le hij with h1 | rfl
    · have := ord_at ho h1 hj
      have h2 := cmp_le_lt (x := lab) (y := l[i].lab) (z := l[j].lab) (by rw [cmp_anti]; omega) this
      rw [cmp_anti]; omega
    · exact h)
  have hput := put_at l ⟨lab, k, ts, e⟩ r hr (by
    intro j hj hjr
    have := r1 j hjr
    rw [pe j hj, decide_eq_false_iff_not] at this
    simp only; omega) (by
    intro h
    have := r2 h
    rw [pe r h, decide_eq_true_eq] at this
    exact this)
  simp only [H0, List.nil_append] at h23
  have l0 : ∀ G, Q76 (.box 22 [s] :: G) false 1 (.ptr 0 0) = some s := fun _ => rfl
  have l1 : ∀ x G, Q76 (x :: .box 29 [c1, .v (.int .i64 k), dd, .v (.int .i64 e)] :: G) false 1 (.ptr 1 0) = some c1 := fun _ _ => rfl
  have l4 : ∀ x G, Q76 (x :: .box 29 [c1, .v (.int .i64 k), dd, .v (.int .i64 e)] :: G) true 4 (.ptr 1 0) = some (.agg [c1, .v (.int .i64 k), dd, .v (.int .i64 e)]) := fun _ _ => rfl
  have s2 := fun H => hc.sn H
  have sn := hel.snap
  have lt2 : ∀ h, lvf h (.tup [.v (.slice none 0 0), .v (.int .i64 1)]) = some (.tup [.v (.slice none 0 0), .v (.int .i64 1)], []) := fun _ => rfl
  have lt1 : ∀ h (l : List AV), lvf h (.tup [.slc 4 false false l, .v (.int .i64 0)]) = some (.tup [.slc 4 false false l, .v (.int .i64 0)], []) := fun _ _ => rfl
  have hbx : bx [] 22 (some [s]) = some (.ptr 0 0, [.box 22 [s]]) := rfl
  -- the last step
  have ins : (∀ (x : Bool), r < l.length → True) → ∀ (w : Prop), ∃ res, Lg res (l.take r ++ (⟨lab, k, ts, e⟩ : En) :: l.drop r) ∧ (∀ h, (∃ y, lvf h y = some (res, [])) → True) ∧
      ∀ (v : List AV), lv c11.res (exec (callW F) 0 (.seq (.region [] [] c11_4) .ret) [s, .agg [c1, .v (.int .i64 k), dd, .v (.int .i64 e)], .ptr 0 0, .ptr 1 0, .v (.slice none 0 0), .v (.int .i64 0), .v (.int .i64 r), .v (.bool false)] [.box 22 [s], .box 29 [c1, .v (.int .i64 k), dd, .v (.int .i64 e)]]) = some (.tup [res, .v (.int .i64 0)], []) := by
    intro _ w
    have hcl := clone_call (F' := F) (f := 27) (rt := 29) (sz := 4) (bytes := 64) rfl (hsl.elems [.box 22 [s], .box 29 [c1, .v (.int .i64 k), dd, .v (.int .i64 e)]]) (fits_small (by omega) (by omega))
    have hins := AllR.ins (R := IsEn) (.mk c1 lab hc k dd ts hd e) hae r
    have hil : (insAt es r (.agg [c1, .v (.int .i64 k), dd, .v (.int .i64 e)])).length = l.length + 1 := by rw [insAt_len (by omega), hen]
    cases es with
    | nil =>
      have hl0 : l.length = 0 := by rw [← hen]; rfl
      have hr0 : r = 0 := by omega
      subst hr0
      simp only [cloneR] at hcl
      have h26 : ∀ ex nn, callW F 26 [.slc 4 true false [], .v (.int .i64 0), .slc 4 ex nn [.agg [c1, .v (.int .i64 k), dd, .v (.int .i64 e)]]] [.box 22 [s], .box 29 [c1, .v (.int .i64 k), dd, .v (.int .i64 e)]] = some (.own 4 2 0 0 1, [.box 22 [s], .box 29 [c1, .v (.int .i64 k), dd, .v (.int .i64 e)], .row 29 4 0 [.agg [c1, .v (.int .i64 k), dd, .v (.int .i64 e)]] 0]) := by
        intro ex nn
        refine callW_oracle (g := insG 29 4 64) rfl ?_
        have : fits 1 64 = true := fits_small (by omega) (by omega)
        simp [insG, this]
      have lf := lvf_own2 (x := .int .i64 0) (h := [.box 22 [s], .box 29 [c1, .v (.int .i64 k), dd, .v (.int .i64 e)], .row 29 4 0 [.agg [c1, .v (.int .i64 k), dd, .v (.int .i64 e)]] 0]) (rt := 29) (sz := 4) (ver := 0) (k := 0) (id := 2) (n := 1) (l := [.agg [c1, .v (.int .i64 k), dd, .v (.int .i64 e)]]) rfl (by simp)
      simp only [List.take_succ_cons, List.take_zero] at lf
      refine ⟨.slc 4 false false [.agg [c1, .v (.int .i64 k), dd, .v (.int .i64 e)]], ⟨_, .slc _ _ _, hins, by simp; decide⟩, fun _ _ => trivial, fun v => ?_⟩
      have z0 : ((0 : Nat) : Int) = 0 := rfl
      have hres : c11.res = [.var 4, .var 5] := rfl
      rw [hres, z0]
      simp only [c11_4, l0, l4, e_callh, List.map_cons, List.map_nil, hcl, sn, cl, if_true, h26, lf, lt1, Q104, Q105, bs1, bs2, Q106, Q107, Q108, Q109, bd1, Q110, Q111, toL, List.map_cons, List.map_nil, Q112, List.set_cons_zero, List.set_cons_succ, and_self, Nat.le_refl, Q114, Q115, Q116, Q0, Q1, Q2, Q3, Q4, Q5, Q6, Q7, Q8, Q9, Q10, Q11, Q12, Q13, Q14, Q15, Q16, Q17, Q18, Q19, Q20, Q21, Q22, Q23, Q24, Q25, Q26, Q27, Q28, Q29, Q30, Q31, Q32, Q33, Q35, Q36, Q37, Q38, Q39, Q40, Q41, Q42, Q43, Q44, Q45, Q46, Q47, Q48, Q49, Q50, Q51, Q52, Q53, Q54, Q55, Q56, Q57, Q58, Q59, Q60, Q61, Q62, Q63, Q64, Q65, Q66, Q67, Q68, Q69, Q70, Q71, Q72, Q73, Q99, Q100, Q101, Q102, Q103, Q74, Q75, Q77, Q78, Q79, Q80, Q81, Q82, Q83, Q84, clr, List.length_nil, List.length_cons, List.getElem?_cons_zero, List.getElem?_cons_succ, Nat.reduceAdd, Nat.zero_add, Nat.add_zero, Nat.reduceLeDiff, Nat.reduceSub, ↓reduceIte, List.drop_succ_cons, List.drop_zero, List.take_succ_cons, List.take_zero, Bool.false_eq_true, List.nil_append, List.cons_append, Bool.not_true, Bool.not_false, cond_true, cond_false, bne, Q85, Q86, Q87, Q88, Q89, Q90, Q91, Q92, Q93, Q94, Q95, Q96, Q97, Q98, Q110, Q111, Q116, Q117, Q118, Q119, Q120, Q121, Q122, Q123, Option.map_some, Option.map_none, Q34]
    | cons e0 es0 =>
      simp only [cloneR] at hcl
      generalize hE : e0 :: es0 = es at *
      have hne : (es0.length + 1) = l.length := by rw [← hen, ← hE]; rfl
      rw [hne] at hcl
      have h26 : ∀ ex nn, callW F 26 [.own 4 2 0 0 l.length, .v (.int .i64 r), .slc 4 ex nn [.agg [c1, .v (.int .i64 k), dd, .v (.int .i64 e)]]] [.box 22 [s], .box 29 [c1, .v (.int .i64 k), dd, .v (.int .i64 e)], .row 29 4 0 es 0] = some (.own 4 2 1 0 (l.length + 1), [.box 22 [s], .box 29 [c1, .v (.int .i64 k), dd, .v (.int .i64 e)], .row 29 4 1 (insAt es r (.agg [c1, .v (.int .i64 k), dd, .v (.int .i64 e)])) 0]) := by
        intro ex nn
        refine callW_oracle (g := insG 29 4 64) rfl ?_
        have hf : fits (l.length + 1) 64 = true := fits_small (by omega) (by omega)
        have a1 : (r : Int) ≤ (l.length : Int) := by omega
        have a2 : 0 < l.length := by omega
        simp [insG, hf, a1, a2, hen]
      have lf := lvf_own2 (x := .int .i64 0) (h := [.box 22 [s], .box 29 [c1, .v (.int .i64 k), dd, .v (.int .i64 e)], .row 29 4 1 (insAt es r (.agg [c1, .v (.int .i64 k), dd, .v (.int .i64 e)])) 0]) (rt := 29) (sz := 4) (ver := 1) (k := 0) (id := 2) (n := l.length + 1) rfl (by omega)
      rw [List.take_of_length_le (by omega)] at lf
      have app : ([.box 22 [s], .box 29 [c1, .v (.int .i64 k), dd, .v (.int .i64 e)]] : List AO) ++ [.row 29 4 0 es 0] = [.box 22 [s], .box 29 [c1, .v (.int .i64 k), dd, .v (.int .i64 e)], .row 29 4 0 es 0] := rfl
      rw [app] at hcl
      simp only [List.length_cons, List.length_nil, Nat.reduceAdd] at hcl
      have hmx : maxLen = 9223372036854775807 := rfl
      refine ⟨.slc 4 false false (insAt es r (.agg [c1, .v (.int .i64 k), dd, .v (.int .i64 e)])), ⟨_, .slc _ _ _, hins, by omega⟩, fun _ _ => trivial, fun v => ?_⟩
      have hres : c11.res = [.var 4, .var 5] := rfl
      rw [hres]
      simp only [c11_4, l0, l4, e_callh, List.map_cons, List.map_nil, hcl, sn, cl, if_true, h26, lf, lt1, Q104, Q105, bs1, bs2, Q106, Q107, Q108, Q109, bd1, Q110, Q111, toL, List.map_cons, List.map_nil, Q112, List.set_cons_zero, List.set_cons_succ, and_self, Nat.le_refl, Q114, Q115, Q116, Q0, Q1, Q2, Q3, Q4, Q5, Q6, Q7, Q8, Q9, Q10, Q11, Q12, Q13, Q14, Q15, Q16, Q17, Q18, Q19, Q20, Q21, Q22, Q23, Q24, Q25, Q26, Q27, Q28, Q29, Q30, Q31, Q32, Q33, Q35, Q36, Q37, Q38, Q39, Q40, Q41, Q42, Q43, Q44, Q45, Q46, Q47, Q48, Q49, Q50, Q51, Q52, Q53, Q54, Q55, Q56, Q57, Q58, Q59, Q60, Q61, Q62, Q63, Q64, Q65, Q66, Q67, Q68, Q69, Q70, Q71, Q72, Q73, Q99, Q100, Q101, Q102, Q103, Q74, Q75, Q77, Q78, Q79, Q80, Q81, Q82, Q83, Q84, clr, List.length_nil, List.length_cons, List.getElem?_cons_zero, List.getElem?_cons_succ, Nat.reduceAdd, Nat.zero_add, Nat.add_zero, Nat.reduceLeDiff, Nat.reduceSub, ↓reduceIte, List.drop_succ_cons, List.drop_zero, List.take_succ_cons, List.take_zero, Bool.false_eq_true, List.nil_append, List.cons_append, Bool.not_true, Bool.not_false, cond_true, cond_false, bne, Q85, Q86, Q87, Q88, Q89, Q90, Q91, Q92, Q93, Q94, Q95, Q96, Q97, Q98, Q110, Q111, Q116, Q117, Q118, Q119, Q120, Q121, Q122, Q123, Option.map_some, Option.map_none, Q34]
  have body : c11.body = (.seq (.region [] [] c11_0) (.seq (.region [] [] c11_1) (.seq (.seq (.region [] [] c11_2) (.cond (.var 7) (.seq (.region [] [] c11_3) .ret) .skip)) (.seq (.region [] [] c11_4) .ret)))) := rfl
  have st : start c11 [s, .agg [c1, .v (.int .i64 k), dd, .v (.int .i64 e)]] = [s, .agg [c1, .v (.int .i64 k), dd, .v (.int .i64 e)], .v undef, .v undef, .v undef, .v undef, .v undef, .v undef] := rfl
  have hres : c11.res = [.var 4, .var 5] := rfl
  by_cases hlt : r < l.length
  · have z1 := lt_t hlt
    rw [dif_pos hlt] at hput
    obtain ⟨c2, k2, d2, e2, i1, n1, _⟩ := hs'.at hlt
    have p25 := compare_ok n1 hc
    have s1 := fun H => n1.sn H
    by_cases h0 : cmpL l[r].lab lab = 0
    · rw [if_pos h0] at hput
      have z2 : (cmpL l[r].lab lab == 0) = true := by simpa using h0
      refine .inl ⟨hput, callW_pure (c := c11) rfl rfl 0 ?_⟩
      rw [body, st, hres]
      generalize (CC.seq (.region [] [] c11_4) .ret) = rest
      simp only [c11_0, c11_1, c11_2, c11_3, hsc, cl, l0, l1, q1, e_mkfn, List.map_cons, List.map_nil, Q121, h23, z1, i1, ip_ld, s1, s2, p25, z2, lt2, Q122, Q0, Q1, Q2, Q3, Q4, Q5, Q6, Q7, Q8, Q9, Q10, Q11, Q12, Q13, Q14, Q15, Q16, Q17, Q18, Q19, Q20, Q21, Q22, Q23, Q24, Q25, Q26, Q27, Q28, Q29, Q30, Q31, Q32, Q33, Q35, Q36, Q37, Q38, Q39, Q40, Q41, Q42, Q43, Q44, Q45, Q46, Q47, Q48, Q49, Q50, Q51, Q52, Q53, Q54, Q55, Q56, Q57, Q58, Q59, Q60, Q61, Q62, Q63, Q64, Q65, Q66, Q67, Q68, Q69, Q70, Q71, Q72, Q73, Q99, Q100, Q101, Q102, Q103, Q74, Q75, Q77, Q78, Q79, Q80, Q81, Q82, Q83, Q84, clr, List.length_nil, List.length_cons, List.getElem?_cons_zero, List.getElem?_cons_succ, Nat.reduceAdd, Nat.zero_add, Nat.add_zero, Nat.reduceLeDiff, Nat.reduceSub, ↓reduceIte, List.drop_succ_cons, List.drop_zero, List.take_succ_cons, List.take_zero, Bool.false_eq_true, List.nil_append, List.cons_append, Bool.not_true, Bool.not_false, cond_true, cond_false, bne, Q85, Q86, Q87, Q88, Q89, Q90, Q91, Q92, Q93, Q94, Q95, Q96, Q97, Q98, Q110, Q111, Q116, Q117, Q118, Q119, Q120, Q121, Q122, Q123, Option.map_some, Option.map_none, Q34]
    · rw [if_neg h0] at hput
      have z2 : (cmpL l[r].lab lab == 0) = false := by simpa using h0
      obtain ⟨res, g1, _, g2⟩ := ins (fun _ _ => trivial) True
      refine .inr ⟨_, res, hput, g1, callW_pure (c := c11) rfl rfl 0 ?_⟩
      rw [← g2 []]
      rw [body, st]
      generalize (CC.seq (.region [] [] c11_4) .ret) = rest
      simp only [c11_0, c11_1, c11_2, hsc, cl, l0, l1, q1, e_mkfn, List.map_cons, List.map_nil, Q121, h23, z1, i1, ip_ld, s1, s2, p25, z2, lt2, Q122, Q0, Q1, Q2, Q3, Q4, Q5, Q6, Q7, Q8, Q9, Q10, Q11, Q12, Q13, Q14, Q15, Q16, Q17, Q18, Q19, Q20, Q21, Q22, Q23, Q24, Q25, Q26, Q27, Q28, Q29, Q30, Q31, Q32, Q33, Q35, Q36, Q37, Q38, Q39, Q40, Q41, Q42, Q43, Q44, Q45, Q46, Q47, Q48, Q49, Q50, Q51, Q52, Q53, Q54, Q55, Q56, Q57, Q58, Q59, Q60, Q61, Q62, Q63, Q64, Q65, Q66, Q67, Q68, Q69, Q70, Q71, Q72, Q73, Q99, Q100, Q101, Q102, Q103, Q74, Q75, Q77, Q78, Q79, Q80, Q81, Q82, Q83, Q84, clr, List.length_nil, List.length_cons, List.getElem?_cons_zero, List.getElem?_cons_succ, Nat.reduceAdd, Nat.zero_add, Nat.add_zero, Nat.reduceLeDiff, Nat.reduceSub, ↓reduceIte, List.drop_succ_cons, List.drop_zero, List.take_succ_cons, List.take_zero, Bool.false_eq_true, List.nil_append, List.cons_append, Bool.not_true, Bool.not_false, cond_true, cond_false, bne, Q85, Q86, Q87, Q88, Q89, Q90, Q91, Q92, Q93, Q94, Q95, Q96, Q97, Q98, Q110, Q111, Q116, Q117, Q118, Q119, Q120, Q121, Q122, Q123, Option.map_some, Option.map_none, Q34]
  · have hrl : r = l.length := by omega
    rw [dif_neg hlt] at hput
    obtain ⟨res, g1, _, g2⟩ := ins (fun _ _ => trivial) True
    refine .inr ⟨_, res, hput, g1, callW_pure (c := c11) rfl rfl 0 ?_⟩
    have z1 : decide ((r : Int) < (l.length : Int)) = false := decide_eq_false (by omega)
    rw [← g2 []]
    rw [body, st]
    generalize (CC.seq (.region [] [] c11_4) .ret) = rest
    simp only [c11_0, c11_1, c11_2, hsc, cl, l0, l1, q1, e_mkfn, List.map_cons, List.map_nil, Q121, h23, z1, Q122, Q0, Q1, Q2, Q3, Q4, Q5, Q6, Q7, Q8, Q9, Q10, Q11, Q12, Q13, Q14, Q15, Q16, Q17, Q18, Q19, Q20, Q21, Q22, Q23, Q24, Q25, Q26, Q27, Q28, Q29, Q30, Q31, Q32, Q33, Q35, Q36, Q37, Q38, Q39, Q40, Q41, Q42, Q43, Q44, Q45, Q46, Q47, Q48, Q49, Q50, Q51, Q52, Q53, Q54, Q55, Q56, Q57, Q58, Q59, Q60, Q61, Q62, Q63, Q64, Q65, Q66, Q67, Q68, Q69, Q70, Q71, Q72, Q73, Q99, Q100, Q101, Q102, Q103, Q74, Q75, Q77, Q78, Q79, Q80, Q81, Q82, Q83, Q84, clr, List.length_nil, List.length_cons, List.getElem?_cons_zero, List.getElem?_cons_succ, Nat.reduceAdd, Nat.zero_add, Nat.add_zero, Nat.reduceLeDiff, Nat.reduceSub, ↓reduceIte, List.drop_succ_cons, List.drop_zero, List.take_succ_cons, List.take_zero, Bool.false_eq_true, List.nil_append, List.cons_append, Bool.not_true, Bool.not_false, cond_true, cond_false, bne, Q85, Q86, Q87, Q88, Q89, Q90, Q91, Q92, Q93, Q94, Q95, Q96, Q97, Q98, Q110, Q111, Q116, Q117, Q118, Q119, Q120, Q121, Q122, Q123, Option.map_some, Option.map_none, Q34]
end Go.AE.Ytkdjdhfoodlnfaa
end

/-! The examples. -/
section
set_option linter.unusedVariables false
namespace Go.AE.Ytkdjdhfoodlnfaa
open Go Go.AE Go.Proofs.Ytkdjdhfoodlnfaa
set_option maxRecDepth 1000000 in
theorem live_n : callN F 40 8 [] [] = some (.v (.bool true), []) := by kernel_rfl
theorem live_ok : callW F 8 [] [] = some (.v (.bool true), []) := callW_iff.2 ⟨_, live_n⟩
end Go.AE.Ytkdjdhfoodlnfaa
end

/-! Whether a log is too great: walked. -/
section
set_option linter.unusedVariables false
set_option linter.unusedSimpArgs false
namespace Go.AE.Ytkdjdhfoodlnfaa
open Go Go.AE Go.Proofs.Ytkdjdhfoodlnfaa

def K9 : List Bool := [false, true, false, false, false, false, true, true, true, false, false, false, false, false, false, false]
def V9 (c d : AV) (len i : Int) (x9 : AV) : List AV := [.junk, d, .junk, .junk, .junk, .junk, c, .v (.int .i64 len), .v (.int .i64 i), x9, .junk, .junk, .junk, .junk, .junk, .junk]
theorem ip_ld4 {a b c d : AV} (H : List AO) : Q76 H true 4 (.ip [a, b, c, d]) = some (.agg [a, b, c, d]) := rfl
theorem lv1_one {h : List AO} {vars : List AV} {i : Nat} {x : Value} (hx : getO vars [] (.var i) = .v x) : lv [.var i] (some (.ret, vars, h)) = some (.v x, []) := by
  simp only [Q85]
  have h1 : resOf vars h (.var i) = some (.v x) := by rw [← hx]; rfl
  simp only [List.mapM_cons, List.mapM_nil, h1]
  rfl
theorem big_loop {K : Nat} {c d : AV} {l : List En} (hc : Lg c l) (hK : l.length < K) (h : List AO) (v : List AV) (hv : clr K9 v = V9 c d l.length 0 .junk) :
    ∃ e v' h', loopN (exec (callW F) K c9_9) K9 K v h = some (e, v', h') ∧ ((e = .ret ∧ getO v' [] (.var 2) = .v (.bool true)) ∨ (e = .exit 0 ∧ v' = V9 c d l.length l.length (.v (.bool false)))) := by
  obtain ⟨e, v', h', g1, g2, g3⟩ := loop_rule0 (call := callW F) (K := K) (b := c9_9) (keep := K9) (fun i v h' => v = V9 c d l.length i .junk)
    (fun e v h' => ((e = .ret ∧ getO v [] (.var 2) = .v (.bool true)) ∨ (e = .exit 0 ∧ v = V9 c d l.length l.length (.v (.bool false))))) l.length (m := K) (v := v) (h := h) hK hv (by
      rintro i v h' hi rfl
      by_cases hil : i < l.length
      · have hlt := lt_t hil
        have hw := wrap_succ hil hc.max
        obtain ⟨c1, k, dd, e, e1, n1, _, t1, _⟩ := hc.at hil
        have z : (ofVal (.agg #[.slice none 0 0, .int .i64 0, .slice none 0 0, .int .i64 0])).cl = some [.v (.slice none 0 0), .v (.int .i64 0), .v (.slice none 0 0), .v (.int .i64 0)] := by kernel_rfl
        have cl := (IsEn.mk c1 l[i].lab n1 k dd l[i].terms t1 e).cl
        simp only [AV.cells] at cl
        have st : Q113 (h' ++ [.box 29 [.v (.slice none 0 0), .v (.int .i64 0), .v (.slice none 0 0), .v (.int .i64 0)]]) 4 (.ptr h'.length 0) (.agg [c1, .v (.int .i64 k), dd, .v (.int .i64 e)]) = some (h' ++ [.box 29 [c1, .v (.int .i64 k), dd, .v (.int .i64 e)]]) := st_new cl rfl rfl
        have ld0 : Q76 (h' ++ [.box 29 [c1, .v (.int .i64 k), dd, .v (.int .i64 e)]]) false 1 (.ptr h'.length 0) = some c1 := by rw [ld_new]; rfl
        have ld2 : Q76 (h' ++ [.box 29 [c1, .v (.int .i64 k), dd, .v (.int .i64 e)]]) false 1 (.ptr h'.length 2) = some dd := by rw [ld_new]; rfl
        have ln1 := fun H => n1.len H
        have ln2 := fun H => IsL.ln t1 H
        cases hb : decide ((l[i].lab.length : Int) > 100) with
        | true =>
          refine ⟨.ret, [.junk, d, .v (.bool true), .ptr h'.length 0, .junk, .junk, c, .v (.int .i64 l.length), .v (.int .i64 i), .v (.bool true), .v (.bool true), .junk, .junk, .junk, .junk, .junk], h' ++ [.box 29 [c1, .v (.int .i64 k), dd, .v (.int .i64 e)]], ?_, .inl ⟨rfl, rfl⟩⟩
          simp only [V9, c9_9, c9_4, c9_5, c9_6, c9_7, hlt, hw, e1, ip_ld4, z, st, ld0, ld2, ln1, ln2, hb, Q122, Q0, Q1, Q2, Q3, Q4, Q5, Q6, Q7, Q8, Q9, Q10, Q11, Q12, Q13, Q14, Q15, Q16, Q17, Q18, Q19, Q20, Q21, Q22, Q23, Q24, Q25, Q26, Q27, Q28, Q29, Q30, Q31, Q32, Q33, Q35, Q36, Q37, Q38, Q39, Q40, Q41, Q42, Q43, Q44, Q45, Q46, Q47, Q48, Q49, Q50, Q51, Q52, Q53, Q54, Q55, Q56, Q57, Q58, Q59, Q60, Q61, Q62, Q63, Q64, Q65, Q66, Q67, Q68, Q69, Q70, Q71, Q72, Q73, Q99, Q100, Q101, Q102, Q103, Q74, Q75, Q77, Q78, Q79, Q80, Q81, Q82, Q83, Q84, clr, List.length_nil, List.length_cons, List.getElem?_cons_zero, List.getElem?_cons_succ, Nat.reduceAdd, Nat.zero_add, Nat.add_zero, Nat.reduceLeDiff, Nat.reduceSub, ↓reduceIte, List.drop_succ_cons, List.drop_zero, List.take_succ_cons, List.take_zero, Bool.false_eq_true, List.nil_append, List.cons_append, Bool.not_true, Bool.not_false, cond_true, cond_false, bne, Q85, Q86, Q87, Q88, Q89, Q90, Q91, Q92, Q93, Q94, Q95, Q96, Q97, Q98, Q110, Q111, Q116, Q117, Q118, Q119, Q120, Q121, Q122, Q123, Option.map_some, Option.map_none, Q34]
        | false =>
        cases hb2 : decide ((l[i].terms.length : Int) > 0) with
        | false =>
          refine ⟨.normal, [.junk, d, .junk, .ptr h'.length 0, .junk, .junk, c, .v (.int .i64 l.length), .v (.int .i64 ((i + 1 : Nat) : Int)), .v (.bool true), .v (.bool false), .junk, .junk, .junk, .junk, .junk], h' ++ [.box 29 [c1, .v (.int .i64 k), dd, .v (.int .i64 e)]], ?_, hil, rfl⟩
          simp only [V9, c9_9, c9_4, c9_5, c9_6, c9_8, hlt, hw, e1, ip_ld4, z, st, ld0, ld2, ln1, ln2, hb, hb2, Q122, Q0, Q1, Q2, Q3, Q4, Q5, Q6, Q7, Q8, Q9, Q10, Q11, Q12, Q13, Q14, Q15, Q16, Q17, Q18, Q19, Q20, Q21, Q22, Q23, Q24, Q25, Q26, Q27, Q28, Q29, Q30, Q31, Q32, Q33, Q35, Q36, Q37, Q38, Q39, Q40, Q41, Q42, Q43, Q44, Q45, Q46, Q47, Q48, Q49, Q50, Q51, Q52, Q53, Q54, Q55, Q56, Q57, Q58, Q59, Q60, Q61, Q62, Q63, Q64, Q65, Q66, Q67, Q68, Q69, Q70, Q71, Q72, Q73, Q99, Q100, Q101, Q102, Q103, Q74, Q75, Q77, Q78, Q79, Q80, Q81, Q82, Q83, Q84, clr, List.length_nil, List.length_cons, List.getElem?_cons_zero, List.getElem?_cons_succ, Nat.reduceAdd, Nat.zero_add, Nat.add_zero, Nat.reduceLeDiff, Nat.reduceSub, ↓reduceIte, List.drop_succ_cons, List.drop_zero, List.take_succ_cons, List.take_zero, Bool.false_eq_true, List.nil_append, List.cons_append, Bool.not_true, Bool.not_false, cond_true, cond_false, bne, Q85, Q86, Q87, Q88, Q89, Q90, Q91, Q92, Q93, Q94, Q95, Q96, Q97, Q98, Q110, Q111, Q116, Q117, Q118, Q119, Q120, Q121, Q122, Q123, Option.map_some, Option.map_none, Q34]
        | true =>
          refine ⟨.ret, [.junk, d, .v (.bool true), .ptr h'.length 0, .junk, .junk, c, .v (.int .i64 l.length), .v (.int .i64 i), .v (.bool true), .v (.bool true), .junk, .junk, .junk, .junk, .junk], h' ++ [.box 29 [c1, .v (.int .i64 k), dd, .v (.int .i64 e)]], ?_, .inl ⟨rfl, rfl⟩⟩
          simp only [V9, c9_9, c9_4, c9_5, c9_6, c9_7, hlt, hw, e1, ip_ld4, z, st, ld0, ld2, ln1, ln2, hb, hb2, Q122, Q0, Q1, Q2, Q3, Q4, Q5, Q6, Q7, Q8, Q9, Q10, Q11, Q12, Q13, Q14, Q15, Q16, Q17, Q18, Q19, Q20, Q21, Q22, Q23, Q24, Q25, Q26, Q27, Q28, Q29, Q30, Q31, Q32, Q33, Q35, Q36, Q37, Q38, Q39, Q40, Q41, Q42, Q43, Q44, Q45, Q46, Q47, Q48, Q49, Q50, Q51, Q52, Q53, Q54, Q55, Q56, Q57, Q58, Q59, Q60, Q61, Q62, Q63, Q64, Q65, Q66, Q67, Q68, Q69, Q70, Q71, Q72, Q73, Q99, Q100, Q101, Q102, Q103, Q74, Q75, Q77, Q78, Q79, Q80, Q81, Q82, Q83, Q84, clr, List.length_nil, List.length_cons, List.getElem?_cons_zero, List.getElem?_cons_succ, Nat.reduceAdd, Nat.zero_add, Nat.add_zero, Nat.reduceLeDiff, Nat.reduceSub, ↓reduceIte, List.drop_succ_cons, List.drop_zero, List.take_succ_cons, List.take_zero, Bool.false_eq_true, List.nil_append, List.cons_append, Bool.not_true, Bool.not_false, cond_true, cond_false, bne, Q85, Q86, Q87, Q88, Q89, Q90, Q91, Q92, Q93, Q94, Q95, Q96, Q97, Q98, Q110, Q111, Q116, Q117, Q118, Q119, Q120, Q121, Q122, Q123, Option.map_some, Option.map_none, Q34]
      · have hie : i = l.length := by omega
        subst hie
        have hlt := lt_f (n := l.length)
        refine ⟨.exit 0, V9 c d l.length l.length (.v (.bool false)), h', ?_, .inr ⟨rfl, rfl⟩⟩
        simp only [V9, c9_9, c9_4, hlt, Q0, Q1, Q2, Q3, Q4, Q5, Q6, Q7, Q8, Q9, Q10, Q11, Q12, Q13, Q14, Q15, Q16, Q17, Q18, Q19, Q20, Q21, Q22, Q23, Q24, Q25, Q26, Q27, Q28, Q29, Q30, Q31, Q32, Q33, Q35, Q36, Q37, Q38, Q39, Q40, Q41, Q42, Q43, Q44, Q45, Q46, Q47, Q48, Q49, Q50, Q51, Q52, Q53, Q54, Q55, Q56, Q57, Q58, Q59, Q60, Q61, Q62, Q63, Q64, Q65, Q66, Q67, Q68, Q69, Q70, Q71, Q72, Q73, Q99, Q100, Q101, Q102, Q103, Q74, Q75, Q77, Q78, Q79, Q80, Q81, Q82, Q83, Q84, clr, List.length_nil, List.length_cons, List.getElem?_cons_zero, List.getElem?_cons_succ, Nat.reduceAdd, Nat.zero_add, Nat.add_zero, Nat.reduceLeDiff, Nat.reduceSub, ↓reduceIte, List.drop_succ_cons, List.drop_zero, List.take_succ_cons, List.take_zero, Bool.false_eq_true, List.nil_append, List.cons_append, Bool.not_true, Bool.not_false, cond_true, cond_false, bne, Q85, Q86, Q87, Q88, Q89, Q90, Q91, Q92, Q93, Q94, Q95, Q96, Q97, Q98, Q110, Q111, Q116, Q117, Q118, Q119, Q120, Q121, Q122, Q123, Option.map_some, Option.map_none, Q34])
  exact ⟨e, v', h', g1, g3⟩
def K9b : List Bool := [false, false, false, false, false, false, false, false, false, false, false, true, true, true, false, false]
def V9b (d : AV) (len i : Int) (x14 : AV) : List AV := [.junk, .junk, .junk, .junk, .junk, .junk, .junk, .junk, .junk, .junk, .junk, d, .v (.int .i64 len), .v (.int .i64 i), x14, .junk]
theorem big_loop2 {K : Nat} {d : AV} {l : List (List Int)} (hc : Nss d l) (hK : l.length < K) (h : List AO) (v : List AV) (hv : clr K9b v = V9b d l.length 0 .junk) :
    ∃ e v' h', loopN (exec (callW F) K c9_16) K9b K v h = some (e, v', h') ∧ ((e = .ret ∧ getO v' [] (.var 2) = .v (.bool true)) ∨ (e = .exit 2 ∧ v' = V9b d l.length l.length (.v (.bool false)))) := by
  obtain ⟨e, v', h', g1, g2, g3⟩ := loop_rule0 (call := callW F) (K := K) (b := c9_16) (keep := K9b) (fun i v h' => v = V9b d l.length i .junk)
    (fun e v h' => ((e = .ret ∧ getO v [] (.var 2) = .v (.bool true)) ∨ (e = .exit 2 ∧ v = V9b d l.length l.length (.v (.bool false))))) l.length (m := K) (v := v) (h := h) hK hv (by
      rintro i v h' hi rfl
      by_cases hil : i < l.length
      · have hlt := lt_t hil
        have hw := wrap_succ hil hc.max
        obtain ⟨c1, e1, n1⟩ := hc.at hil
        have ln1 := fun H => n1.len H
        cases hb : decide ((l[i].length : Int) > 100) with
        | true =>
          refine ⟨.ret, [.junk, .junk, .v (.bool true), .junk, c1, .junk, .junk, .junk, .junk, .junk, .junk, d, .v (.int .i64 l.length), .v (.int .i64 i), .v (.bool true), .v (.bool true)], h', ?_, .inl ⟨rfl, rfl⟩⟩
          simp only [V9b, c9_16, c9_11, c9_12, c9_13, c9_14, hlt, hw, e1, ip_ld, ln1, hb, Q122, Q0, Q1, Q2, Q3, Q4, Q5, Q6, Q7, Q8, Q9, Q10, Q11, Q12, Q13, Q14, Q15, Q16, Q17, Q18, Q19, Q20, Q21, Q22, Q23, Q24, Q25, Q26, Q27, Q28, Q29, Q30, Q31, Q32, Q33, Q35, Q36, Q37, Q38, Q39, Q40, Q41, Q42, Q43, Q44, Q45, Q46, Q47, Q48, Q49, Q50, Q51, Q52, Q53, Q54, Q55, Q56, Q57, Q58, Q59, Q60, Q61, Q62, Q63, Q64, Q65, Q66, Q67, Q68, Q69, Q70, Q71, Q72, Q73, Q99, Q100, Q101, Q102, Q103, Q74, Q75, Q77, Q78, Q79, Q80, Q81, Q82, Q83, Q84, clr, List.length_nil, List.length_cons, List.getElem?_cons_zero, List.getElem?_cons_succ, Nat.reduceAdd, Nat.zero_add, Nat.add_zero, Nat.reduceLeDiff, Nat.reduceSub, ↓reduceIte, List.drop_succ_cons, List.drop_zero, List.take_succ_cons, List.take_zero, Bool.false_eq_true, List.nil_append, List.cons_append, Bool.not_true, Bool.not_false, cond_true, cond_false, bne, Q85, Q86, Q87, Q88, Q89, Q90, Q91, Q92, Q93, Q94, Q95, Q96, Q97, Q98, Q110, Q111, Q116, Q117, Q118, Q119, Q120, Q121, Q122, Q123, Option.map_some, Option.map_none, Q34]
        | false =>
          refine ⟨.normal, [.junk, .junk, .junk, .junk, c1, .junk, .junk, .junk, .junk, .junk, .junk, d, .v (.int .i64 l.length), .v (.int .i64 ((i + 1 : Nat) : Int)), .v (.bool true), .v (.bool false)], h', ?_, hil, rfl⟩
          simp only [V9b, c9_16, c9_11, c9_12, c9_13, c9_15, hlt, hw, e1, ip_ld, ln1, hb, Q122, Q0, Q1, Q2, Q3, Q4, Q5, Q6, Q7, Q8, Q9, Q10, Q11, Q12, Q13, Q14, Q15, Q16, Q17, Q18, Q19, Q20, Q21, Q22, Q23, Q24, Q25, Q26, Q27, Q28, Q29, Q30, Q31, Q32, Q33, Q35, Q36, Q37, Q38, Q39, Q40, Q41, Q42, Q43, Q44, Q45, Q46, Q47, Q48, Q49, Q50, Q51, Q52, Q53, Q54, Q55, Q56, Q57, Q58, Q59, Q60, Q61, Q62, Q63, Q64, Q65, Q66, Q67, Q68, Q69, Q70, Q71, Q72, Q73, Q99, Q100, Q101, Q102, Q103, Q74, Q75, Q77, Q78, Q79, Q80, Q81, Q82, Q83, Q84, clr, List.length_nil, List.length_cons, List.getElem?_cons_zero, List.getElem?_cons_succ, Nat.reduceAdd, Nat.zero_add, Nat.add_zero, Nat.reduceLeDiff, Nat.reduceSub, ↓reduceIte, List.drop_succ_cons, List.drop_zero, List.take_succ_cons, List.take_zero, Bool.false_eq_true, List.nil_append, List.cons_append, Bool.not_true, Bool.not_false, cond_true, cond_false, bne, Q85, Q86, Q87, Q88, Q89, Q90, Q91, Q92, Q93, Q94, Q95, Q96, Q97, Q98, Q110, Q111, Q116, Q117, Q118, Q119, Q120, Q121, Q122, Q123, Option.map_some, Option.map_none, Q34]
      · have hie : i = l.length := by omega
        subst hie
        have hlt := lt_f (n := l.length)
        refine ⟨.exit 2, V9b d l.length l.length (.v (.bool false)), h', ?_, .inr ⟨rfl, rfl⟩⟩
        simp only [V9b, c9_16, c9_11, hlt, Q0, Q1, Q2, Q3, Q4, Q5, Q6, Q7, Q8, Q9, Q10, Q11, Q12, Q13, Q14, Q15, Q16, Q17, Q18, Q19, Q20, Q21, Q22, Q23, Q24, Q25, Q26, Q27, Q28, Q29, Q30, Q31, Q32, Q33, Q35, Q36, Q37, Q38, Q39, Q40, Q41, Q42, Q43, Q44, Q45, Q46, Q47, Q48, Q49, Q50, Q51, Q52, Q53, Q54, Q55, Q56, Q57, Q58, Q59, Q60, Q61, Q62, Q63, Q64, Q65, Q66, Q67, Q68, Q69, Q70, Q71, Q72, Q73, Q99, Q100, Q101, Q102, Q103, Q74, Q75, Q77, Q78, Q79, Q80, Q81, Q82, Q83, Q84, clr, List.length_nil, List.length_cons, List.getElem?_cons_zero, List.getElem?_cons_succ, Nat.reduceAdd, Nat.zero_add, Nat.add_zero, Nat.reduceLeDiff, Nat.reduceSub, ↓reduceIte, List.drop_succ_cons, List.drop_zero, List.take_succ_cons, List.take_zero, Bool.false_eq_true, List.nil_append, List.cons_append, Bool.not_true, Bool.not_false, cond_true, cond_false, bne, Q85, Q86, Q87, Q88, Q89, Q90, Q91, Q92, Q93, Q94, Q95, Q96, Q97, Q98, Q110, Q111, Q116, Q117, Q118, Q119, Q120, Q121, Q122, Q123, Option.map_some, Option.map_none, Q34])
  exact ⟨e, v', h', g1, g3⟩
theorem big_ok {c d : AV} {l : List En} {m : List (List Int)} (hc : Lg c l) (hd : Nss d m) : ∃ r, callW F 9 [c, d] [] = some (.v (.bool r), []) ∧ (r = false → l.length ≤ 200 ∧ m.length ≤ 200) := by
  have q1 := fun H => hc.len H
  have q2 := fun H => hd.len H
  have st9 : start c9 [c, d] = [c, d, .v undef, .v undef, .v undef, .v undef, .v undef, .v undef, .v undef, .v undef, .v undef, .v undef, .v undef, .v undef, .v undef, .v undef] := rfl
  have hres : c9.res = [.var 2] := rfl
  cases b1 : decide ((l.length : Int) > 200) with
  | true =>
    refine ⟨true, callW_pure (c := c9) rfl rfl 0 ?_, fun h => by cases h⟩
    rw [st9]
    simp only [c9, c9_0, c9_1, c9_2, q1, q2, b1, Q122, Q0, Q1, Q2, Q3, Q4, Q5, Q6, Q7, Q8, Q9, Q10, Q11, Q12, Q13, Q14, Q15, Q16, Q17, Q18, Q19, Q20, Q21, Q22, Q23, Q24, Q25, Q26, Q27, Q28, Q29, Q30, Q31, Q32, Q33, Q35, Q36, Q37, Q38, Q39, Q40, Q41, Q42, Q43, Q44, Q45, Q46, Q47, Q48, Q49, Q50, Q51, Q52, Q53, Q54, Q55, Q56, Q57, Q58, Q59, Q60, Q61, Q62, Q63, Q64, Q65, Q66, Q67, Q68, Q69, Q70, Q71, Q72, Q73, Q99, Q100, Q101, Q102, Q103, Q74, Q75, Q77, Q78, Q79, Q80, Q81, Q82, Q83, Q84, clr, List.length_nil, List.length_cons, List.getElem?_cons_zero, List.getElem?_cons_succ, Nat.reduceAdd, Nat.zero_add, Nat.add_zero, Nat.reduceLeDiff, Nat.reduceSub, ↓reduceIte, List.drop_succ_cons, List.drop_zero, List.take_succ_cons, List.take_zero, Bool.false_eq_true, List.nil_append, List.cons_append, Bool.not_true, Bool.not_false, cond_true, cond_false, bne, Q85, Q86, Q87, Q88, Q89, Q90, Q91, Q92, Q93, Q94, Q95, Q96, Q97, Q98, Q110, Q111, Q116, Q117, Q118, Q119, Q120, Q121, Q122, Q123, Option.map_some, Option.map_none, Q34]
  | false =>
  cases b2 : decide ((m.length : Int) > 200) with
  | true =>
    refine ⟨true, callW_pure (c := c9) rfl rfl 0 ?_, fun h => by cases h⟩
    rw [st9]
    simp only [c9, c9_0, c9_1, c9_2, q1, q2, b1, b2, Q122, Q0, Q1, Q2, Q3, Q4, Q5, Q6, Q7, Q8, Q9, Q10, Q11, Q12, Q13, Q14, Q15, Q16, Q17, Q18, Q19, Q20, Q21, Q22, Q23, Q24, Q25, Q26, Q27, Q28, Q29, Q30, Q31, Q32, Q33, Q35, Q36, Q37, Q38, Q39, Q40, Q41, Q42, Q43, Q44, Q45, Q46, Q47, Q48, Q49, Q50, Q51, Q52, Q53, Q54, Q55, Q56, Q57, Q58, Q59, Q60, Q61, Q62, Q63, Q64, Q65, Q66, Q67, Q68, Q69, Q70, Q71, Q72, Q73, Q99, Q100, Q101, Q102, Q103, Q74, Q75, Q77, Q78, Q79, Q80, Q81, Q82, Q83, Q84, clr, List.length_nil, List.length_cons, List.getElem?_cons_zero, List.getElem?_cons_succ, Nat.reduceAdd, Nat.zero_add, Nat.add_zero, Nat.reduceLeDiff, Nat.reduceSub, ↓reduceIte, List.drop_succ_cons, List.drop_zero, List.take_succ_cons, List.take_zero, Bool.false_eq_true, List.nil_append, List.cons_append, Bool.not_true, Bool.not_false, cond_true, cond_false, bne, Q85, Q86, Q87, Q88, Q89, Q90, Q91, Q92, Q93, Q94, Q95, Q96, Q97, Q98, Q110, Q111, Q116, Q117, Q118, Q119, Q120, Q121, Q122, Q123, Option.map_some, Option.map_none, Q34]
  | false =>
    have hle : l.length ≤ 200 ∧ m.length ≤ 200 := by
      have h1 := of_decide_eq_false b1
      have h2 := of_decide_eq_false b2
      omega
    obtain ⟨e, v', h', g1, g2⟩ := big_loop (K := l.length + m.length + 1) (d := d) hc (by omega) [] [c, d, .v (.bool false), .v undef, .v undef, .v (.bool false), c, .v (.int .i64 l.length), .v (.int .i64 0), .v undef, .v undef, .v undef, .v undef, .v undef, .v undef, .v undef] rfl
    have hbody : c9.body = (.seq (.region [] [] c9_0) (.seq (.seq (.region [] [] c9_1) (.cond (.var 5) (.seq (.region [] [] c9_2) .ret) .skip)) (.seq (.seq (.region [] [] c9_3) (.block 0 (.loop K9 [] c9_9))) (.seq (.seq (.region [] [] c9_10) (.block 2 (.loop K9b [] c9_16))) (.seq (.region [] [] c9_17) .ret))))) := rfl
    rcases g2 with ⟨rfl, g2⟩ | ⟨rfl, rfl⟩
    · refine ⟨true, callW_pure (c := c9) rfl rfl (l.length + m.length + 1) ?_, fun h => by cases h⟩
      rw [st9, hbody, hres]
      generalize c9_9 = bb at g1 ⊢
      generalize (CC.seq (.seq (.region [] [] c9_10) (.block 2 (.loop K9b [] c9_16))) (.seq (.region [] [] c9_17) .ret)) = rest
      simp only [c9_0, c9_1, c9_3, q1, q2, b1, b2, g1, Q122, Q0, Q1, Q2, Q3, Q4, Q5, Q6, Q7, Q8, Q9, Q10, Q11, Q12, Q13, Q14, Q15, Q16, Q17, Q18, Q19, Q20, Q21, Q22, Q23, Q24, Q25, Q26, Q27, Q28, Q29, Q30, Q31, Q32, Q33, Q35, Q36, Q37, Q38, Q39, Q40, Q41, Q42, Q43, Q44, Q45, Q46, Q47, Q48, Q49, Q50, Q51, Q52, Q53, Q54, Q55, Q56, Q57, Q58, Q59, Q60, Q61, Q62, Q63, Q64, Q65, Q66, Q67, Q68, Q69, Q70, Q71, Q72, Q73, Q99, Q100, Q101, Q102, Q103, Q74, Q75, Q77, Q78, Q79, Q80, Q81, Q82, Q83, Q84, clr, List.length_nil, List.length_cons, List.getElem?_cons_zero, List.getElem?_cons_succ, Nat.reduceAdd, Nat.zero_add, Nat.add_zero, Nat.reduceLeDiff, Nat.reduceSub, ↓reduceIte, List.drop_succ_cons, List.drop_zero, List.take_succ_cons, List.take_zero, Bool.false_eq_true, List.nil_append, List.cons_append, Bool.not_true, Bool.not_false, cond_true, cond_false, bne, Q85, Q86, Q87, Q88, Q89, Q90, Q91, Q92, Q93, Q94, Q95, Q96, Q97, Q98, Q110, Q111, Q116, Q117, Q118, Q119, Q120, Q121, Q122, Q123, Option.map_some, Option.map_none, Q34]
      exact lv1_one g2
    · obtain ⟨e2, v2, h2, k1, k2⟩ := big_loop2 (K := l.length + m.length + 1) hd (by omega) h' [.junk, d, .junk, .junk, .junk, .junk, c, .v (.int .i64 l.length), .v (.int .i64 l.length), .v (.bool false), .junk, d, .v (.int .i64 m.length), .v (.int .i64 0), .junk, .junk] rfl
      rcases k2 with ⟨rfl, k2⟩ | ⟨rfl, rfl⟩
      · refine ⟨true, callW_pure (c := c9) rfl rfl (l.length + m.length + 1) ?_, fun h => by cases h⟩
        rw [st9, hbody, hres]
        simp only [V9] at g1
        generalize c9_9 = bb at g1 ⊢
        generalize c9_16 = bb2 at k1 ⊢
        generalize (CC.seq (.region [] [] c9_17) .ret) = rest
        simp only [c9_0, c9_1, c9_3, c9_10, q1, q2, b1, b2, g1, k1, Q122, Q0, Q1, Q2, Q3, Q4, Q5, Q6, Q7, Q8, Q9, Q10, Q11, Q12, Q13, Q14, Q15, Q16, Q17, Q18, Q19, Q20, Q21, Q22, Q23, Q24, Q25, Q26, Q27, Q28, Q29, Q30, Q31, Q32, Q33, Q35, Q36, Q37, Q38, Q39, Q40, Q41, Q42, Q43, Q44, Q45, Q46, Q47, Q48, Q49, Q50, Q51, Q52, Q53, Q54, Q55, Q56, Q57, Q58, Q59, Q60, Q61, Q62, Q63, Q64, Q65, Q66, Q67, Q68, Q69, Q70, Q71, Q72, Q73, Q99, Q100, Q101, Q102, Q103, Q74, Q75, Q77, Q78, Q79, Q80, Q81, Q82, Q83, Q84, clr, List.length_nil, List.length_cons, List.getElem?_cons_zero, List.getElem?_cons_succ, Nat.reduceAdd, Nat.zero_add, Nat.add_zero, Nat.reduceLeDiff, Nat.reduceSub, ↓reduceIte, List.drop_succ_cons, List.drop_zero, List.take_succ_cons, List.take_zero, Bool.false_eq_true, List.nil_append, List.cons_append, Bool.not_true, Bool.not_false, cond_true, cond_false, bne, Q85, Q86, Q87, Q88, Q89, Q90, Q91, Q92, Q93, Q94, Q95, Q96, Q97, Q98, Q110, Q111, Q116, Q117, Q118, Q119, Q120, Q121, Q122, Q123, Option.map_some, Option.map_none, Q34]
        exact lv1_one k2
      · refine ⟨false, callW_pure (c := c9) rfl rfl (l.length + m.length + 1) ?_, fun _ => hle⟩
        rw [st9, hbody, hres]
        simp only [V9] at g1
        simp only [V9b] at k1
        generalize c9_9 = bb at g1 ⊢
        generalize c9_16 = bb2 at k1 ⊢
        simp only [c9_0, c9_1, c9_3, c9_10, c9_17, q1, q2, b1, b2, g1, k1, Q122, Q0, Q1, Q2, Q3, Q4, Q5, Q6, Q7, Q8, Q9, Q10, Q11, Q12, Q13, Q14, Q15, Q16, Q17, Q18, Q19, Q20, Q21, Q22, Q23, Q24, Q25, Q26, Q27, Q28, Q29, Q30, Q31, Q32, Q33, Q35, Q36, Q37, Q38, Q39, Q40, Q41, Q42, Q43, Q44, Q45, Q46, Q47, Q48, Q49, Q50, Q51, Q52, Q53, Q54, Q55, Q56, Q57, Q58, Q59, Q60, Q61, Q62, Q63, Q64, Q65, Q66, Q67, Q68, Q69, Q70, Q71, Q72, Q73, Q99, Q100, Q101, Q102, Q103, Q74, Q75, Q77, Q78, Q79, Q80, Q81, Q82, Q83, Q84, clr, List.length_nil, List.length_cons, List.getElem?_cons_zero, List.getElem?_cons_succ, Nat.reduceAdd, Nat.zero_add, Nat.add_zero, Nat.reduceLeDiff, Nat.reduceSub, ↓reduceIte, List.drop_succ_cons, List.drop_zero, List.take_succ_cons, List.take_zero, Bool.false_eq_true, List.nil_append, List.cons_append, Bool.not_true, Bool.not_false, cond_true, cond_false, bne, Q85, Q86, Q87, Q88, Q89, Q90, Q91, Q92, Q93, Q94, Q95, Q96, Q97, Q98, Q110, Q111, Q116, Q117, Q118, Q119, Q120, Q121, Q122, Q123, Option.map_some, Option.map_none, Q34]
end Go.AE.Ytkdjdhfoodlnfaa
end

/-! The plain law of LogReady. -/
section
set_option linter.unusedVariables false
set_option linter.unusedSimpArgs false
namespace Go.AE.Ytkdjdhfoodlnfaa
open Go Go.AE Go.Proofs.Ytkdjdhfoodlnfaa

theorem Lg.take {c : AV} {l : List En} (h : Lg c l) {n : Nat} (hn : n ≤ l.length) : ∃ c', (∀ H, slV H 4 none (some (some n)) c = some c') ∧ Lg c' (l.take n) := by
  obtain ⟨es, hs, ha, hm⟩ := h
  have hl := ha.length
  have hat : ∀ {es : List AV} {l : List En}, AllR IsEn es l → ∀ n, AllR IsEn (es.take n) (l.take n) := by
    intro es l h
    induction h with
    | nil => intro n; simp; exact .nil
    | cons a x es l h hs ih =>
      intro n
      cases n with
      | zero => exact .nil
      | succ n => exact .cons _ _ _ _ h (ih n)
  have hlen : (es.take n).length ≤ maxLen := Nat.le_trans (by rw [List.length_take]; exact Nat.min_le_right _ _) hm
  cases hs with
  | nil =>
    have : n = 0 := by simp at hl; omega
    subst this
    exact ⟨.v (.slice none 0 0), fun H => rfl, _, .nil, hat ha 0, hlen⟩
  | slc ex nn es =>
    exact ⟨_, fun H => by simp only [slV, slo, if_true, Nat.zero_le, true_and]; rw [if_pos (by omega)], _, .slc _ _ _, by simpa using hat ha n, by simpa using hlen⟩
theorem Nss.drop {c : AV} {l : List (List Int)} (h : Nss c l) {n : Nat} (hn : n ≤ l.length) : ∃ c', (∀ H, slV H 1 (some (some n)) none c = some c') ∧ Nss c' (l.drop n) := by
  obtain ⟨es, hs, ha, hm⟩ := h
  have hl := ha.length
  have hat : ∀ {es : List AV} {l : List (List Int)}, AllR Ns es l → ∀ n, AllR Ns (es.drop n) (l.drop n) := by
    intro es l h
    induction h with
    | nil => intro n; simp; exact .nil
    | cons a x es l h hs ih =>
      intro n
      cases n with
      | zero => exact .cons _ _ _ _ h hs
      | succ n => simpa using ih n
  have hlen : (es.drop n).length ≤ maxLen := Nat.le_trans (by rw [List.length_drop]; exact Nat.sub_le _ _) hm
  cases hs with
  | nil =>
    have : n = 0 := by simp at hl; omega
    subst this
    exact ⟨.v (.slice none 0 0), fun H => rfl, _, .nil, hat ha 0, hlen⟩
  | slc ex nn es =>
    refine ⟨.slc 1 ex nn (es.drop n), fun H => ?_, _, .slc _ _ _, hat ha n, hlen⟩
    simp only [slV, slo, if_true, Nat.le_refl, and_true]
    rw [if_pos (by omega), List.take_of_length_le (by simp)]
    simp
/-! ### Plain -/
theorem least_mem : ∀ (l : List (List Int)) (m : List Int), leastL m l ∈ m :: l ∧ cmpL (leastL m l) m ≤ 0 ∧ ∀ x ∈ l, cmpL (leastL m l) x ≤ 0
  | [], m => by simp [leastL, cmp_refl]
  | x :: l, m => by
    rw [leastL]
    by_cases h : cmpL x m < 0
    · rw [if_pos (decide_eq_true h)]
      obtain ⟨h1, h2, h3⟩ := least_mem l x
      refine ⟨List.mem_cons_of_mem _ h1, ?_, ?_⟩
      · exact cmp_le_trans h2 (by omega)
      · intro y hy
        rcases List.mem_cons.1 hy with rfl | hy
        · exact h2
        · exact h3 y hy
    · rw [if_neg (by simpa using h)]
      obtain ⟨h1, h2, h3⟩ := least_mem l m
      refine ⟨?_, h2, ?_⟩
      · rcases List.mem_cons.1 h1 with h1 | h1
        · rw [h1]; exact List.mem_cons_self ..
        · exact List.mem_cons_of_mem _ (List.mem_cons_of_mem _ h1)
      · intro y hy
        rcases List.mem_cons.1 hy with rfl | hy
        · exact cmp_le_trans h2 (by rw [cmp_anti]; omega)
        · exact h3 y hy
theorem tw_mono {α : Type} {p q : α → Bool} (h : ∀ x, p x = true → q x = true) : ∀ (l : List α), (l.takeWhile p).length ≤ (l.takeWhile q).length
  | [] => Nat.le_refl _
  | x :: l => by
    rw [List.takeWhile_cons, List.takeWhile_cons]
    cases hp : p x with
    | true => rw [h x hp]; simpa using tw_mono h l
    | false => simp
theorem ready_le (l : List En) (op : List (List Int)) : readyL l op ≤ l.length := by
  cases op with
  | nil => exact Nat.le_refl _
  | cons o ll => exact (List.takeWhile_sublist _).length_le
theorem ready_drop {l : List En} {op : List (List Int)} {i : Nat} (hi : i < op.length) : readyL l op ≤ readyL l (op.drop i) := by
  cases op with
  | nil => simp at hi
  | cons o ll =>
    rw [List.drop_eq_getElem_cons hi, readyL, readyL]
    refine tw_mono (fun x h => ?_) l
    rw [decide_eq_true_eq] at h ⊢
    refine cmp_lt_le h ?_
    obtain ⟨h1, _⟩ := least_mem ((o :: ll).drop (i + 1)) (o :: ll)[i]
    obtain ⟨_, g2, g3⟩ := least_mem ll o
    have hm : leastL (o :: ll)[i] ((o :: ll).drop (i + 1)) ∈ o :: ll := by
      rcases List.mem_cons.1 h1 with h1 | h1
      · rw [h1]; exact List.getElem_mem hi
      · exact List.mem_of_mem_drop h1
    rcases List.mem_cons.1 hm with h | h
    · rw [h]; exact g2
    · exact g3 _ h
theorem left_cmp : ∀ {x y : List Int}, leftL x y = true → cmpL x y < 0
  | [], _, h => by simp [leftL] at h
  | _ :: _, [], h => by simp [leftL] at h
  | a :: l, b :: m, h => by
    rw [leftL] at h
    by_cases e : a = b
    · rw [if_pos e] at h
      subst e
      rw [cmp_eq]; exact left_cmp h
    · rw [if_neg e, decide_eq_true_eq] at h
      rw [cmp_lt h]; decide
theorem tw_all {α : Type} {p : α → Bool} : ∀ (l : List α), ∀ x ∈ l.take (l.takeWhile p).length, p x = true
  | [], x, h => by simp at h
  | y :: l, x, h => by
    rw [List.takeWhile_cons] at h
    cases hp : p y with
    | true =>
      rw [hp] at h
      simp only [if_true, List.length_cons, List.take_succ_cons, List.mem_cons] at h
      rcases h with rfl | h
      · exact hp
      · exact tw_all l x h
    | false => rw [hp] at h; simp at h
theorem drop_take {l : List En} {op : List (List Int)} {i : Nat} (hi : i < op.length) (d : Int) : readyL l op ≤ (dropL l op[i] d).length ∧ (dropL l op[i] d).take (readyL l op) = l.take (readyL l op) := by
  cases op with
  | nil => simp at hi
  | cons o ll =>
    have hall : ∀ x ∈ l.take (readyL l (o :: ll)), (!prunedL x.lab (o :: ll)[i] d) = true := by
      intro x hx
      have h1 := tw_all (p := fun x : En => decide (cmpL x.lab (leastL o ll) < 0)) l x hx
      rw [decide_eq_true_eq] at h1
      obtain ⟨_, g2, g3⟩ := least_mem ll o
      have h2 : cmpL (leastL o ll) (o :: ll)[i] ≤ 0 := by
        rcases List.mem_cons.1 (List.getElem_mem hi) with h | h
        · rw [h]; exact g2
        · exact g3 _ h
      have h3 := cmp_lt_le h1 h2
      cases hp : prunedL x.lab (o :: ll)[i] d with
      | false => rfl
      | true =>
        simp only [prunedL, Bool.and_eq_true] at hp
        have := left_cmp hp.1
        rw [cmp_anti] at this
        omega
    have hle := ready_le l (o :: ll)
    generalize readyL l (o :: ll) = n at hall hle
    have hsp : dropL l (o :: ll)[i] d = l.take n ++ (l.drop n).filter (fun x => !prunedL x.lab (o :: ll)[i] d) := by
      rw [dropL]
      conv => lhs; rw [← List.take_append_drop n l]
      rw [List.filter_append, List.filter_eq_self.2 hall]
    have hn : (l.take n).length = n := by rw [List.length_take]; omega
    constructor
    · rw [hsp, List.length_append, hn]; omega
    · rw [hsp, List.take_append_of_le_length (by omega), List.take_take, Nat.min_self]
theorem ts_refl (l : List Tm) : tsS l l = true := (same_iff _ _ _ (Nat.lt_succ_self _)).2 rfl
theorem lg_refl : ∀ (l : List En), lgL l l = true
  | [] => rfl
  | a :: l => by
    rw [lgL, lg_refl l, enS, cmp_refl, evS, ts_refl]
    simp
theorem lgs_refl (l : List En) : lgS l l = true := by rw [lgS, lg_refl]; simp
end Go.AE.Ytkdjdhfoodlnfaa
end

/-! LogOrders, over the evaluator. -/
section
set_option linter.unusedVariables false
set_option linter.unusedSimpArgs false
namespace Go.AE.Ytkdjdhfoodlnfaa
open Go Go.AE Go.Proofs.Ytkdjdhfoodlnfaa

/-! ### Plain -/
def Lb (l : List En) (z : List Int) : Prop := ∃ x ∈ l, x.lab = z
theorem lb_none {l : List En} {e : En} (ho : ordL l = true) (h : putL l e = none) (z : List Int) : Lb l z ↔ (Lb l z ∨ e.lab = z) := by
  constructor
  · exact .inl
  · rintro (h1 | rfl)
    · exact h1
    · exact (put_none ho).1 h
theorem lb_some {l : List En} {e : En} {m : List En} (h : putL l e = some m) (z : List Int) : Lb m z ↔ (Lb l z ∨ e.lab = z) := by
  constructor
  · rintro ⟨x, hx, rfl⟩
    rcases (put_mem h x).1 hx with rfl | hx
    · exact .inr rfl
    · exact .inl ⟨x, hx, rfl⟩
  · rintro (⟨x, hx, rfl⟩ | rfl)
    · exact ⟨x, (put_mem h x).2 (.inr hx), rfl⟩
    · exact ⟨e, (put_mem h e).2 (.inl rfl), rfl⟩
theorem labs_same : ∀ (a b : List En), ordL a = true → ordL b = true → (∀ z, Lb a z ↔ Lb b z) → a.map En.lab = b.map En.lab
  | [], [], _, _, _ => rfl
  | [], y :: b, _, _, h => by
    obtain ⟨x, hx, _⟩ := (h y.lab).2 ⟨y, List.mem_cons_self .., rfl⟩
    cases hx
  | x :: a, [], _, _, h => by
    obtain ⟨x, hx, _⟩ := (h x.lab).1 ⟨x, List.mem_cons_self .., rfl⟩
    cases hx
  | x :: a, y :: b, ha, hb, h => by
    obtain ⟨a1, a2⟩ := ord_cons.1 ha
    obtain ⟨b1, b2⟩ := ord_cons.1 hb
    have hxy : x.lab = y.lab := by
      obtain ⟨u, hu, hu2⟩ := (h x.lab).1 ⟨x, List.mem_cons_self .., rfl⟩
      obtain ⟨w, hw, hw2⟩ := (h y.lab).2 ⟨y, List.mem_cons_self .., rfl⟩
      rcases List.mem_cons.1 hu with rfl | hu
      · exact hu2.symm
      · rcases List.mem_cons.1 hw with rfl | hw
        · exact hw2
        · have h1 := b1 u hu
          have h2 := a1 w hw
          rw [hu2] at h1
          rw [hw2] at h2
          rw [cmp_anti] at h1
          omega
    rw [List.map_cons, List.map_cons, hxy]
    congr 1
    refine labs_same a b a2 b2 (fun z => ?_)
    constructor
    · rintro ⟨u, hu, rfl⟩
      obtain ⟨w, hw, hw2⟩ := (h u.lab).1 ⟨u, List.mem_cons_of_mem _ hu, rfl⟩
      rcases List.mem_cons.1 hw with rfl | hw
      · have := a1 u hu
        rw [hxy, hw2, cmp_refl] at this
        omega
      · exact ⟨w, hw, hw2⟩
    · rintro ⟨u, hu, rfl⟩
      obtain ⟨w, hw, hw2⟩ := (h u.lab).2 ⟨u, List.mem_cons_of_mem _ hu, rfl⟩
      rcases List.mem_cons.1 hw with rfl | hw
      · have := b1 u hu
        rw [← hxy, hw2, cmp_refl] at this
        omega
      · exact ⟨w, hw, hw2⟩
theorem rot_all {n k : Nat} (hk : k < n) {j : Nat} (hj : j < n) : ∃ i, i < n ∧ (i + k) % n = j := by
  by_cases h : k ≤ j
  · exact ⟨j - k, by omega, by rw [Nat.sub_add_cancel h, Nat.mod_eq_of_lt hj]⟩
  · exact ⟨j + n - k, by omega, by rw [Nat.sub_add_cancel (by omega), Nat.add_mod_right, Nat.mod_eq_of_lt hj]⟩
/-! ### The loops -/
def V4 (s a b : AV) (n k len i : Int) (x17 : AV) : List AV := [s, .junk, .junk, .v (.bool true), a, b, .v (.int .i64 n), .v (.int .i64 k), .junk, .junk, .junk, .junk, .junk, .junk, .junk, .v (.int .i64 len), .v (.int .i64 i), x17, .junk, .junk, .junk, .junk, .junk, .junk, .junk]
def K4 : List Bool := [true, false, false, true, true, true, true, true, false, false, false, false, false, false, false, true, true, false, false, false, false, false, false, false, false]
theorem orders_loop {K : Nat} {s : AV} {l : List En} {k : Nat} (hs : Lg s l) (hl : l.length ≤ 200) (hk : k < l.length) (hK : l.length < K) (v : List AV) (hv : clr K4 v = V4 s (.v (.slice none 0 0)) (.v (.slice none 0 0)) 0 k l.length 0 .junk) :
    ∃ a b al bl, Lg a al ∧ Lg b bl ∧ ordL al = true ∧ ordL bl = true ∧ (∀ z, Lb al z ↔ Lb l z) ∧ (∀ z, Lb bl z ↔ Lb l z) ∧ al.length ≤ l.length ∧ loopN (exec (callW F) K c4_19) K4 K v [] = some (.exit 0, V4 s a b al.length k l.length l.length (.v (.bool false)), []) := by
  have hmx : maxLen = 9223372036854775807 := rfl
  obtain ⟨e, v', h', g1, g2, rfl, rfl, a, b, al, bl, p1, p2, p3, p4, p5, p6, p7, rfl⟩ := loop_rule0 (call := callW F) (K := K) (b := c4_19) (keep := K4)
    (fun i v h => h = [] ∧ ∃ a b al bl, Lg a al ∧ Lg b bl ∧ ordL al = true ∧ ordL bl = true ∧ al.length ≤ i ∧ bl.length ≤ i ∧ (∀ z, Lb al z ↔ ∃ j, ∃ h : j < l.length, j < i ∧ l[j].lab = z) ∧ (∀ z, Lb bl z ↔ ∃ j, ∃ h : (j + k) % l.length < l.length, j < i ∧ (l[(j + k) % l.length]'h).lab = z) ∧ v = V4 s a b al.length k l.length i .junk)
    (fun e v h => e = .exit 0 ∧ h = [] ∧ ∃ a b al bl, Lg a al ∧ Lg b bl ∧ ordL al = true ∧ ordL bl = true ∧ (∀ z, Lb al z ↔ Lb l z) ∧ (∀ z, Lb bl z ↔ Lb l z) ∧ al.length ≤ l.length ∧ v = V4 s a b al.length k l.length l.length (.v (.bool false)))
    l.length (m := K) (v := v) (h := []) hK ⟨rfl, _, _, [], [], ⟨[], .nil, .nil, by simp⟩, ⟨[], .nil, .nil, by simp⟩, rfl, rfl, Nat.le_refl _, Nat.le_refl _, by simp [Lb], by simp [Lb], hv⟩ (by
      rintro i v h hi ⟨rfl, a, b, al, bl, ha, hb, oa, ob, la, lb, sa, sb, rfl⟩
      by_cases hil : i < l.length
      · have hlt := lt_t hil
        have hw := wrap_succ hil hs.max
        have hjl : (i + k) % l.length < l.length := Nat.mod_lt _ (by omega)
        have w1 := i64_nat (n := i + k) (by omega)
        have tm : ((i + k : Nat) : Int).tmod (l.length : Int) = (((i + k) % l.length : Nat) : Int) := by
          rw [Int.tmod_eq_emod_of_nonneg (by omega)]; omega
        have hz0 : ((l.length : Int) = 0) = False := eq_false (by omega)
        have q1 := fun H => hs.len H
        obtain ⟨c1, k1, d1, r1, e1, n1, x1, t1, y1⟩ := hs.at hil
        obtain ⟨c2, k2, d2, r2, e2, n2, _, t2, _⟩ := hs.at hjl
        have nj : natV (.v (.int .i64 (((i + k) % l.length : Nat) : Int))) = some ((i + k) % l.length) := Q48
        have ni : natV (.v (.int .i64 (i : Int))) = some i := Q48
        have E1 : IsEn (.agg [c1, .v (.int .i64 k1), d1, .v (.int .i64 r1)]) ⟨l[i].lab, k1, l[i].terms, r1⟩ := .mk _ _ n1 _ _ _ t1 _
        have E2 : IsEn (.agg [c2, .v (.int .i64 0), .v (.slice none 0 0), .v (.int .i64 0)]) ⟨(l[(i + k) % l.length]'hjl).lab, 0, [], 0⟩ := .mk _ _ n2 _ _ _ .nil _
        have sn1 := E1.elm.snap
        have sn2 := E2.elm.snap
        have sA := fun H => ha.sn H
        have sB := fun H => hb.sn H
        have cc2 := Ns.cl1 n2
        have P1 := put_ok ha (by omega) oa E1
        have P2 := put_ok hb (by omega) ob E2
        have z1 : ((1 : Int) == 0) = false := rfl
        have z0 : ((0 : Int) == 0) = true := rfl
        have stepA : ∀ (al' : List En), (∀ z, Lb al' z ↔ (Lb al z ∨ l[i].lab = z)) → ∀ z, Lb al' z ↔ ∃ j, ∃ h : j < l.length, j < i + 1 ∧ l[j].lab = z := by
          intro al' h z
          rw [h, sa]
          constructor
          · rintro (⟨j, hj, h1, h2⟩ | h2)
            · exact ⟨j, hj, by omega, h2⟩
            · exact ⟨i, hil, by omega, h2⟩
          · rintro ⟨j, hj, h1, h2⟩
            by_cases e : j = i
            · subst e; exact .inr h2
            · exact .inl ⟨j, hj, by omega, h2⟩
        have stepB : ∀ (bl' : List En), (∀ z, Lb bl' z ↔ (Lb bl z ∨ (l[(i + k) % l.length]'hjl).lab = z)) → ∀ z, Lb bl' z ↔ ∃ j, ∃ h : (j + k) % l.length < l.length, j < i + 1 ∧ (l[(j + k) % l.length]'h).lab = z := by
          intro bl' h z
          rw [h, sb]
          constructor
          · rintro (⟨j, hj, h1, h2⟩ | h2)
            · exact ⟨j, hj, by omega, h2⟩
            · exact ⟨i, hjl, by omega, h2⟩
          · rintro ⟨j, hj, h1, h2⟩
            by_cases e : j = i
            · subst e; exact .inr h2
            · exact .inl ⟨j, hj, by omega, h2⟩
        rcases P1 with ⟨u1, u2⟩ | ⟨m1, r1', u1, u3, u2⟩ <;> rcases P2 with ⟨w2, w3⟩ | ⟨m2, r2', w2, w4, w3⟩
        · have LA := lb_none oa u1
          have LB := lb_none ob w2
          refine ⟨.normal, [s, .junk, .junk, .v (.bool true), a, b, .v (.int .i64 al.length), .v (.int .i64 k), .v (.int .i64 i), .v (.slice none 0 0), .v (.int .i64 1), .v (.slice none 0 0), .v (.int .i64 1), .junk, .junk, .v (.int .i64 l.length), .v (.int .i64 ((i + 1 : Nat) : Int)), .v (.bool true), .v (.bool false), .v (.bool false), .junk, .junk, .junk, .junk, .junk], [], ?_, hil, rfl, a, b, al, bl, ha, hb, oa, ob, by omega, by omega, stepA al LA, stepB bl LB, rfl⟩
          simp only [V4, c4_19, c4_9, c4_10, c4_11, c4_12, c4_15, c4_16, c4_18, hlt, hw, cast_add, w1, tm, hz0, q1, e1, e2, nj, ni, ip_ld4, ip_ld, sn1, sn2, sA, sB, cc2, u2, w3, z1, z0, if_false, Q104, Q105, bs1, bs2, Q106, Q107, Q108, Q109, bd1, Q110, Q111, toL, List.map_cons, List.map_nil, Q112, List.set_cons_zero, List.set_cons_succ, and_self, Nat.le_refl, Q114, Q115, Q116, Q0, Q1, Q2, Q3, Q4, Q5, Q6, Q7, Q8, Q9, Q10, Q11, Q12, Q13, Q14, Q15, Q16, Q17, Q18, Q19, Q20, Q21, Q22, Q23, Q24, Q25, Q26, Q27, Q28, Q29, Q30, Q31, Q32, Q33, Q35, Q36, Q37, Q38, Q39, Q40, Q41, Q42, Q43, Q44, Q45, Q46, Q47, Q48, Q49, Q50, Q51, Q52, Q53, Q54, Q55, Q56, Q57, Q58, Q59, Q60, Q61, Q62, Q63, Q64, Q65, Q66, Q67, Q68, Q69, Q70, Q71, Q72, Q73, Q99, Q100, Q101, Q102, Q103, Q74, Q75, Q77, Q78, Q79, Q80, Q81, Q82, Q83, Q84, clr, List.length_nil, List.length_cons, List.getElem?_cons_zero, List.getElem?_cons_succ, Nat.reduceAdd, Nat.zero_add, Nat.add_zero, Nat.reduceLeDiff, Nat.reduceSub, ↓reduceIte, List.drop_succ_cons, List.drop_zero, List.take_succ_cons, List.take_zero, Bool.false_eq_true, List.nil_append, List.cons_append, Bool.not_true, Bool.not_false, cond_true, cond_false, bne, Q85, Q86, Q87, Q88, Q89, Q90, Q91, Q92, Q93, Q94, Q95, Q96, Q97, Q98, Q110, Q111, Q116, Q117, Q118, Q119, Q120, Q121, Q122, Q123, Option.map_some, Option.map_none, Q34]
        · have LA := lb_none oa u1
          have LB := lb_some w2
          refine ⟨.normal, [s, .junk, .junk, .v (.bool true), a, r2', .v (.int .i64 al.length), .v (.int .i64 k), .v (.int .i64 i), .v (.slice none 0 0), .v (.int .i64 1), r2', .v (.int .i64 0), .junk, .junk, .v (.int .i64 l.length), .v (.int .i64 ((i + 1 : Nat) : Int)), .v (.bool true), .v (.bool false), .v (.bool true), .junk, .junk, .junk, .junk, .junk], [], ?_, hil, rfl, a, r2', al, m2, ha, w4, oa, put_ord ob w2, by omega, by have := put_len w2; omega, stepA al LA, stepB m2 LB, rfl⟩
          simp only [V4, c4_19, c4_9, c4_10, c4_11, c4_12, c4_15, c4_16, c4_17, c4_18, hlt, hw, cast_add, w1, tm, hz0, q1, e1, e2, nj, ni, ip_ld4, ip_ld, sn1, sn2, sA, sB, cc2, u2, w3, z1, z0, if_false, Q104, Q105, bs1, bs2, Q106, Q107, Q108, Q109, bd1, Q110, Q111, toL, List.map_cons, List.map_nil, Q112, List.set_cons_zero, List.set_cons_succ, and_self, Nat.le_refl, Q114, Q115, Q116, Q0, Q1, Q2, Q3, Q4, Q5, Q6, Q7, Q8, Q9, Q10, Q11, Q12, Q13, Q14, Q15, Q16, Q17, Q18, Q19, Q20, Q21, Q22, Q23, Q24, Q25, Q26, Q27, Q28, Q29, Q30, Q31, Q32, Q33, Q35, Q36, Q37, Q38, Q39, Q40, Q41, Q42, Q43, Q44, Q45, Q46, Q47, Q48, Q49, Q50, Q51, Q52, Q53, Q54, Q55, Q56, Q57, Q58, Q59, Q60, Q61, Q62, Q63, Q64, Q65, Q66, Q67, Q68, Q69, Q70, Q71, Q72, Q73, Q99, Q100, Q101, Q102, Q103, Q74, Q75, Q77, Q78, Q79, Q80, Q81, Q82, Q83, Q84, clr, List.length_nil, List.length_cons, List.getElem?_cons_zero, List.getElem?_cons_succ, Nat.reduceAdd, Nat.zero_add, Nat.add_zero, Nat.reduceLeDiff, Nat.reduceSub, ↓reduceIte, List.drop_succ_cons, List.drop_zero, List.take_succ_cons, List.take_zero, Bool.false_eq_true, List.nil_append, List.cons_append, Bool.not_true, Bool.not_false, cond_true, cond_false, bne, Q85, Q86, Q87, Q88, Q89, Q90, Q91, Q92, Q93, Q94, Q95, Q96, Q97, Q98, Q110, Q111, Q116, Q117, Q118, Q119, Q120, Q121, Q122, Q123, Option.map_some, Option.map_none, Q34]
        · have hml := put_len u1
          have hw2 : IntKind.i64.wrap ((al.length : Int) + 1) = (m1.length : Int) := by rw [hml]; exact wrap_succ (i := al.length) (len := m1.length) (by omega) u3.max
          have LA := lb_some u1
          have LB := lb_none ob w2
          refine ⟨.normal, [s, .junk, .junk, .v (.bool true), r1', b, .v (.int .i64 m1.length), .v (.int .i64 k), .v (.int .i64 i), r1', .v (.int .i64 0), .v (.slice none 0 0), .v (.int .i64 1), .junk, .junk, .v (.int .i64 l.length), .v (.int .i64 ((i + 1 : Nat) : Int)), .v (.bool true), .v (.bool true), .v (.bool false), .junk, .junk, .junk, .junk, .junk], [], ?_, hil, rfl, r1', b, m1, bl, u3, hb, put_ord oa u1, ob, by omega, by omega, stepA m1 LA, stepB bl LB, rfl⟩
          simp only [V4, c4_19, c4_9, c4_10, c4_11, c4_12, c4_13, c4_14, c4_15, c4_16, c4_18, hlt, hw, hw2, cast_add, w1, tm, hz0, q1, e1, e2, nj, ni, ip_ld4, ip_ld, sn1, sn2, sA, sB, cc2, u2, w3, z1, z0, if_false, Q104, Q105, bs1, bs2, Q106, Q107, Q108, Q109, bd1, Q110, Q111, toL, List.map_cons, List.map_nil, Q112, List.set_cons_zero, List.set_cons_succ, and_self, Nat.le_refl, Q114, Q115, Q116, Q0, Q1, Q2, Q3, Q4, Q5, Q6, Q7, Q8, Q9, Q10, Q11, Q12, Q13, Q14, Q15, Q16, Q17, Q18, Q19, Q20, Q21, Q22, Q23, Q24, Q25, Q26, Q27, Q28, Q29, Q30, Q31, Q32, Q33, Q35, Q36, Q37, Q38, Q39, Q40, Q41, Q42, Q43, Q44, Q45, Q46, Q47, Q48, Q49, Q50, Q51, Q52, Q53, Q54, Q55, Q56, Q57, Q58, Q59, Q60, Q61, Q62, Q63, Q64, Q65, Q66, Q67, Q68, Q69, Q70, Q71, Q72, Q73, Q99, Q100, Q101, Q102, Q103, Q74, Q75, Q77, Q78, Q79, Q80, Q81, Q82, Q83, Q84, clr, List.length_nil, List.length_cons, List.getElem?_cons_zero, List.getElem?_cons_succ, Nat.reduceAdd, Nat.zero_add, Nat.add_zero, Nat.reduceLeDiff, Nat.reduceSub, ↓reduceIte, List.drop_succ_cons, List.drop_zero, List.take_succ_cons, List.take_zero, Bool.false_eq_true, List.nil_append, List.cons_append, Bool.not_true, Bool.not_false, cond_true, cond_false, bne, Q85, Q86, Q87, Q88, Q89, Q90, Q91, Q92, Q93, Q94, Q95, Q96, Q97, Q98, Q110, Q111, Q116, Q117, Q118, Q119, Q120, Q121, Q122, Q123, Option.map_some, Option.map_none, Q34]
        · have hml := put_len u1
          have hw2 : IntKind.i64.wrap ((al.length : Int) + 1) = (m1.length : Int) := by rw [hml]; exact wrap_succ (i := al.length) (len := m1.length) (by omega) u3.max
          have LA := lb_some u1
          have LB := lb_some w2
          refine ⟨.normal, [s, .junk, .junk, .v (.bool true), r1', r2', .v (.int .i64 m1.length), .v (.int .i64 k), .v (.int .i64 i), r1', .v (.int .i64 0), r2', .v (.int .i64 0), .junk, .junk, .v (.int .i64 l.length), .v (.int .i64 ((i + 1 : Nat) : Int)), .v (.bool true), .v (.bool true), .v (.bool true), .junk, .junk, .junk, .junk, .junk], [], ?_, hil, rfl, r1', r2', m1, m2, u3, w4, put_ord oa u1, put_ord ob w2, by omega, by have := put_len w2; omega, stepA m1 LA, stepB m2 LB, rfl⟩
          simp only [V4, c4_19, c4_9, c4_10, c4_11, c4_12, c4_13, c4_14, c4_15, c4_16, c4_17, c4_18, hlt, hw, hw2, cast_add, w1, tm, hz0, q1, e1, e2, nj, ni, ip_ld4, ip_ld, sn1, sn2, sA, sB, cc2, u2, w3, z1, z0, if_false, Q104, Q105, bs1, bs2, Q106, Q107, Q108, Q109, bd1, Q110, Q111, toL, List.map_cons, List.map_nil, Q112, List.set_cons_zero, List.set_cons_succ, and_self, Nat.le_refl, Q114, Q115, Q116, Q0, Q1, Q2, Q3, Q4, Q5, Q6, Q7, Q8, Q9, Q10, Q11, Q12, Q13, Q14, Q15, Q16, Q17, Q18, Q19, Q20, Q21, Q22, Q23, Q24, Q25, Q26, Q27, Q28, Q29, Q30, Q31, Q32, Q33, Q35, Q36, Q37, Q38, Q39, Q40, Q41, Q42, Q43, Q44, Q45, Q46, Q47, Q48, Q49, Q50, Q51, Q52, Q53, Q54, Q55, Q56, Q57, Q58, Q59, Q60, Q61, Q62, Q63, Q64, Q65, Q66, Q67, Q68, Q69, Q70, Q71, Q72, Q73, Q99, Q100, Q101, Q102, Q103, Q74, Q75, Q77, Q78, Q79, Q80, Q81, Q82, Q83, Q84, clr, List.length_nil, List.length_cons, List.getElem?_cons_zero, List.getElem?_cons_succ, Nat.reduceAdd, Nat.zero_add, Nat.add_zero, Nat.reduceLeDiff, Nat.reduceSub, ↓reduceIte, List.drop_succ_cons, List.drop_zero, List.take_succ_cons, List.take_zero, Bool.false_eq_true, List.nil_append, List.cons_append, Bool.not_true, Bool.not_false, cond_true, cond_false, bne, Q85, Q86, Q87, Q88, Q89, Q90, Q91, Q92, Q93, Q94, Q95, Q96, Q97, Q98, Q110, Q111, Q116, Q117, Q118, Q119, Q120, Q121, Q122, Q123, Option.map_some, Option.map_none, Q34]
      · have hie : i = l.length := by omega
        subst hie
        have hlt := lt_f (n := l.length)
        refine ⟨.exit 0, V4 s a b al.length k l.length l.length (.v (.bool false)), [], ?_, rfl, rfl, a, b, al, bl, ha, hb, oa, ob, ?_, ?_, la, rfl⟩
        · simp only [V4, c4_19, c4_9, hlt, Q0, Q1, Q2, Q3, Q4, Q5, Q6, Q7, Q8, Q9, Q10, Q11, Q12, Q13, Q14, Q15, Q16, Q17, Q18, Q19, Q20, Q21, Q22, Q23, Q24, Q25, Q26, Q27, Q28, Q29, Q30, Q31, Q32, Q33, Q35, Q36, Q37, Q38, Q39, Q40, Q41, Q42, Q43, Q44, Q45, Q46, Q47, Q48, Q49, Q50, Q51, Q52, Q53, Q54, Q55, Q56, Q57, Q58, Q59, Q60, Q61, Q62, Q63, Q64, Q65, Q66, Q67, Q68, Q69, Q70, Q71, Q72, Q73, Q99, Q100, Q101, Q102, Q103, Q74, Q75, Q77, Q78, Q79, Q80, Q81, Q82, Q83, Q84, clr, List.length_nil, List.length_cons, List.getElem?_cons_zero, List.getElem?_cons_succ, Nat.reduceAdd, Nat.zero_add, Nat.add_zero, Nat.reduceLeDiff, Nat.reduceSub, ↓reduceIte, List.drop_succ_cons, List.drop_zero, List.take_succ_cons, List.take_zero, Bool.false_eq_true, List.nil_append, List.cons_append, Bool.not_true, Bool.not_false, cond_true, cond_false, bne, Q85, Q86, Q87, Q88, Q89, Q90, Q91, Q92, Q93, Q94, Q95, Q96, Q97, Q98, Q110, Q111, Q116, Q117, Q118, Q119, Q120, Q121, Q122, Q123, Option.map_some, Option.map_none, Q34]
        · intro z
          rw [sa]
          constructor
          · rintro ⟨j, hj, _, rfl⟩; exact ⟨_, List.getElem_mem hj, rfl⟩
          · rintro ⟨x, hx, rfl⟩
            obtain ⟨j, hj, rfl⟩ := List.mem_iff_getElem.1 hx
            exact ⟨j, hj, hj, rfl⟩
        · intro z
          rw [sb]
          constructor
          · rintro ⟨j, hj, _, rfl⟩; exact ⟨_, List.getElem_mem hj, rfl⟩
          · rintro ⟨x, hx, rfl⟩
            obtain ⟨j, hj, rfl⟩ := List.mem_iff_getElem.1 hx
            obtain ⟨i', h1, h2⟩ := rot_all hk hj
            exact ⟨i', by omega, h1, by simp only [h2]⟩)
  exact ⟨a, b, al, bl, p1, p2, p3, p4, p5, p6, p7, g1⟩
def V4b (a b : AV) (len i : Int) (x23 : AV) : List AV := [.junk, .junk, .junk, .v (.bool true), a, b, .junk, .junk, .junk, .junk, .junk, .junk, .junk, .junk, .junk, .junk, .junk, .junk, .junk, .junk, .junk, .v (.int .i64 len), .v (.int .i64 i), x23, .junk]
def K4b : List Bool := [false, false, false, true, true, true, false, false, false, false, false, false, false, false, false, false, false, false, false, false, false, true, true, false, false]
theorem orders_loop2 {K : Nat} {a b : AV} {al bl : List En} (ha : Lg a al) (hb : Lg b bl) (he : al.map En.lab = bl.map En.lab) (hK : al.length < K) (v : List AV) (hv : clr K4b v = V4b a b al.length 0 .junk) :
    loopN (exec (callW F) K c4_28) K4b K v [] = some (.exit 2, V4b a b al.length al.length (.v (.bool false)), []) := by
  obtain ⟨e, v', h', g1, g2, rfl, rfl, rfl⟩ := loop_rule0 (call := callW F) (K := K) (b := c4_28) (keep := K4b) (fun i v h => h = [] ∧ v = V4b a b al.length i .junk)
    (fun e v h => e = .exit 2 ∧ h = [] ∧ v = V4b a b al.length al.length (.v (.bool false))) al.length (m := K) (v := v) (h := []) hK ⟨rfl, hv⟩ (by
      rintro i v h hi ⟨rfl, rfl⟩
      by_cases hil : i < al.length
      · have hlt := lt_t hil
        have hw := wrap_succ hil ha.max
        have hlen : al.length = bl.length := by have := congrArg List.length he; simpa using this
        have hib : i < bl.length := by omega
        obtain ⟨c1, k1, d1, r1, e1, n1, _⟩ := ha.at hil
        obtain ⟨c2, k2, d2, r2, e2, n2, _⟩ := hb.at hib
        have hcm := rcompare_ok n1 n2
        have hq : al[i].lab = bl[i].lab := by
          have : (al.map En.lab)[i]? = (bl.map En.lab)[i]? := by rw [he]
          simpa [hil, hib] using this
        rw [hq, cmp_refl] at hcm
        have s1 := fun H => n1.sn H
        have s2 := fun H => n2.sn H
        have z0 : ((0 : Int) == 0) = true := rfl
        refine ⟨.normal, [.junk, .junk, .junk, .v (.bool true), a, b, .junk, .junk, .junk, .junk, .junk, .junk, .junk, .v (.int .i64 i), .junk, .junk, .junk, .junk, .junk, .junk, .junk, .v (.int .i64 al.length), .v (.int .i64 ((i + 1 : Nat) : Int)), .v (.bool true), .v (.bool false)], [], ?_, hil, rfl, rfl⟩
        simp only [V4b, c4_28, c4_23, c4_24, c4_25, c4_27, hlt, hw, e1, e2, ip_ld, s1, s2, hcm, z0, Q0, Q1, Q2, Q3, Q4, Q5, Q6, Q7, Q8, Q9, Q10, Q11, Q12, Q13, Q14, Q15, Q16, Q17, Q18, Q19, Q20, Q21, Q22, Q23, Q24, Q25, Q26, Q27, Q28, Q29, Q30, Q31, Q32, Q33, Q35, Q36, Q37, Q38, Q39, Q40, Q41, Q42, Q43, Q44, Q45, Q46, Q47, Q48, Q49, Q50, Q51, Q52, Q53, Q54, Q55, Q56, Q57, Q58, Q59, Q60, Q61, Q62, Q63, Q64, Q65, Q66, Q67, Q68, Q69, Q70, Q71, Q72, Q73, Q99, Q100, Q101, Q102, Q103, Q74, Q75, Q77, Q78, Q79, Q80, Q81, Q82, Q83, Q84, clr, List.length_nil, List.length_cons, List.getElem?_cons_zero, List.getElem?_cons_succ, Nat.reduceAdd, Nat.zero_add, Nat.add_zero, Nat.reduceLeDiff, Nat.reduceSub, ↓reduceIte, List.drop_succ_cons, List.drop_zero, List.take_succ_cons, List.take_zero, Bool.false_eq_true, List.nil_append, List.cons_append, Bool.not_true, Bool.not_false, cond_true, cond_false, bne, Q85, Q86, Q87, Q88, Q89, Q90, Q91, Q92, Q93, Q94, Q95, Q96, Q97, Q98, Q110, Q111, Q116, Q117, Q118, Q119, Q120, Q121, Q122, Q123, Option.map_some, Option.map_none, Q34]
      · have hie : i = al.length := by omega
        subst hie
        have hlt := lt_f (n := al.length)
        refine ⟨.exit 2, V4b a b al.length al.length (.v (.bool false)), [], ?_, rfl, rfl, rfl⟩
        simp only [V4b, c4_28, c4_23, hlt, Q0, Q1, Q2, Q3, Q4, Q5, Q6, Q7, Q8, Q9, Q10, Q11, Q12, Q13, Q14, Q15, Q16, Q17, Q18, Q19, Q20, Q21, Q22, Q23, Q24, Q25, Q26, Q27, Q28, Q29, Q30, Q31, Q32, Q33, Q35, Q36, Q37, Q38, Q39, Q40, Q41, Q42, Q43, Q44, Q45, Q46, Q47, Q48, Q49, Q50, Q51, Q52, Q53, Q54, Q55, Q56, Q57, Q58, Q59, Q60, Q61, Q62, Q63, Q64, Q65, Q66, Q67, Q68, Q69, Q70, Q71, Q72, Q73, Q99, Q100, Q101, Q102, Q103, Q74, Q75, Q77, Q78, Q79, Q80, Q81, Q82, Q83, Q84, clr, List.length_nil, List.length_cons, List.getElem?_cons_zero, List.getElem?_cons_succ, Nat.reduceAdd, Nat.zero_add, Nat.add_zero, Nat.reduceLeDiff, Nat.reduceSub, ↓reduceIte, List.drop_succ_cons, List.drop_zero, List.take_succ_cons, List.take_zero, Bool.false_eq_true, List.nil_append, List.cons_append, Bool.not_true, Bool.not_false, cond_true, cond_false, bne, Q85, Q86, Q87, Q88, Q89, Q90, Q91, Q92, Q93, Q94, Q95, Q96, Q97, Q98, Q110, Q111, Q116, Q117, Q118, Q119, Q120, Q121, Q122, Q123, Option.map_some, Option.map_none, Q34])
  exact g1
theorem ordersLaw_ok {s : AV} {l : List En} (hs : Lg s l) (by_ : Int) : callW F 4 [s, .v (.int .i64 by_)] [] = some (.v (.bool true), []) := by
  have hlive := live_ok
  have hnil : Nss (.v (.slice none 0 0)) [] := ⟨[], .nil, .nil, by simp⟩
  obtain ⟨bg, hbg, hbl⟩ := big_ok hs hnil
  have q1 := fun H => hs.len H
  have s1 := fun H => hs.sn H
  have sN : ∀ H, (AV.v (.slice none 0 0)).snap1 H = some (.v (.slice none 0 0)) := fun _ => rfl
  cases bg with
  | true =>
    refine callW_pure (c := c4) rfl rfl 0 ?_
    simp only [c4, start, List.replicate, c4_0, c4_1, c4_2, c4_3, hlive, hbg, s1, sN, Q122, Q0, Q1, Q2, Q3, Q4, Q5, Q6, Q7, Q8, Q9, Q10, Q11, Q12, Q13, Q14, Q15, Q16, Q17, Q18, Q19, Q20, Q21, Q22, Q23, Q24, Q25, Q26, Q27, Q28, Q29, Q30, Q31, Q32, Q33, Q35, Q36, Q37, Q38, Q39, Q40, Q41, Q42, Q43, Q44, Q45, Q46, Q47, Q48, Q49, Q50, Q51, Q52, Q53, Q54, Q55, Q56, Q57, Q58, Q59, Q60, Q61, Q62, Q63, Q64, Q65, Q66, Q67, Q68, Q69, Q70, Q71, Q72, Q73, Q99, Q100, Q101, Q102, Q103, Q74, Q75, Q77, Q78, Q79, Q80, Q81, Q82, Q83, Q84, clr, List.length_nil, List.length_cons, List.getElem?_cons_zero, List.getElem?_cons_succ, Nat.reduceAdd, Nat.zero_add, Nat.add_zero, Nat.reduceLeDiff, Nat.reduceSub, ↓reduceIte, List.drop_succ_cons, List.drop_zero, List.take_succ_cons, List.take_zero, Bool.false_eq_true, List.nil_append, List.cons_append, Bool.not_true, Bool.not_false, cond_true, cond_false, bne, Q85, Q86, Q87, Q88, Q89, Q90, Q91, Q92, Q93, Q94, Q95, Q96, Q97, Q98, Q110, Q111, Q116, Q117, Q118, Q119, Q120, Q121, Q122, Q123, Option.map_some, Option.map_none, Q34]
  | false =>
  obtain ⟨hl2, _⟩ := hbl rfl
  cases hz : ((l.length : Int) == 0) with
  | true =>
    refine callW_pure (c := c4) rfl rfl 0 ?_
    simp only [c4, start, List.replicate, c4_0, c4_1, c4_2, c4_3, hlive, hbg, s1, sN, q1, hz, Q122, Q0, Q1, Q2, Q3, Q4, Q5, Q6, Q7, Q8, Q9, Q10, Q11, Q12, Q13, Q14, Q15, Q16, Q17, Q18, Q19, Q20, Q21, Q22, Q23, Q24, Q25, Q26, Q27, Q28, Q29, Q30, Q31, Q32, Q33, Q35, Q36, Q37, Q38, Q39, Q40, Q41, Q42, Q43, Q44, Q45, Q46, Q47, Q48, Q49, Q50, Q51, Q52, Q53, Q54, Q55, Q56, Q57, Q58, Q59, Q60, Q61, Q62, Q63, Q64, Q65, Q66, Q67, Q68, Q69, Q70, Q71, Q72, Q73, Q99, Q100, Q101, Q102, Q103, Q74, Q75, Q77, Q78, Q79, Q80, Q81, Q82, Q83, Q84, clr, List.length_nil, List.length_cons, List.getElem?_cons_zero, List.getElem?_cons_succ, Nat.reduceAdd, Nat.zero_add, Nat.add_zero, Nat.reduceLeDiff, Nat.reduceSub, ↓reduceIte, List.drop_succ_cons, List.drop_zero, List.take_succ_cons, List.take_zero, Bool.false_eq_true, List.nil_append, List.cons_append, Bool.not_true, Bool.not_false, cond_true, cond_false, bne, Q85, Q86, Q87, Q88, Q89, Q90, Q91, Q92, Q93, Q94, Q95, Q96, Q97, Q98, Q110, Q111, Q116, Q117, Q118, Q119, Q120, Q121, Q122, Q123, Option.map_some, Option.map_none, Q34]
  | false =>
  have hpos : 0 < l.length := by have := ne_of_beq_false hz; omega
  have hlp : (0 : Int) < (l.length : Int) := by omega
  have t1 : by_.tmod (l.length : Int) < (l.length : Int) := Int.tmod_lt_of_pos _ hlp
  have t2 : -(l.length : Int) < by_.tmod (l.length : Int) := Int.lt_tmod_of_pos _ hlp
  have hk1 : IntKind.i64.wrap (by_.tmod (l.length : Int) + (l.length : Int)) = by_.tmod (l.length : Int) + (l.length : Int) := wrap_i64 (by omega) (by omega)
  obtain ⟨k, hk⟩ := Int.eq_ofNat_of_zero_le (Int.tmod_nonneg (l.length : Int) (show 0 ≤ by_.tmod (l.length : Int) + (l.length : Int) by omega))
  have hkl : k < l.length := by
    have := Int.tmod_lt_of_pos (by_.tmod (l.length : Int) + (l.length : Int)) hlp
    rw [hk] at this; omega
  have hz0 : ((l.length : Int) = 0) = False := eq_false (by omega)
  obtain ⟨a, b, al, bl, ha, hb, oa, ob, sa, sb, hle, lp⟩ := orders_loop (K := l.length + 1) hs hl2 hkl (by omega) [s, .v (.int .i64 by_), .v (.bool false), .v (.bool true), .v (.slice none 0 0), .v (.slice none 0 0), .v (.int .i64 0), .v (.int .i64 k), .v undef, .v undef, .v undef, .v undef, .v undef, .v undef, .v (.bool false), .v (.int .i64 l.length), .v (.int .i64 0), .v undef, .v undef, .v undef, .v undef, .v undef, .v undef, .v undef, .v undef] rfl
  have he := labs_same al bl oa ob (fun z => (sa z).trans (sb z).symm)
  have hlen : al.length = bl.length := by have := congrArg List.length he; simpa using this
  have oA := ordered_ok ha
  rw [oa] at oA
  have qA := fun H => ha.len H
  have qB := fun H => hb.len H
  have sA := fun H => ha.sn H
  have b1 : ((al.length : Int) == (al.length : Int)) = true := by simp
  have b2 : ((bl.length : Int) == (al.length : Int)) = true := by rw [hlen]; simp
  have lp2 := orders_loop2 (K := l.length + 1) ha hb he (by omega) [s, .junk, .junk, .v (.bool true), a, b, .v (.int .i64 al.length), .v (.int .i64 k), .junk, .junk, .junk, .junk, .junk, .junk, .junk, .v (.int .i64 l.length), .v (.int .i64 l.length), .v (.bool false), .junk, .junk, .v (.bool false), .v (.int .i64 al.length), .v (.int .i64 0), .junk, .junk] rfl
  simp only [V4] at lp
  simp only [V4b] at lp2
  refine callW_pure (c := c4) rfl rfl (l.length + 1) ?_
  rw [show c4.body = (.seq (.region [] [] c4_0) (.seq (.region [] [] c4_1) (.seq (.seq (.region [] [] c4_2) (.cond (.var 14) (.seq (.region [] [] c4_3) .ret) .skip)) (.seq (.region [] [] c4_4) (.seq (.region [] [] c4_5) (.seq (.region [] [] c4_6) (.seq (.region [] [] c4_7) (.seq (.seq (.region [] [] c4_8) (.block 0 (.loop K4 [] c4_19))) (.seq (.seq (.region [] [] c4_20) (.cond (.var 20) (.seq (.region [] [] c4_21) .ret) .skip)) (.seq (.seq (.region [] [] c4_22) (.block 2 (.loop K4b [] c4_28))) (.seq (.region [] [] c4_29) .ret))))))))))) from rfl]
  generalize c4_19 = bb at lp ⊢
  generalize c4_28 = bb2 at lp2 ⊢
  simp only [c4, start, List.replicate, c4_0, c4_1, c4_2, c4_4, c4_5, c4_6, c4_7, c4_8, c4_20, c4_22, c4_29, hlive, hbg, s1, sN, q1, hz, hz0, hk1, hk, if_false, lp, qA, qB, sA, oA, b1, b2, lp2, Q122, Q0, Q1, Q2, Q3, Q4, Q5, Q6, Q7, Q8, Q9, Q10, Q11, Q12, Q13, Q14, Q15, Q16, Q17, Q18, Q19, Q20, Q21, Q22, Q23, Q24, Q25, Q26, Q27, Q28, Q29, Q30, Q31, Q32, Q33, Q35, Q36, Q37, Q38, Q39, Q40, Q41, Q42, Q43, Q44, Q45, Q46, Q47, Q48, Q49, Q50, Q51, Q52, Q53, Q54, Q55, Q56, Q57, Q58, Q59, Q60, Q61, Q62, Q63, Q64, Q65, Q66, Q67, Q68, Q69, Q70, Q71, Q72, Q73, Q99, Q100, Q101, Q102, Q103, Q74, Q75, Q77, Q78, Q79, Q80, Q81, Q82, Q83, Q84, clr, List.length_nil, List.length_cons, List.getElem?_cons_zero, List.getElem?_cons_succ, Nat.reduceAdd, Nat.zero_add, Nat.add_zero, Nat.reduceLeDiff, Nat.reduceSub, ↓reduceIte, List.drop_succ_cons, List.drop_zero, List.take_succ_cons, List.take_zero, Bool.false_eq_true, List.nil_append, List.cons_append, Bool.not_true, Bool.not_false, cond_true, cond_false, bne, Q85, Q86, Q87, Q88, Q89, Q90, Q91, Q92, Q93, Q94, Q95, Q96, Q97, Q98, Q110, Q111, Q116, Q117, Q118, Q119, Q120, Q121, Q122, Q123, Option.map_some, Option.map_none, Q34]
end Go.AE.Ytkdjdhfoodlnfaa
end

/-! What comes in, out of its types. -/
section
set_option linter.unusedVariables false
namespace Go.AE.Ytkdjdhfoodlnfaa
open Go Go.AE Go.Proofs.Ytkdjdhfoodlnfaa
theorem tmTy : TmTy T 3 9 2 66 24 := ⟨⟨_, rfl, rfl⟩, ⟨_, rfl, rfl⟩, ⟨_, rfl, rfl⟩, ⟨_, _, _, _, _, rfl, rfl, rfl, rfl, rfl, rfl, rfl, rfl⟩, ⟨_, rfl, rfl⟩⟩
theorem iv_of : ∀ {es : List AV} {l : List Int}, AllR IsI es l → es = l.map iv
  | _, _, .nil => rfl
  | _, _, .cons a x es l h hs => by rw [List.map_cons, ← iv_of hs, show a = iv x from h]
theorem wt_ns {cs : List AV} (w : WT T 23 cs) : ∃ c l, cs = [c] ∧ Ns c l := by
  obtain ⟨c, l, h, es, hs, ha, hm⟩ := wt_ints (t := 23) (e := 3) (i := ti23) (j := ti3) rfl rfl rfl rfl rfl rfl w
  have := iv_of ha
  subst this
  exact ⟨c, l, h, hs, by simpa using hm⟩
theorem wt_en {cs : List AV} (w : WT T 29 cs) : ∃ x, IsEn (.agg cs) x := by
  obtain ⟨a, b, rfl, w0, w1⟩ := wt_struct2 (i := ti29) rfl rfl w
  obtain ⟨c, lab, rfl, hc⟩ := wt_ns w0
  obtain ⟨k, t, e, rfl, w2, w3, w4⟩ := wt_struct3 (t := 27) (i := ti27) rfl rfl w1
  obtain ⟨n, rfl, _⟩ := wt_int_of (t := 3) (i := ti3) (k := .i64) rfl rfl w2
  obtain ⟨d, ts, rfl, hd⟩ := tmTy.terms w3
  obtain ⟨m, rfl, _⟩ := wt_int_of (t := 25) (i := ti25) (k := .i64) rfl rfl w4
  exact ⟨_, .mk c lab hc n d ts hd m⟩
theorem log_in {a : AV} (w : WT T 22 a.cells) (e : Q77 ti22.agg a.cells = some a) : ∃ l, Lg a l := by
  rcases wt_slice_of (t := 22) (e := 29) (i := ti22) (j := ti29) rfl rfl rfl w with h | ⟨l, h, hl, hel, has⟩
  · rw [one_cell e h]; exact ⟨[], [], .nil, .nil, by simp⟩
  · rw [one_cell e h]
    obtain ⟨xs, hxs⟩ := allR_of (R := IsEn) (l := l) (fun el hm => by
      obtain ⟨x, hx⟩ := wt_en (hel el hm)
      have := has el hm
      rw [← agg_cells this] at hx
      exact ⟨x, hx⟩)
    exact ⟨xs, l, .slc _ _ _, hxs, hl⟩
theorem ent_in {a : AV} (w : WT T 29 a.cells) (e : Q77 ti29.agg a.cells = some a) : ∃ x, IsEn a x := by
  obtain ⟨x, hx⟩ := wt_en w
  rw [agg_cells e]; exact ⟨x, hx⟩
theorem ns_in {a : AV} (w : WT T 23 a.cells) (e : Q77 ti23.agg a.cells = some a) : ∃ l, Ns a l := by
  obtain ⟨c, l, h, hl⟩ := wt_ns w
  rw [one_cell e h]; exact ⟨l, hl⟩
theorem nss_in {a : AV} (w : WT T 39 a.cells) (e : Q77 ti39.agg a.cells = some a) : ∃ l, Nss a l := by
  rcases wt_slice_of (t := 39) (e := 23) (i := ti39) (j := ti23) rfl rfl rfl w with h | ⟨l, h, hl, hel, has⟩
  · rw [one_cell e h]; exact ⟨[], [], .nil, .nil, by simp⟩
  · rw [one_cell e h]
    obtain ⟨xs, hxs⟩ := allR_of (R := Ns) (l := l) (fun el hm => ns_in (hel el hm) (has el hm))
    exact ⟨xs, l, .slc _ _ _, hxs, hl⟩
theorem int_in {a : AV} (w : WT T 3 a.cells) (e : Q77 ti3.agg a.cells = some a) : ∃ n : Int, a = .v (.int .i64 n) ∧ (Lit.int .i64 n).wf = true := by
  obtain ⟨n, h, hn⟩ := wt_int_of (t := 3) (i := ti3) (k := .i64) rfl rfl w
  exact ⟨n, one_cell e h, hn⟩
end Go.AE.Ytkdjdhfoodlnfaa
end
