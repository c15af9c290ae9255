/- Texts of this claim, put together. -/
import Derived.Test.YtkdjdhfoodlnfaaPart1
import Derived.Test.YtkdjdhfoodlnfaaEval3
import Derived.Test.YtkdjdhfoodlnfaaEval4
/-! Ready, Drop, Put, big: walked. -/
section
set_option linter.unusedVariables false
set_option linter.unusedSimpArgs false
namespace Go.AE.Ytkdjdhfoodlnfaa
open Go Go.AE Go.Proofs.Ytkdjdhfoodlnfaa

theorem first_at {α : Type} {R : AV → α → Prop} {p : AV → Bool} {q : α → Bool} (hpq : ∀ a x, R a x → p a = q x) : ∀ {es : List AV} {l : List α}, AllR R es l → ∀ (k : Nat),
    firstAt p es k = if (l.takeWhile (fun x => !q x)).length < l.length then ((k + (l.takeWhile (fun x => !q x)).length : Nat) : Int) else -1
  | _, _, .nil, k => by simp [firstAt]
  | _, _, .cons a x es l h hs, k => by
    rw [firstAt, hpq a x h, List.takeWhile_cons]
    cases hq : q x with
    | true => simp
    | false =>
      rw [if_neg (by simp), first_at hpq hs (k + 1)]
      simp only [Bool.not_false, if_true, List.length_cons, Nat.add_lt_add_iff_right]
      split
      · congr 1; omega
      · rfl
theorem filter_R {α : Type} {R : AV → α → Prop} {p : AV → Bool} {q : α → Bool} (hpq : ∀ a x, R a x → p a = q x) : ∀ {es : List AV} {l : List α}, AllR R es l → AllR R (es.filter p) (l.filter q)
  | _, _, .nil => .nil
  | _, _, .cons a x es l h hs => by
    rw [List.filter_cons, List.filter_cons, hpq a x h]
    cases q x with
    | true => exact .cons _ _ _ _ h (filter_R hpq hs)
    | false => exact filter_R hpq hs
theorem Ns.bel {t : TypeId} {c : AV} {x : List Int} (h : Ns c x) (n : Nat) : AO.below n (.box t [c]) = true := by
  obtain ⟨hs, _⟩ := h
  generalize x.map iv = es at hs
  cases hs <;> rfl
theorem IsEn.elm {a : AV} {x : En} (h : IsEn a x) : El true 4 a := by
  have cl := h.cl
  cases h with
  | mk c lab hc k d ts hd e =>
    obtain ⟨hs, _⟩ := hc
    generalize lab.map iv = es at hs
    cases hs <;> cases hd <;> exact ⟨rfl, rfl, fun _ => rfl, cl, rfl, rfl⟩
theorem Lg.elm {es : List AV} {l : List En} (h : AllR IsEn es l) : ∀ e ∈ es, El true 4 e := by
  intro e he
  obtain ⟨x, _, hx⟩ := h.mem e he
  exact hx.elm
def ansB : Option (AV × List AO) → Bool
  | some (.v (.bool b), _) => b
  | _ => false
def readyL (l : List En) : List (List Int) → Nat
  | [] => l.length
  | o :: ll => (l.takeWhile (fun x => decide (cmpL x.lab (leastL o ll) < 0))).length
theorem ready_ok {c d : AV} {l : List En} {op : List (List Int)} (hc : Lg c l) (hd : Nss d op) : callW F 15 [c, d] [] = some (.v (.int .i64 (readyL l op)), []) := by
  have q1 := fun H => hc.len H
  have q2 := fun H => hd.len H
  cases op with
  | nil =>
    refine callW_pure (c := c15) rfl rfl 0 ?_
    have z : ((([] : List (List Int)).length : Int) == 0) = true := rfl
    generalize ([] : List (List Int)).length = n0 at q2 z
    simp only [c15, start, List.replicate, c15_0, c15_1, c15_2, q1, q2, z, readyL, Q0, Q1, Q2, Q3, Q4, Q5, Q6, Q7, Q8, Q9, Q10, Q11, Q12, Q13, Q14, Q15, Q16, Q17, Q18, Q19, Q20, Q21, Q22, Q23, Q24, Q25, Q26, Q27, Q28, Q29, Q30, Q31, Q32, Q33, Q35, Q36, Q37, Q38, Q39, Q40, Q41, Q42, Q43, Q44, Q45, Q46, Q47, Q48, Q49, Q50, Q51, Q52, Q53, Q54, Q55, Q56, Q57, Q58, Q59, Q60, Q61, Q62, Q63, Q64, Q65, Q66, Q67, Q68, Q69, Q70, Q71, Q72, Q73, Q99, Q100, Q101, Q102, Q103, Q74, Q75, Q77, Q78, Q79, Q80, Q81, Q82, Q83, Q84, clr, List.length_nil, List.length_cons, List.getElem?_cons_zero, List.getElem?_cons_succ, Nat.reduceAdd, Nat.zero_add, Nat.add_zero, Nat.reduceLeDiff, Nat.reduceSub, ↓reduceIte, List.drop_succ_cons, List.drop_zero, List.take_succ_cons, List.take_zero, Bool.false_eq_true, List.nil_append, List.cons_append, Bool.not_true, Bool.not_false, cond_true, cond_false, bne, Q85, Q86, Q87, Q88, Q89, Q90, Q91, Q92, Q93, Q94, Q95, Q96, Q97, Q98, Q110, Q111, Q116, Q117, Q118, Q119, Q120, Q121, Q122, Q123, Option.map_some, Option.map_none, Q34]
  | cons o ll =>
    obtain ⟨r, hr, h29⟩ := least1_ok hd
    have z : (((o :: ll).length : Int) == 0) = false := by simp; omega
    have cr := Ns.cl1 hr
    obtain ⟨es, hs, ha, hm⟩ := hc
    have hb : ([.box 23 [r]] : List AO).all (AO.below ([.box 23 [r]] : List AO).length) = true := by simp only [List.all_cons, List.all_nil, hr.bel, Bool.and_true]
    let p : AV → Bool := fun a => ansB (callW F 31 [a, .ptr 0 0] [.box 23 [r]])
    have hp : ∀ a x, IsEn a x → p a = decide (cmpL x.lab (leastL o ll) ≥ 0) := by
      intro a x h
      simp only [p, least_ok h hr (H := [.box 23 [r]]) (i := 0) rfl hb, ansB]
    have hi := index_run (F := F) (fi := 30) (g := 31) (agg := true) (sz := 4) (first := []) (cap := [.ptr 0 0]) (p := p) (H := [.box 23 [r]]) (s := c) (l := es) rfl hb (Rd.sl hs (Lg.elm ha)) hm (by
      intro a ha'
      obtain ⟨x, _, hx⟩ := ha.mem a ha'
      rw [hp a x hx]
      exact least_ok hx hr rfl hb)
    rw [first_at hp ha 0] at hi
    have tw : (fun x : En => !decide (cmpL x.lab (leastL o ll) ≥ 0)) = (fun x : En => decide (cmpL x.lab (leastL o ll) < 0)) := by
      funext x
      by_cases h : cmpL x.lab (leastL o ll) < 0
      · rw [decide_eq_true h, decide_eq_false (by omega)]; rfl
      · rw [decide_eq_false h, decide_eq_true (by omega)]; rfl
    rw [tw, Nat.zero_add] at hi
    have st : Q113 [.box 23 [.v (.slice none 0 0)]] 1 (.ptr 0 0) r = some [.box 23 [r]] := by
      simp only [Q113, List.getElem?_cons_zero]
      have s1 := hr.sn ([.box 23 [.v (.slice none 0 0)]] : List AO)
      simp only [cr, s1]
      first | rfl | simp [Q112]
    refine callW_pure (c := c15) rfl rfl 0 ?_
    have hle : (l.takeWhile (fun x => decide (cmpL x.lab (leastL o ll) < 0))).length ≤ l.length := (List.takeWhile_sublist _).length_le
    simp only [readyL]
    generalize (l.takeWhile (fun x => decide (cmpL x.lab (leastL o ll) < 0))).length = n at hi hle
    generalize (o :: ll).length = n1 at q2 z
    by_cases hn : n < l.length
    · rw [if_pos hn] at hi
      have z2 : decide ((n : Int) < 0) = false := decide_eq_false (by omega)
      simp only [c15, start, List.replicate, c15_0, c15_1, c15_3, c15_4, c15_5, c15_7, q1, q2, z, Q121, g_fnk, h29, Q34, st, e_mkfn, List.map_cons, List.map_nil, hi, z2, Q0, Q1, Q2, Q3, Q4, Q5, Q6, Q7, Q8, Q9, Q10, Q11, Q12, Q13, Q14, Q15, Q16, Q17, Q18, Q19, Q20, Q21, Q22, Q23, Q24, Q25, Q26, Q27, Q28, Q29, Q30, Q31, Q32, Q33, Q35, Q36, Q37, Q38, Q39, Q40, Q41, Q42, Q43, Q44, Q45, Q46, Q47, Q48, Q49, Q50, Q51, Q52, Q53, Q54, Q55, Q56, Q57, Q58, Q59, Q60, Q61, Q62, Q63, Q64, Q65, Q66, Q67, Q68, Q69, Q70, Q71, Q72, Q73, Q99, Q100, Q101, Q102, Q103, Q74, Q75, Q77, Q78, Q79, Q80, Q81, Q82, Q83, Q84, clr, List.length_nil, List.length_cons, List.getElem?_cons_zero, List.getElem?_cons_succ, Nat.reduceAdd, Nat.zero_add, Nat.add_zero, Nat.reduceLeDiff, Nat.reduceSub, ↓reduceIte, List.drop_succ_cons, List.drop_zero, List.take_succ_cons, List.take_zero, Bool.false_eq_true, List.nil_append, List.cons_append, Bool.not_true, Bool.not_false, cond_true, cond_false, bne, Q85, Q86, Q87, Q88, Q89, Q90, Q91, Q92, Q93, Q94, Q95, Q96, Q97, Q98, Q110, Q111, Q116, Q117, Q118, Q119, Q120, Q121, Q122, Q123, Option.map_some, Option.map_none, Q34]
    · rw [if_neg hn] at hi
      have hnl : n = l.length := by omega
      have z2 : decide ((-1 : Int) < 0) = true := rfl
      subst hnl
      simp only [c15, start, List.replicate, c15_0, c15_1, c15_3, c15_4, c15_5, c15_6, q1, q2, z, Q121, g_fnk, h29, Q34, st, e_mkfn, List.map_cons, List.map_nil, hi, z2, Q0, Q1, Q2, Q3, Q4, Q5, Q6, Q7, Q8, Q9, Q10, Q11, Q12, Q13, Q14, Q15, Q16, Q17, Q18, Q19, Q20, Q21, Q22, Q23, Q24, Q25, Q26, Q27, Q28, Q29, Q30, Q31, Q32, Q33, Q35, Q36, Q37, Q38, Q39, Q40, Q41, Q42, Q43, Q44, Q45, Q46, Q47, Q48, Q49, Q50, Q51, Q52, Q53, Q54, Q55, Q56, Q57, Q58, Q59, Q60, Q61, Q62, Q63, Q64, Q65, Q66, Q67, Q68, Q69, Q70, Q71, Q72, Q73, Q99, Q100, Q101, Q102, Q103, Q74, Q75, Q77, Q78, Q79, Q80, Q81, Q82, Q83, Q84, clr, List.length_nil, List.length_cons, List.getElem?_cons_zero, List.getElem?_cons_succ, Nat.reduceAdd, Nat.zero_add, Nat.add_zero, Nat.reduceLeDiff, Nat.reduceSub, ↓reduceIte, List.drop_succ_cons, List.drop_zero, List.take_succ_cons, List.take_zero, Bool.false_eq_true, List.nil_append, List.cons_append, Bool.not_true, Bool.not_false, cond_true, cond_false, bne, Q85, Q86, Q87, Q88, Q89, Q90, Q91, Q92, Q93, Q94, Q95, Q96, Q97, Q98, Q110, Q111, Q116, Q117, Q118, Q119, Q120, Q121, Q122, Q123, Option.map_some, Option.map_none, Q34]
def dropL (l : List En) (y : List Int) (d : Int) : List En := l.filter (fun x => !prunedL x.lab y d)
end Go.AE.Ytkdjdhfoodlnfaa
end

/-! Put, all of whose objects stay: walked. -/
section
set_option linter.unusedVariables false
set_option linter.unusedSimpArgs false
namespace Go.AE.Ytkdjdhfoodlnfaa
open Go Go.AE Go.Proofs.Ytkdjdhfoodlnfaa

theorem AllR.ins {α : Type} {R : AV → α → Prop} {a : AV} {x : α} (h : R a x) : ∀ {es : List AV} {l : List α}, AllR R es l → ∀ (r : Nat), AllR R (insAt es r a) (l.take r ++ x :: l.drop r)
  | _, _, .nil, r => by simp [insAt]; exact .cons _ _ _ _ h .nil
  | _, _, .cons b y es l hb hs, 0 => by simp [insAt]; exact .cons _ _ _ _ h (.cons _ _ _ _ hb hs)
  | _, _, .cons b y es l hb hs, r + 1 => by
    have := AllR.ins h hs r
    simp only [insAt, List.take_succ_cons, List.drop_succ_cons, List.cons_append] at this ⊢
    exact .cons _ _ _ _ hb this
theorem lvf_own2 {rt : TypeId} {h : List AO} {sz id ver n k : Nat} {l : List AV} {x : Value} (hr : h[id]? = some (.row rt sz ver l k)) (hn : n ≤ l.length) : lvf h (.tup [.own sz id ver 0 n, .v x]) = some (.tup [.slc sz false false (l.take n), .v x], []) := by
  simp [lvf, AV.frz2, AV.frz1, AV.frz0, row_at hr hn]
def lk2 (i j : Nat) : CRun → Option (AV × List AO)
  | some (.ret, vars, h) => some (.tup [getO vars [] (.var i), getO vars [] (.var j)], h)
  | _ => none
theorem lk2_ret {i j : Nat} {vars : List AV} {h : List AO} : lk2 i j (some (.ret, vars, h)) = some (.tup [getO vars [] (.var i), getO vars [] (.var j)], h) := rfl
theorem leave_lk2 {c : CFun} {i j : Nat} (hr : c.res = [.var i, .var j]) {run : CRun} {x : AV × List AO} (h : lk2 i j run = some x) : leaveKeep c run = some x := by
  unfold lk2 at h
  split at h
  · rename_i vars h'
    cases h
    simp only [leaveKeep, hr, List.mapM_cons, List.mapM_nil, resOf, Option.pure_def, Option.bind_eq_bind, Option.bind_some, Option.map_some, pack]
    rfl
  · cases h
theorem keep11 {s s' a r : AV} {k : List AO} (h : lk2 4 5 (exec (callW F) 0 c11.body (start c11 [s, a]) []) = some (r, k)) (h1 : r.ok2 = true) (h2 : k.all AO.ok = true) {H : List AO} (hs : s'.snap1 H = some s) (ha : a.snap1 H = some a) :
    callW F 11 [s', a] H = some (r.sh2 H.length, H ++ k.map (AO.sh H.length)) :=
  callW_pk (c := c11) rfl (show [s', a].mapM (AV.snap1 H) = some [s, a] from by simp [hs, ha]) rfl 0 (leave_lk2 rfl h) h1 h2
theorem Sl.sh {sz : Nat} {c : AV} {es : List AV} (h : Sl sz c es) (n : Nat) : c.sh1 n = c ∧ c.ok1 = true := by cases h <;> exact ⟨rfl, rfl⟩
theorem Ns.sh {c : AV} {x : List Int} (h : Ns c x) (n : Nat) : c.sh1 n = c ∧ c.ok1 = true := Sl.sh h.1 n
theorem IsL.sh {c : AV} {x : List Tm} (h : IsL c x) (n : Nat) : c.sh1 n = c ∧ c.ok1 = true := by cases h <;> exact ⟨rfl, rfl⟩
theorem sh2_tup {vs : List AV} (n : Nat) : (AV.tup vs).sh2 n = .tup (vs.map (AV.sh1 n)) := rfl
theorem sh1_own {sz id ver off m : Nat} (n : Nat) : (AV.own sz id ver off m).sh1 n = .own sz (n + id) ver off m := rfl
theorem sh1_v {x : Value} (n : Nat) : (AV.v x).sh1 n = .v x := rfl
theorem sh_box {t : TypeId} {cs : List AV} (n : Nat) : AO.sh n (.box t cs) = .box t (cs.map (AV.sh1 n)) := rfl
theorem sh_row {t : TypeId} {sz v k : Nat} {l : List AV} (n : Nat) : AO.sh n (.row t sz v l k) = .row t sz v l k := rfl
theorem int_sh {k : IntKind} {x : Int} (n : Nat) : (AV.v (.int k x)).sh1 n = .v (.int k x) ∧ (AV.v (.int k x)).ok1 = true := ⟨rfl, rfl⟩
theorem put_ok {s a : AV} {l : List En} {x : En} (hs : Lg s l) (hl : l.length ≤ 900000) (ho : ordL l = true) (ha : IsEn a x) :
    (putL l x = none ∧ ∀ s' H, s'.snap1 H = some s → callW F 11 [s', a] H = some (.tup [.v (.slice none 0 0), .v (.int .i64 1)], H ++ [.box 22 [s], .box 29 a.cells])) ∨
    (∃ m v L, putL l x = some m ∧ AllR IsEn L m ∧ ∀ s' H, s'.snap1 H = some s → callW F 11 [s', a] H = some (.tup [.own 4 (H.length + 2) v 0 L.length, .v (.int .i64 0)], H ++ [.box 22 [s], .box 29 a.cells, .row 29 4 v L 0])) := by
  have cl := ha.cl
  have hel := ha.elm
  have q1 := fun H => hs.len H
  have hs' := hs
  obtain ⟨es, hsl, hae, hm⟩ := hs
  have hen : es.length = l.length := hae.length
  cases ha with
  | mk c1 lab hc k dd ts hd e =>
  simp only [AV.cells] at cl
  have hsc := hsl.cl
  have hbs : ∀ n, AO.below n (.box 22 [s]) = true := fun n => by cases hsl <;> rfl
  have hbe : ∀ n, AO.below n (.box 29 [c1, .v (.int .i64 k), dd, .v (.int .i64 e)]) = true := fun n => below_mono (Nat.zero_le n) _ hel.bel
  let H0 : List AO := [.box 22 [s], .box 29 [c1, .v (.int .i64 k), dd, .v (.int .i64 e)]]
  have hb : H0.all (AO.below H0.length) = true := by simp only [H0, List.all_cons, List.all_nil, hbs, hbe, Bool.and_true]
  let p : Nat → Bool := fun j => if h : j < l.length then decide (cmpL l[j].lab lab ≥ 0) else true
  have pe : ∀ j (h : j < l.length), p j = decide (cmpL l[j].lab lab ≥ 0) := fun j h => by simp only [p]; rw [dif_pos h]
  obtain ⟨r, h23, hr, r1, r2⟩ := search_ok (g := 24) (first := []) (cap := [.ptr 0 0, .ptr 1 0]) (H := H0) (n := l.length) (p := p) hb (by omega) (by
    intro j hj
    rw [pe j hj]
    exact find_ok hs' hc rfl rfl hb hj) (by
    intro i j hij hj h
    rw [pe i (by omega), decide_eq_true_eq] at h
    rw [pe j hj, decide_eq_true_eq]
    rcases Nat.lt_or_eq_of_le hij with h1 | rfl
    · have := ord_at ho h1 hj
      have h2 := cmp_le_lt (x := lab) (y := l[i].lab) (z := l[j].lab) (by rw [cmp_anti]; omega) this
      rw [cmp_anti]; omega
    · exact h)
  have hput := put_at l ⟨lab, k, ts, e⟩ r hr (by
    intro j hj hjr
    have := r1 j hjr
    rw [pe j hj, decide_eq_false_iff_not] at this
    simp only; omega) (by
    intro h
    have := r2 h
    rw [pe r h, decide_eq_true_eq] at this
    exact this)
  simp only [H0, List.nil_append] at h23
  have l0 : ∀ G, Q76 (.box 22 [s] :: G) false 1 (.ptr 0 0) = some s := fun _ => rfl
  have l1 : ∀ x G, Q76 (x :: .box 29 [c1, .v (.int .i64 k), dd, .v (.int .i64 e)] :: G) false 1 (.ptr 1 0) = some c1 := fun _ _ => rfl
  have l4 : ∀ x G, Q76 (x :: .box 29 [c1, .v (.int .i64 k), dd, .v (.int .i64 e)] :: G) true 4 (.ptr 1 0) = some (.agg [c1, .v (.int .i64 k), dd, .v (.int .i64 e)]) := fun _ _ => rfl
  have s2 := fun H => hc.sn H
  have sn := hel.snap
  have lt2 : ∀ h, lvf h (.tup [.v (.slice none 0 0), .v (.int .i64 1)]) = some (.tup [.v (.slice none 0 0), .v (.int .i64 1)], []) := fun _ => rfl
  have lt1 : ∀ h (l : List AV), lvf h (.tup [.slc 4 false false l, .v (.int .i64 0)]) = some (.tup [.slc 4 false false l, .v (.int .i64 0)], []) := fun _ _ => rfl
  have hbx : bx [] 22 (some [s]) = some (.ptr 0 0, [.box 22 [s]]) := rfl
  -- the last step
  have ins : ∃ v L, AllR IsEn L (l.take r ++ (⟨lab, k, ts, e⟩ : En) :: l.drop r) ∧
      lk2 4 5 (exec (callW F) 0 (.seq (.region [] [] c11_4) .ret) [s, .agg [c1, .v (.int .i64 k), dd, .v (.int .i64 e)], .ptr 0 0, .ptr 1 0, .v (.slice none 0 0), .v (.int .i64 0), .v (.int .i64 r), .v (.bool false)] [.box 22 [s], .box 29 [c1, .v (.int .i64 k), dd, .v (.int .i64 e)]]) = some (.tup [.own 4 2 v 0 L.length, .v (.int .i64 0)], [.box 22 [s], .box 29 [c1, .v (.int .i64 k), dd, .v (.int .i64 e)], .row 29 4 v L 0]) := by
    have hcl := clone_call (F' := F) (f := 27) (rt := 29) (sz := 4) (bytes := 64) rfl (hsl.elems [.box 22 [s], .box 29 [c1, .v (.int .i64 k), dd, .v (.int .i64 e)]]) (fits_small (by omega) (by omega))
    have hins := AllR.ins (R := IsEn) (.mk c1 lab hc k dd ts hd e) hae r
    have hil : (insAt es r (.agg [c1, .v (.int .i64 k), dd, .v (.int .i64 e)])).length = l.length + 1 := by rw [insAt_len (by omega), hen]
    cases es with
    | nil =>
      have hl0 : l.length = 0 := by rw [← hen]; rfl
      have hr0 : r = 0 := by omega
      subst hr0
      simp only [cloneR] at hcl
      have h26 : ∀ ex nn, callW F 26 [.slc 4 true false [], .v (.int .i64 0), .slc 4 ex nn [.agg [c1, .v (.int .i64 k), dd, .v (.int .i64 e)]]] [.box 22 [s], .box 29 [c1, .v (.int .i64 k), dd, .v (.int .i64 e)]] = some (.own 4 2 0 0 1, [.box 22 [s], .box 29 [c1, .v (.int .i64 k), dd, .v (.int .i64 e)], .row 29 4 0 [.agg [c1, .v (.int .i64 k), dd, .v (.int .i64 e)]] 0]) := by
        intro ex nn
        refine callW_oracle (g := insG 29 4 64) rfl ?_
        have : fits 1 64 = true := fits_small (by omega) (by omega)
        simp [insG, this]
      have lf := lvf_own2 (x := .int .i64 0) (h := [.box 22 [s], .box 29 [c1, .v (.int .i64 k), dd, .v (.int .i64 e)], .row 29 4 0 [.agg [c1, .v (.int .i64 k), dd, .v (.int .i64 e)]] 0]) (rt := 29) (sz := 4) (ver := 0) (k := 0) (id := 2) (n := 1) (l := [.agg [c1, .v (.int .i64 k), dd, .v (.int .i64 e)]]) rfl (by simp)
      simp only [List.take_succ_cons, List.take_zero] at lf
      refine ⟨0, [.agg [c1, .v (.int .i64 k), dd, .v (.int .i64 e)]], hins, ?_⟩
      have z0 : ((0 : Nat) : Int) = 0 := rfl
      have hres : c11.res = [.var 4, .var 5] := rfl
      rw [z0]
      simp only [c11_4, l0, l4, e_callh, List.map_cons, List.map_nil, hcl, sn, cl, if_true, h26, lk2_ret, Q104, Q105, bs1, bs2, Q106, Q107, Q108, Q109, bd1, Q110, Q111, toL, List.map_cons, List.map_nil, Q112, List.set_cons_zero, List.set_cons_succ, and_self, Nat.le_refl, Q114, Q115, Q116, Q0, Q1, Q2, Q3, Q4, Q5, Q6, Q7, Q8, Q9, Q10, Q11, Q12, Q13, Q14, Q15, Q16, Q17, Q18, Q19, Q20, Q21, Q22, Q23, Q24, Q25, Q26, Q27, Q28, Q29, Q30, Q31, Q32, Q33, Q35, Q36, Q37, Q38, Q39, Q40, Q41, Q42, Q43, Q44, Q45, Q46, Q47, Q48, Q49, Q50, Q51, Q52, Q53, Q54, Q55, Q56, Q57, Q58, Q59, Q60, Q61, Q62, Q63, Q64, Q65, Q66, Q67, Q68, Q69, Q70, Q71, Q72, Q73, Q99, Q100, Q101, Q102, Q103, Q74, Q75, Q77, Q78, Q79, Q80, Q81, Q82, Q83, Q84, clr, List.length_nil, List.length_cons, List.getElem?_cons_zero, List.getElem?_cons_succ, Nat.reduceAdd, Nat.zero_add, Nat.add_zero, Nat.reduceLeDiff, Nat.reduceSub, ↓reduceIte, List.drop_succ_cons, List.drop_zero, List.take_succ_cons, List.take_zero, Bool.false_eq_true, List.nil_append, List.cons_append, Bool.not_true, Bool.not_false, cond_true, cond_false, bne, Q85, Q86, Q87, Q88, Q89, Q90, Q91, Q92, Q93, Q94, Q95, Q96, Q97, Q98, Q110, Q111, Q116, Q117, Q118, Q119, Q120, Q121, Q122, Q123, Option.map_some, Option.map_none, Q34]
    | cons e0 es0 =>
      simp only [cloneR] at hcl
      generalize hE : e0 :: es0 = es at *
      have hne : (es0.length + 1) = l.length := by rw [← hen, ← hE]; rfl
      rw [hne] at hcl
      have h26 : ∀ ex nn, callW F 26 [.own 4 2 0 0 l.length, .v (.int .i64 r), .slc 4 ex nn [.agg [c1, .v (.int .i64 k), dd, .v (.int .i64 e)]]] [.box 22 [s], .box 29 [c1, .v (.int .i64 k), dd, .v (.int .i64 e)], .row 29 4 0 es 0] = some (.own 4 2 1 0 (l.length + 1), [.box 22 [s], .box 29 [c1, .v (.int .i64 k), dd, .v (.int .i64 e)], .row 29 4 1 (insAt es r (.agg [c1, .v (.int .i64 k), dd, .v (.int .i64 e)])) 0]) := by
        intro ex nn
        refine callW_oracle (g := insG 29 4 64) rfl ?_
        have hf : fits (l.length + 1) 64 = true := fits_small (by omega) (by omega)
        have a1 : (r : Int) ≤ (l.length : Int) := by omega
        have a2 : 0 < l.length := by omega
        simp [insG, hf, a1, a2, hen]
      have lf := lvf_own2 (x := .int .i64 0) (h := [.box 22 [s], .box 29 [c1, .v (.int .i64 k), dd, .v (.int .i64 e)], .row 29 4 1 (insAt es r (.agg [c1, .v (.int .i64 k), dd, .v (.int .i64 e)])) 0]) (rt := 29) (sz := 4) (ver := 1) (k := 0) (id := 2) (n := l.length + 1) rfl (by omega)
      rw [List.take_of_length_le (by omega)] at lf
      have app : ([.box 22 [s], .box 29 [c1, .v (.int .i64 k), dd, .v (.int .i64 e)]] : List AO) ++ [.row 29 4 0 es 0] = [.box 22 [s], .box 29 [c1, .v (.int .i64 k), dd, .v (.int .i64 e)], .row 29 4 0 es 0] := rfl
      rw [app] at hcl
      simp only [List.length_cons, List.length_nil, Nat.reduceAdd] at hcl
      have hmx : maxLen = 9223372036854775807 := rfl
      refine ⟨1, insAt es r (.agg [c1, .v (.int .i64 k), dd, .v (.int .i64 e)]), hins, ?_⟩
      rw [hil]
      have hres : c11.res = [.var 4, .var 5] := rfl
      simp only [c11_4, l0, l4, e_callh, List.map_cons, List.map_nil, hcl, sn, cl, if_true, h26, lk2_ret, Q104, Q105, bs1, bs2, Q106, Q107, Q108, Q109, bd1, Q110, Q111, toL, List.map_cons, List.map_nil, Q112, List.set_cons_zero, List.set_cons_succ, and_self, Nat.le_refl, Q114, Q115, Q116, Q0, Q1, Q2, Q3, Q4, Q5, Q6, Q7, Q8, Q9, Q10, Q11, Q12, Q13, Q14, Q15, Q16, Q17, Q18, Q19, Q20, Q21, Q22, Q23, Q24, Q25, Q26, Q27, Q28, Q29, Q30, Q31, Q32, Q33, Q35, Q36, Q37, Q38, Q39, Q40, Q41, Q42, Q43, Q44, Q45, Q46, Q47, Q48, Q49, Q50, Q51, Q52, Q53, Q54, Q55, Q56, Q57, Q58, Q59, Q60, Q61, Q62, Q63, Q64, Q65, Q66, Q67, Q68, Q69, Q70, Q71, Q72, Q73, Q99, Q100, Q101, Q102, Q103, Q74, Q75, Q77, Q78, Q79, Q80, Q81, Q82, Q83, Q84, clr, List.length_nil, List.length_cons, List.getElem?_cons_zero, List.getElem?_cons_succ, Nat.reduceAdd, Nat.zero_add, Nat.add_zero, Nat.reduceLeDiff, Nat.reduceSub, ↓reduceIte, List.drop_succ_cons, List.drop_zero, List.take_succ_cons, List.take_zero, Bool.false_eq_true, List.nil_append, List.cons_append, Bool.not_true, Bool.not_false, cond_true, cond_false, bne, Q85, Q86, Q87, Q88, Q89, Q90, Q91, Q92, Q93, Q94, Q95, Q96, Q97, Q98, Q110, Q111, Q116, Q117, Q118, Q119, Q120, Q121, Q122, Q123, Option.map_some, Option.map_none, Q34]
  have ca := hs'.sn
  have shs := Sl.sh hsl
  have sh1 := Ns.sh hc
  have shd := IsL.sh hd
  have cel : (AV.agg [c1, .v (.int .i64 k), dd, .v (.int .i64 e)]).cells = [c1, .v (.int .i64 k), dd, .v (.int .i64 e)] := rfl
  have body : c11.body = (.seq (.region [] [] c11_0) (.seq (.region [] [] c11_1) (.seq (.seq (.region [] [] c11_2) (.cond (.var 7) (.seq (.region [] [] c11_3) .ret) .skip)) (.seq (.region [] [] c11_4) .ret)))) := rfl
  have st : start c11 [s, .agg [c1, .v (.int .i64 k), dd, .v (.int .i64 e)]] = [s, .agg [c1, .v (.int .i64 k), dd, .v (.int .i64 e)], .v undef, .v undef, .v undef, .v undef, .v undef, .v undef] := rfl
  have hres : c11.res = [.var 4, .var 5] := rfl
  by_cases hlt : r < l.length
  · have z1 := lt_t hlt
    rw [dif_pos hlt] at hput
    obtain ⟨c2, k2, d2, e2, i1, n1, _⟩ := hs'.at hlt
    have p25 := compare_ok n1 hc
    have s1 := fun H => n1.sn H
    by_cases h0 : cmpL l[r].lab lab = 0
    · rw [if_pos h0] at hput
      have z2 : (cmpL l[r].lab lab == 0) = true := by simpa using h0
      refine .inl ⟨hput, fun s' H hsn => ?_⟩
      have key : lk2 4 5 (exec (callW F) 0 c11.body (start c11 [s, .agg [c1, .v (.int .i64 k), dd, .v (.int .i64 e)]]) []) = some (.tup [.v (.slice none 0 0), .v (.int .i64 1)], [.box 22 [s], .box 29 [c1, .v (.int .i64 k), dd, .v (.int .i64 e)]]) := by
       rw [body, st]
       generalize (CC.seq (.region [] [] c11_4) .ret) = rest
       simp only [c11_0, c11_1, c11_2, c11_3, hsc, cl, l0, l1, q1, e_mkfn, List.map_cons, List.map_nil, Q121, h23, z1, i1, ip_ld, s1, s2, p25, z2, lk2_ret, Q122, Q0, Q1, Q2, Q3, Q4, Q5, Q6, Q7, Q8, Q9, Q10, Q11, Q12, Q13, Q14, Q15, Q16, Q17, Q18, Q19, Q20, Q21, Q22, Q23, Q24, Q25, Q26, Q27, Q28, Q29, Q30, Q31, Q32, Q33, Q35, Q36, Q37, Q38, Q39, Q40, Q41, Q42, Q43, Q44, Q45, Q46, Q47, Q48, Q49, Q50, Q51, Q52, Q53, Q54, Q55, Q56, Q57, Q58, Q59, Q60, Q61, Q62, Q63, Q64, Q65, Q66, Q67, Q68, Q69, Q70, Q71, Q72, Q73, Q99, Q100, Q101, Q102, Q103, Q74, Q75, Q77, Q78, Q79, Q80, Q81, Q82, Q83, Q84, clr, List.length_nil, List.length_cons, List.getElem?_cons_zero, List.getElem?_cons_succ, Nat.reduceAdd, Nat.zero_add, Nat.add_zero, Nat.reduceLeDiff, Nat.reduceSub, ↓reduceIte, List.drop_succ_cons, List.drop_zero, List.take_succ_cons, List.take_zero, Bool.false_eq_true, List.nil_append, List.cons_append, Bool.not_true, Bool.not_false, cond_true, cond_false, bne, Q85, Q86, Q87, Q88, Q89, Q90, Q91, Q92, Q93, Q94, Q95, Q96, Q97, Q98, Q110, Q111, Q116, Q117, Q118, Q119, Q120, Q121, Q122, Q123, Option.map_some, Option.map_none, Q34]
      have hk := keep11 key rfl (by simp only [List.all_cons, List.all_nil, AO.ok, (shs 0).2, (sh1 0).2, (shd 0).2, (int_sh 0).2, Bool.and_true]) hsn (sn H)
      simpa only [sh2_tup, sh1_own, sh1_v, List.map_cons, List.map_nil, sh_box, sh_row, (shs _).1, (sh1 _).1, (shd _).1, cel] using hk
    · rw [if_neg h0] at hput
      have z2 : (cmpL l[r].lab lab == 0) = false := by simpa using h0
      obtain ⟨v, L, g1, g2⟩ := ins
      refine .inr ⟨_, v, L, hput, g1, fun s' H hsn => ?_⟩
      have key : lk2 4 5 (exec (callW F) 0 c11.body (start c11 [s, .agg [c1, .v (.int .i64 k), dd, .v (.int .i64 e)]]) []) = some (.tup [.own 4 2 v 0 L.length, .v (.int .i64 0)], [.box 22 [s], .box 29 [c1, .v (.int .i64 k), dd, .v (.int .i64 e)], .row 29 4 v L 0]) := by
       rw [← g2]
       rw [body, st]
       generalize (CC.seq (.region [] [] c11_4) .ret) = rest
       simp only [c11_0, c11_1, c11_2, hsc, cl, l0, l1, q1, e_mkfn, List.map_cons, List.map_nil, Q121, h23, z1, i1, ip_ld, s1, s2, p25, z2, lt2, Q122, Q0, Q1, Q2, Q3, Q4, Q5, Q6, Q7, Q8, Q9, Q10, Q11, Q12, Q13, Q14, Q15, Q16, Q17, Q18, Q19, Q20, Q21, Q22, Q23, Q24, Q25, Q26, Q27, Q28, Q29, Q30, Q31, Q32, Q33, Q35, Q36, Q37, Q38, Q39, Q40, Q41, Q42, Q43, Q44, Q45, Q46, Q47, Q48, Q49, Q50, Q51, Q52, Q53, Q54, Q55, Q56, Q57, Q58, Q59, Q60, Q61, Q62, Q63, Q64, Q65, Q66, Q67, Q68, Q69, Q70, Q71, Q72, Q73, Q99, Q100, Q101, Q102, Q103, Q74, Q75, Q77, Q78, Q79, Q80, Q81, Q82, Q83, Q84, clr, List.length_nil, List.length_cons, List.getElem?_cons_zero, List.getElem?_cons_succ, Nat.reduceAdd, Nat.zero_add, Nat.add_zero, Nat.reduceLeDiff, Nat.reduceSub, ↓reduceIte, List.drop_succ_cons, List.drop_zero, List.take_succ_cons, List.take_zero, Bool.false_eq_true, List.nil_append, List.cons_append, Bool.not_true, Bool.not_false, cond_true, cond_false, bne, Q85, Q86, Q87, Q88, Q89, Q90, Q91, Q92, Q93, Q94, Q95, Q96, Q97, Q98, Q110, Q111, Q116, Q117, Q118, Q119, Q120, Q121, Q122, Q123, Option.map_some, Option.map_none, Q34]
      have hk := keep11 key rfl (by simp only [List.all_cons, List.all_nil, AO.ok, (shs 0).2, (sh1 0).2, (shd 0).2, (int_sh 0).2, Bool.and_true]) hsn (sn H)
      simpa only [sh2_tup, sh1_own, sh1_v, List.map_cons, List.map_nil, sh_box, sh_row, (shs _).1, (sh1 _).1, (shd _).1, cel] using hk
  · have hrl : r = l.length := by omega
    rw [dif_neg hlt] at hput
    obtain ⟨v, L, g1, g2⟩ := ins
    refine .inr ⟨_, v, L, hput, g1, fun s' H hsn => ?_⟩
    have z1 : decide ((r : Int) < (l.length : Int)) = false := decide_eq_false (by omega)
    have key : lk2 4 5 (exec (callW F) 0 c11.body (start c11 [s, .agg [c1, .v (.int .i64 k), dd, .v (.int .i64 e)]]) []) = some (.tup [.own 4 2 v 0 L.length, .v (.int .i64 0)], [.box 22 [s], .box 29 [c1, .v (.int .i64 k), dd, .v (.int .i64 e)], .row 29 4 v L 0]) := by
     rw [← g2]
     rw [body, st]
     generalize (CC.seq (.region [] [] c11_4) .ret) = rest
     simp only [c11_0, c11_1, c11_2, hsc, cl, l0, l1, q1, e_mkfn, List.map_cons, List.map_nil, Q121, h23, z1, Q122, Q0, Q1, Q2, Q3, Q4, Q5, Q6, Q7, Q8, Q9, Q10, Q11, Q12, Q13, Q14, Q15, Q16, Q17, Q18, Q19, Q20, Q21, Q22, Q23, Q24, Q25, Q26, Q27, Q28, Q29, Q30, Q31, Q32, Q33, Q35, Q36, Q37, Q38, Q39, Q40, Q41, Q42, Q43, Q44, Q45, Q46, Q47, Q48, Q49, Q50, Q51, Q52, Q53, Q54, Q55, Q56, Q57, Q58, Q59, Q60, Q61, Q62, Q63, Q64, Q65, Q66, Q67, Q68, Q69, Q70, Q71, Q72, Q73, Q99, Q100, Q101, Q102, Q103, Q74, Q75, Q77, Q78, Q79, Q80, Q81, Q82, Q83, Q84, clr, List.length_nil, List.length_cons, List.getElem?_cons_zero, List.getElem?_cons_succ, Nat.reduceAdd, Nat.zero_add, Nat.add_zero, Nat.reduceLeDiff, Nat.reduceSub, ↓reduceIte, List.drop_succ_cons, List.drop_zero, List.take_succ_cons, List.take_zero, Bool.false_eq_true, List.nil_append, List.cons_append, Bool.not_true, Bool.not_false, cond_true, cond_false, bne, Q85, Q86, Q87, Q88, Q89, Q90, Q91, Q92, Q93, Q94, Q95, Q96, Q97, Q98, Q110, Q111, Q116, Q117, Q118, Q119, Q120, Q121, Q122, Q123, Option.map_some, Option.map_none, Q34]
    have hk := keep11 key rfl (by simp only [List.all_cons, List.all_nil, AO.ok, (shs 0).2, (sh1 0).2, (shd 0).2, (int_sh 0).2, Bool.and_true]) hsn (sn H)
    simpa only [sh2_tup, sh1_own, sh1_v, List.map_cons, List.map_nil, sh_box, sh_row, (shs _).1, (sh1 _).1, (shd _).1, cel] using hk
end Go.AE.Ytkdjdhfoodlnfaa
end

/-! The examples. -/
section
set_option linter.unusedVariables false
namespace Go.AE.Ytkdjdhfoodlnfaa
open Go Go.AE Go.Proofs.Ytkdjdhfoodlnfaa
set_option maxRecDepth 1000000 in
theorem live_n : callN F 40 8 [] [] = some (.v (.bool true), []) := by kernel_rfl
theorem live_ok : callW F 8 [] [] = some (.v (.bool true), []) := callW_iff.2 ⟨_, live_n⟩
end Go.AE.Ytkdjdhfoodlnfaa
end

/-! Whether a log is too great: walked. -/
section
set_option linter.unusedVariables false
set_option linter.unusedSimpArgs false
namespace Go.AE.Ytkdjdhfoodlnfaa
open Go Go.AE Go.Proofs.Ytkdjdhfoodlnfaa

def K9 : List Bool := [false, true, false, false, false, false, true, true, true, false, false, false, false, false, false, false]
def V9 (c d : AV) (len i : Int) (x9 : AV) : List AV := [.junk, d, .junk, .junk, .junk, .junk, c, .v (.int .i64 len), .v (.int .i64 i), x9, .junk, .junk, .junk, .junk, .junk, .junk]
theorem ip_ld4 {a b c d : AV} (H : List AO) : Q76 H true 4 (.ip [a, b, c, d]) = some (.agg [a, b, c, d]) := rfl
theorem lv1_one {h : List AO} {vars : List AV} {i : Nat} {x : Value} (hx : getO vars [] (.var i) = .v x) : lv [.var i] (some (.ret, vars, h)) = some (.v x, []) := by
  simp only [Q85]
  have h1 : resOf vars h (.var i) = some (.v x) := by rw [← hx]; rfl
  simp only [List.mapM_cons, List.mapM_nil, h1]
  rfl
theorem big_loop {K : Nat} {c d : AV} {l : List En} (hc : Lg c l) (hK : l.length < K) (h : List AO) (v : List AV) (hv : clr K9 v = V9 c d l.length 0 .junk) :
    ∃ e v' h', loopN (exec (callW F) K c9_9) K9 K v h = some (e, v', h') ∧ ((e = .ret ∧ getO v' [] (.var 2) = .v (.bool true)) ∨ (e = .exit 0 ∧ v' = V9 c d l.length l.length (.v (.bool false)))) := by
  obtain ⟨e, v', h', g1, g2, g3⟩ := loop_rule0 (call := callW F) (K := K) (b := c9_9) (keep := K9) (fun i v h' => v = V9 c d l.length i .junk)
    (fun e v h' => ((e = .ret ∧ getO v [] (.var 2) = .v (.bool true)) ∨ (e = .exit 0 ∧ v = V9 c d l.length l.length (.v (.bool false))))) l.length (m := K) (v := v) (h := h) hK hv (by
      rintro i v h' hi rfl
      by_cases hil : i < l.length
      · have hlt := lt_t hil
        have hw := wrap_succ hil hc.max
        obtain ⟨c1, k, dd, e, e1, n1, _, t1, _⟩ := hc.at hil
        have z : (ofVal (.agg #[.slice none 0 0, .int .i64 0, .slice none 0 0, .int .i64 0])).cl = some [.v (.slice none 0 0), .v (.int .i64 0), .v (.slice none 0 0), .v (.int .i64 0)] := by kernel_rfl
        have cl := (IsEn.mk c1 l[i].lab n1 k dd l[i].terms t1 e).cl
        simp only [AV.cells] at cl
        have st : Q113 (h' ++ [.box 29 [.v (.slice none 0 0), .v (.int .i64 0), .v (.slice none 0 0), .v (.int .i64 0)]]) 4 (.ptr h'.length 0) (.agg [c1, .v (.int .i64 k), dd, .v (.int .i64 e)]) = some (h' ++ [.box 29 [c1, .v (.int .i64 k), dd, .v (.int .i64 e)]]) := st_new cl rfl rfl
        have ld0 : Q76 (h' ++ [.box 29 [c1, .v (.int .i64 k), dd, .v (.int .i64 e)]]) false 1 (.ptr h'.length 0) = some c1 := by rw [ld_new]; rfl
        have ld2 : Q76 (h' ++ [.box 29 [c1, .v (.int .i64 k), dd, .v (.int .i64 e)]]) false 1 (.ptr h'.length 2) = some dd := by rw [ld_new]; rfl
        have ln1 := fun H => n1.len H
        have ln2 := fun H => IsL.ln t1 H
        cases hb : decide ((l[i].lab.length : Int) > 100) with
        | true =>
          refine ⟨.ret, [.junk, d, .v (.bool true), .ptr h'.length 0, .junk, .junk, c, .v (.int .i64 l.length), .v (.int .i64 i), .v (.bool true), .v (.bool true), .junk, .junk, .junk, .junk, .junk], h' ++ [.box 29 [c1, .v (.int .i64 k), dd, .v (.int .i64 e)]], ?_, .inl ⟨rfl, rfl⟩⟩
          simp only [V9, c9_9, c9_4, c9_5, c9_6, c9_7, hlt, hw, e1, ip_ld4, z, st, ld0, ld2, ln1, ln2, hb, Q122, Q0, Q1, Q2, Q3, Q4, Q5, Q6, Q7, Q8, Q9, Q10, Q11, Q12, Q13, Q14, Q15, Q16, Q17, Q18, Q19, Q20, Q21, Q22, Q23, Q24, Q25, Q26, Q27, Q28, Q29, Q30, Q31, Q32, Q33, Q35, Q36, Q37, Q38, Q39, Q40, Q41, Q42, Q43, Q44, Q45, Q46, Q47, Q48, Q49, Q50, Q51, Q52, Q53, Q54, Q55, Q56, Q57, Q58, Q59, Q60, Q61, Q62, Q63, Q64, Q65, Q66, Q67, Q68, Q69, Q70, Q71, Q72, Q73, Q99, Q100, Q101, Q102, Q103, Q74, Q75, Q77, Q78, Q79, Q80, Q81, Q82, Q83, Q84, clr, List.length_nil, List.length_cons, List.getElem?_cons_zero, List.getElem?_cons_succ, Nat.reduceAdd, Nat.zero_add, Nat.add_zero, Nat.reduceLeDiff, Nat.reduceSub, ↓reduceIte, List.drop_succ_cons, List.drop_zero, List.take_succ_cons, List.take_zero, Bool.false_eq_true, List.nil_append, List.cons_append, Bool.not_true, Bool.not_false, cond_true, cond_false, bne, Q85, Q86, Q87, Q88, Q89, Q90, Q91, Q92, Q93, Q94, Q95, Q96, Q97, Q98, Q110, Q111, Q116, Q117, Q118, Q119, Q120, Q121, Q122, Q123, Option.map_some, Option.map_none, Q34]
        | false =>
        cases hb2 : decide ((l[i].terms.length : Int) > 0) with
        | false =>
          refine ⟨.normal, [.junk, d, .junk, .ptr h'.length 0, .junk, .junk, c, .v (.int .i64 l.length), .v (.int .i64 ((i + 1 : Nat) : Int)), .v (.bool true), .v (.bool false), .junk, .junk, .junk, .junk, .junk], h' ++ [.box 29 [c1, .v (.int .i64 k), dd, .v (.int .i64 e)]], ?_, hil, rfl⟩
          simp only [V9, c9_9, c9_4, c9_5, c9_6, c9_8, hlt, hw, e1, ip_ld4, z, st, ld0, ld2, ln1, ln2, hb, hb2, Q122, Q0, Q1, Q2, Q3, Q4, Q5, Q6, Q7, Q8, Q9, Q10, Q11, Q12, Q13, Q14, Q15, Q16, Q17, Q18, Q19, Q20, Q21, Q22, Q23, Q24, Q25, Q26, Q27, Q28, Q29, Q30, Q31, Q32, Q33, Q35, Q36, Q37, Q38, Q39, Q40, Q41, Q42, Q43, Q44, Q45, Q46, Q47, Q48, Q49, Q50, Q51, Q52, Q53, Q54, Q55, Q56, Q57, Q58, Q59, Q60, Q61, Q62, Q63, Q64, Q65, Q66, Q67, Q68, Q69, Q70, Q71, Q72, Q73, Q99, Q100, Q101, Q102, Q103, Q74, Q75, Q77, Q78, Q79, Q80, Q81, Q82, Q83, Q84, clr, List.length_nil, List.length_cons, List.getElem?_cons_zero, List.getElem?_cons_succ, Nat.reduceAdd, Nat.zero_add, Nat.add_zero, Nat.reduceLeDiff, Nat.reduceSub, ↓reduceIte, List.drop_succ_cons, List.drop_zero, List.take_succ_cons, List.take_zero, Bool.false_eq_true, List.nil_append, List.cons_append, Bool.not_true, Bool.not_false, cond_true, cond_false, bne, Q85, Q86, Q87, Q88, Q89, Q90, Q91, Q92, Q93, Q94, Q95, Q96, Q97, Q98, Q110, Q111, Q116, Q117, Q118, Q119, Q120, Q121, Q122, Q123, Option.map_some, Option.map_none, Q34]
        | true =>
          refine ⟨.ret, [.junk, d, .v (.bool true), .ptr h'.length 0, .junk, .junk, c, .v (.int .i64 l.length), .v (.int .i64 i), .v (.bool true), .v (.bool true), .junk, .junk, .junk, .junk, .junk], h' ++ [.box 29 [c1, .v (.int .i64 k), dd, .v (.int .i64 e)]], ?_, .inl ⟨rfl, rfl⟩⟩
          simp only [V9, c9_9, c9_4, c9_5, c9_6, c9_7, hlt, hw, e1, ip_ld4, z, st, ld0, ld2, ln1, ln2, hb, hb2, Q122, Q0, Q1, Q2, Q3, Q4, Q5, Q6, Q7, Q8, Q9, Q10, Q11, Q12, Q13, Q14, Q15, Q16, Q17, Q18, Q19, Q20, Q21, Q22, Q23, Q24, Q25, Q26, Q27, Q28, Q29, Q30, Q31, Q32, Q33, Q35, Q36, Q37, Q38, Q39, Q40, Q41, Q42, Q43, Q44, Q45, Q46, Q47, Q48, Q49, Q50, Q51, Q52, Q53, Q54, Q55, Q56, Q57, Q58, Q59, Q60, Q61, Q62, Q63, Q64, Q65, Q66, Q67, Q68, Q69, Q70, Q71, Q72, Q73, Q99, Q100, Q101, Q102, Q103, Q74, Q75, Q77, Q78, Q79, Q80, Q81, Q82, Q83, Q84, clr, List.length_nil, List.length_cons, List.getElem?_cons_zero, List.getElem?_cons_succ, Nat.reduceAdd, Nat.zero_add, Nat.add_zero, Nat.reduceLeDiff, Nat.reduceSub, ↓reduceIte, List.drop_succ_cons, List.drop_zero, List.take_succ_cons, List.take_zero, Bool.false_eq_true, List.nil_append, List.cons_append, Bool.not_true, Bool.not_false, cond_true, cond_false, bne, Q85, Q86, Q87, Q88, Q89, Q90, Q91, Q92, Q93, Q94, Q95, Q96, Q97, Q98, Q110, Q111, Q116, Q117, Q118, Q119, Q120, Q121, Q122, Q123, Option.map_some, Option.map_none, Q34]
      · have hie : i = l.length := by omega
        subst hie
        have hlt := lt_f (n := l.length)
        refine ⟨.exit 0, V9 c d l.length l.length (.v (.bool false)), h', ?_, .inr ⟨rfl, rfl⟩⟩
        simp only [V9, c9_9, c9_4, hlt, Q0, Q1, Q2, Q3, Q4, Q5, Q6, Q7, Q8, Q9, Q10, Q11, Q12, Q13, Q14, Q15, Q16, Q17, Q18, Q19, Q20, Q21, Q22, Q23, Q24, Q25, Q26, Q27, Q28, Q29, Q30, Q31, Q32, Q33, Q35, Q36, Q37, Q38, Q39, Q40, Q41, Q42, Q43, Q44, Q45, Q46, Q47, Q48, Q49, Q50, Q51, Q52, Q53, Q54, Q55, Q56, Q57, Q58, Q59, Q60, Q61, Q62, Q63, Q64, Q65, Q66, Q67, Q68, Q69, Q70, Q71, Q72, Q73, Q99, Q100, Q101, Q102, Q103, Q74, Q75, Q77, Q78, Q79, Q80, Q81, Q82, Q83, Q84, clr, List.length_nil, List.length_cons, List.getElem?_cons_zero, List.getElem?_cons_succ, Nat.reduceAdd, Nat.zero_add, Nat.add_zero, Nat.reduceLeDiff, Nat.reduceSub, ↓reduceIte, List.drop_succ_cons, List.drop_zero, List.take_succ_cons, List.take_zero, Bool.false_eq_true, List.nil_append, List.cons_append, Bool.not_true, Bool.not_false, cond_true, cond_false, bne, Q85, Q86, Q87, Q88, Q89, Q90, Q91, Q92, Q93, Q94, Q95, Q96, Q97, Q98, Q110, Q111, Q116, Q117, Q118, Q119, Q120, Q121, Q122, Q123, Option.map_some, Option.map_none, Q34])
  exact ⟨e, v', h', g1, g3⟩
def K9b : List Bool := [false, false, false, false, false, false, false, false, false, false, false, true, true, true, false, false]
def V9b (d : AV) (len i : Int) (x14 : AV) : List AV := [.junk, .junk, .junk, .junk, .junk, .junk, .junk, .junk, .junk, .junk, .junk, d, .v (.int .i64 len), .v (.int .i64 i), x14, .junk]
theorem big_loop2 {K : Nat} {d : AV} {l : List (List Int)} (hc : Nss d l) (hK : l.length < K) (h : List AO) (v : List AV) (hv : clr K9b v = V9b d l.length 0 .junk) :
    ∃ e v' h', loopN (exec (callW F) K c9_16) K9b K v h = some (e, v', h') ∧ ((e = .ret ∧ getO v' [] (.var 2) = .v (.bool true)) ∨ (e = .exit 2 ∧ v' = V9b d l.length l.length (.v (.bool false)))) := by
  obtain ⟨e, v', h', g1, g2, g3⟩ := loop_rule0 (call := callW F) (K := K) (b := c9_16) (keep := K9b) (fun i v h' => v = V9b d l.length i .junk)
    (fun e v h' => ((e = .ret ∧ getO v [] (.var 2) = .v (.bool true)) ∨ (e = .exit 2 ∧ v = V9b d l.length l.length (.v (.bool false))))) l.length (m := K) (v := v) (h := h) hK hv (by
      rintro i v h' hi rfl
      by_cases hil : i < l.length
      · have hlt := lt_t hil
        have hw := wrap_succ hil hc.max
        obtain ⟨c1, e1, n1⟩ := hc.at hil
        have ln1 := fun H => n1.len H
        cases hb : decide ((l[i].length : Int) > 100) with
        | true =>
          refine ⟨.ret, [.junk, .junk, .v (.bool true), .junk, c1, .junk, .junk, .junk, .junk, .junk, .junk, d, .v (.int .i64 l.length), .v (.int .i64 i), .v (.bool true), .v (.bool true)], h', ?_, .inl ⟨rfl, rfl⟩⟩
          simp only [V9b, c9_16, c9_11, c9_12, c9_13, c9_14, hlt, hw, e1, ip_ld, ln1, hb, Q122, Q0, Q1, Q2, Q3, Q4, Q5, Q6, Q7, Q8, Q9, Q10, Q11, Q12, Q13, Q14, Q15, Q16, Q17, Q18, Q19, Q20, Q21, Q22, Q23, Q24, Q25, Q26, Q27, Q28, Q29, Q30, Q31, Q32, Q33, Q35, Q36, Q37, Q38, Q39, Q40, Q41, Q42, Q43, Q44, Q45, Q46, Q47, Q48, Q49, Q50, Q51, Q52, Q53, Q54, Q55, Q56, Q57, Q58, Q59, Q60, Q61, Q62, Q63, Q64, Q65, Q66, Q67, Q68, Q69, Q70, Q71, Q72, Q73, Q99, Q100, Q101, Q102, Q103, Q74, Q75, Q77, Q78, Q79, Q80, Q81, Q82, Q83, Q84, clr, List.length_nil, List.length_cons, List.getElem?_cons_zero, List.getElem?_cons_succ, Nat.reduceAdd, Nat.zero_add, Nat.add_zero, Nat.reduceLeDiff, Nat.reduceSub, ↓reduceIte, List.drop_succ_cons, List.drop_zero, List.take_succ_cons, List.take_zero, Bool.false_eq_true, List.nil_append, List.cons_append, Bool.not_true, Bool.not_false, cond_true, cond_false, bne, Q85, Q86, Q87, Q88, Q89, Q90, Q91, Q92, Q93, Q94, Q95, Q96, Q97, Q98, Q110, Q111, Q116, Q117, Q118, Q119, Q120, Q121, Q122, Q123, Option.map_some, Option.map_none, Q34]
        | false =>
          refine ⟨.normal, [.junk, .junk, .junk, .junk, c1, .junk, .junk, .junk, .junk, .junk, .junk, d, .v (.int .i64 l.length), .v (.int .i64 ((i + 1 : Nat) : Int)), .v (.bool true), .v (.bool false)], h', ?_, hil, rfl⟩
          simp only [V9b, c9_16, c9_11, c9_12, c9_13, c9_15, hlt, hw, e1, ip_ld, ln1, hb, Q122, Q0, Q1, Q2, Q3, Q4, Q5, Q6, Q7, Q8, Q9, Q10, Q11, Q12, Q13, Q14, Q15, Q16, Q17, Q18, Q19, Q20, Q21, Q22, Q23, Q24, Q25, Q26, Q27, Q28, Q29, Q30, Q31, Q32, Q33, Q35, Q36, Q37, Q38, Q39, Q40, Q41, Q42, Q43, Q44, Q45, Q46, Q47, Q48, Q49, Q50, Q51, Q52, Q53, Q54, Q55, Q56, Q57, Q58, Q59, Q60, Q61, Q62, Q63, Q64, Q65, Q66, Q67, Q68, Q69, Q70, Q71, Q72, Q73, Q99, Q100, Q101, Q102, Q103, Q74, Q75, Q77, Q78, Q79, Q80, Q81, Q82, Q83, Q84, clr, List.length_nil, List.length_cons, List.getElem?_cons_zero, List.getElem?_cons_succ, Nat.reduceAdd, Nat.zero_add, Nat.add_zero, Nat.reduceLeDiff, Nat.reduceSub, ↓reduceIte, List.drop_succ_cons, List.drop_zero, List.take_succ_cons, List.take_zero, Bool.false_eq_true, List.nil_append, List.cons_append, Bool.not_true, Bool.not_false, cond_true, cond_false, bne, Q85, Q86, Q87, Q88, Q89, Q90, Q91, Q92, Q93, Q94, Q95, Q96, Q97, Q98, Q110, Q111, Q116, Q117, Q118, Q119, Q120, Q121, Q122, Q123, Option.map_some, Option.map_none, Q34]
      · have hie : i = l.length := by omega
        subst hie
        have hlt := lt_f (n := l.length)
        refine ⟨.exit 2, V9b d l.length l.length (.v (.bool false)), h', ?_, .inr ⟨rfl, rfl⟩⟩
        simp only [V9b, c9_16, c9_11, hlt, Q0, Q1, Q2, Q3, Q4, Q5, Q6, Q7, Q8, Q9, Q10, Q11, Q12, Q13, Q14, Q15, Q16, Q17, Q18, Q19, Q20, Q21, Q22, Q23, Q24, Q25, Q26, Q27, Q28, Q29, Q30, Q31, Q32, Q33, Q35, Q36, Q37, Q38, Q39, Q40, Q41, Q42, Q43, Q44, Q45, Q46, Q47, Q48, Q49, Q50, Q51, Q52, Q53, Q54, Q55, Q56, Q57, Q58, Q59, Q60, Q61, Q62, Q63, Q64, Q65, Q66, Q67, Q68, Q69, Q70, Q71, Q72, Q73, Q99, Q100, Q101, Q102, Q103, Q74, Q75, Q77, Q78, Q79, Q80, Q81, Q82, Q83, Q84, clr, List.length_nil, List.length_cons, List.getElem?_cons_zero, List.getElem?_cons_succ, Nat.reduceAdd, Nat.zero_add, Nat.add_zero, Nat.reduceLeDiff, Nat.reduceSub, ↓reduceIte, List.drop_succ_cons, List.drop_zero, List.take_succ_cons, List.take_zero, Bool.false_eq_true, List.nil_append, List.cons_append, Bool.not_true, Bool.not_false, cond_true, cond_false, bne, Q85, Q86, Q87, Q88, Q89, Q90, Q91, Q92, Q93, Q94, Q95, Q96, Q97, Q98, Q110, Q111, Q116, Q117, Q118, Q119, Q120, Q121, Q122, Q123, Option.map_some, Option.map_none, Q34])
  exact ⟨e, v', h', g1, g3⟩
theorem big_ok {c d : AV} {l : List En} {m : List (List Int)} (hc : Lg c l) (hd : Nss d m) : ∃ r, callW F 9 [c, d] [] = some (.v (.bool r), []) ∧ (r = false → l.length ≤ 200 ∧ m.length ≤ 200) := by
  have q1 := fun H => hc.len H
  have q2 := fun H => hd.len H
  have st9 : start c9 [c, d] = [c, d, .v undef, .v undef, .v undef, .v undef, .v undef, .v undef, .v undef, .v undef, .v undef, .v undef, .v undef, .v undef, .v undef, .v undef] := rfl
  have hres : c9.res = [.var 2] := rfl
  cases b1 : decide ((l.length : Int) > 200) with
  | true =>
    refine ⟨true, callW_pure (c := c9) rfl rfl 0 ?_, fun h => by cases h⟩
    rw [st9]
    simp only [c9, c9_0, c9_1, c9_2, q1, q2, b1, Q122, Q0, Q1, Q2, Q3, Q4, Q5, Q6, Q7, Q8, Q9, Q10, Q11, Q12, Q13, Q14, Q15, Q16, Q17, Q18, Q19, Q20, Q21, Q22, Q23, Q24, Q25, Q26, Q27, Q28, Q29, Q30, Q31, Q32, Q33, Q35, Q36, Q37, Q38, Q39, Q40, Q41, Q42, Q43, Q44, Q45, Q46, Q47, Q48, Q49, Q50, Q51, Q52, Q53, Q54, Q55, Q56, Q57, Q58, Q59, Q60, Q61, Q62, Q63, Q64, Q65, Q66, Q67, Q68, Q69, Q70, Q71, Q72, Q73, Q99, Q100, Q101, Q102, Q103, Q74, Q75, Q77, Q78, Q79, Q80, Q81, Q82, Q83, Q84, clr, List.length_nil, List.length_cons, List.getElem?_cons_zero, List.getElem?_cons_succ, Nat.reduceAdd, Nat.zero_add, Nat.add_zero, Nat.reduceLeDiff, Nat.reduceSub, ↓reduceIte, List.drop_succ_cons, List.drop_zero, List.take_succ_cons, List.take_zero, Bool.false_eq_true, List.nil_append, List.cons_append, Bool.not_true, Bool.not_false, cond_true, cond_false, bne, Q85, Q86, Q87, Q88, Q89, Q90, Q91, Q92, Q93, Q94, Q95, Q96, Q97, Q98, Q110, Q111, Q116, Q117, Q118, Q119, Q120, Q121, Q122, Q123, Option.map_some, Option.map_none, Q34]
  | false =>
  cases b2 : decide ((m.length : Int) > 200) with
  | true =>
    refine ⟨true, callW_pure (c := c9) rfl rfl 0 ?_, fun h => by cases h⟩
    rw [st9]
    simp only [c9, c9_0, c9_1, c9_2, q1, q2, b1, b2, Q122, Q0, Q1, Q2, Q3, Q4, Q5, Q6, Q7, Q8, Q9, Q10, Q11, Q12, Q13, Q14, Q15, Q16, Q17, Q18, Q19, Q20, Q21, Q22, Q23, Q24, Q25, Q26, Q27, Q28, Q29, Q30, Q31, Q32, Q33, Q35, Q36, Q37, Q38, Q39, Q40, Q41, Q42, Q43, Q44, Q45, Q46, Q47, Q48, Q49, Q50, Q51, Q52, Q53, Q54, Q55, Q56, Q57, Q58, Q59, Q60, Q61, Q62, Q63, Q64, Q65, Q66, Q67, Q68, Q69, Q70, Q71, Q72, Q73, Q99, Q100, Q101, Q102, Q103, Q74, Q75, Q77, Q78, Q79, Q80, Q81, Q82, Q83, Q84, clr, List.length_nil, List.length_cons, List.getElem?_cons_zero, List.getElem?_cons_succ, Nat.reduceAdd, Nat.zero_add, Nat.add_zero, Nat.reduceLeDiff, Nat.reduceSub, ↓reduceIte, List.drop_succ_cons, List.drop_zero, List.take_succ_cons, List.take_zero, Bool.false_eq_true, List.nil_append, List.cons_append, Bool.not_true, Bool.not_false, cond_true, cond_false, bne, Q85, Q86, Q87, Q88, Q89, Q90, Q91, Q92, Q93, Q94, Q95, Q96, Q97, Q98, Q110, Q111, Q116, Q117, Q118, Q119, Q120, Q121, Q122, Q123, Option.map_some, Option.map_none, Q34]
  | false =>
    have hle : l.length ≤ 200 ∧ m.length ≤ 200 := by
      have h1 := of_decide_eq_false b1
      have h2 := of_decide_eq_false b2
      omega
    obtain ⟨e, v', h', g1, g2⟩ := big_loop (K := l.length + m.length + 1) (d := d) hc (by omega) [] [c, d, .v (.bool false), .v undef, .v undef, .v (.bool false), c, .v (.int .i64 l.length), .v (.int .i64 0), .v undef, .v undef, .v undef, .v undef, .v undef, .v undef, .v undef] rfl
    have hbody : c9.body = (.seq (.region [] [] c9_0) (.seq (.seq (.region [] [] c9_1) (.cond (.var 5) (.seq (.region [] [] c9_2) .ret) .skip)) (.seq (.seq (.region [] [] c9_3) (.block 0 (.loop K9 [] c9_9))) (.seq (.seq (.region [] [] c9_10) (.block 2 (.loop K9b [] c9_16))) (.seq (.region [] [] c9_17) .ret))))) := rfl
    rcases g2 with ⟨rfl, g2⟩ | ⟨rfl, rfl⟩
    · refine ⟨true, callW_pure (c := c9) rfl rfl (l.length + m.length + 1) ?_, fun h => by cases h⟩
      rw [st9, hbody, hres]
      generalize c9_9 = bb at g1 ⊢
      generalize (CC.seq (.seq (.region [] [] c9_10) (.block 2 (.loop K9b [] c9_16))) (.seq (.region [] [] c9_17) .ret)) = rest
      simp only [c9_0, c9_1, c9_3, q1, q2, b1, b2, g1, Q122, Q0, Q1, Q2, Q3, Q4, Q5, Q6, Q7, Q8, Q9, Q10, Q11, Q12, Q13, Q14, Q15, Q16, Q17, Q18, Q19, Q20, Q21, Q22, Q23, Q24, Q25, Q26, Q27, Q28, Q29, Q30, Q31, Q32, Q33, Q35, Q36, Q37, Q38, Q39, Q40, Q41, Q42, Q43, Q44, Q45, Q46, Q47, Q48, Q49, Q50, Q51, Q52, Q53, Q54, Q55, Q56, Q57, Q58, Q59, Q60, Q61, Q62, Q63, Q64, Q65, Q66, Q67, Q68, Q69, Q70, Q71, Q72, Q73, Q99, Q100, Q101, Q102, Q103, Q74, Q75, Q77, Q78, Q79, Q80, Q81, Q82, Q83, Q84, clr, List.length_nil, List.length_cons, List.getElem?_cons_zero, List.getElem?_cons_succ, Nat.reduceAdd, Nat.zero_add, Nat.add_zero, Nat.reduceLeDiff, Nat.reduceSub, ↓reduceIte, List.drop_succ_cons, List.drop_zero, List.take_succ_cons, List.take_zero, Bool.false_eq_true, List.nil_append, List.cons_append, Bool.not_true, Bool.not_false, cond_true, cond_false, bne, Q85, Q86, Q87, Q88, Q89, Q90, Q91, Q92, Q93, Q94, Q95, Q96, Q97, Q98, Q110, Q111, Q116, Q117, Q118, Q119, Q120, Q121, Q122, Q123, Option.map_some, Option.map_none, Q34]
      exact lv1_one g2
    · obtain ⟨e2, v2, h2, k1, k2⟩ := big_loop2 (K := l.length + m.length + 1) hd (by omega) h' [.junk, d, .junk, .junk, .junk, .junk, c, .v (.int .i64 l.length), .v (.int .i64 l.length), .v (.bool false), .junk, d, .v (.int .i64 m.length), .v (.int .i64 0), .junk, .junk] rfl
      rcases k2 with ⟨rfl, k2⟩ | ⟨rfl, rfl⟩
      · refine ⟨true, callW_pure (c := c9) rfl rfl (l.length + m.length + 1) ?_, fun h => by cases h⟩
        rw [st9, hbody, hres]
        simp only [V9] at g1
        generalize c9_9 = bb at g1 ⊢
        generalize c9_16 = bb2 at k1 ⊢
        generalize (CC.seq (.region [] [] c9_17) .ret) = rest
        simp only [c9_0, c9_1, c9_3, c9_10, q1, q2, b1, b2, g1, k1, Q122, Q0, Q1, Q2, Q3, Q4, Q5, Q6, Q7, Q8, Q9, Q10, Q11, Q12, Q13, Q14, Q15, Q16, Q17, Q18, Q19, Q20, Q21, Q22, Q23, Q24, Q25, Q26, Q27, Q28, Q29, Q30, Q31, Q32, Q33, Q35, Q36, Q37, Q38, Q39, Q40, Q41, Q42, Q43, Q44, Q45, Q46, Q47, Q48, Q49, Q50, Q51, Q52, Q53, Q54, Q55, Q56, Q57, Q58, Q59, Q60, Q61, Q62, Q63, Q64, Q65, Q66, Q67, Q68, Q69, Q70, Q71, Q72, Q73, Q99, Q100, Q101, Q102, Q103, Q74, Q75, Q77, Q78, Q79, Q80, Q81, Q82, Q83, Q84, clr, List.length_nil, List.length_cons, List.getElem?_cons_zero, List.getElem?_cons_succ, Nat.reduceAdd, Nat.zero_add, Nat.add_zero, Nat.reduceLeDiff, Nat.reduceSub, ↓reduceIte, List.drop_succ_cons, List.drop_zero, List.take_succ_cons, List.take_zero, Bool.false_eq_true, List.nil_append, List.cons_append, Bool.not_true, Bool.not_false, cond_true, cond_false, bne, Q85, Q86, Q87, Q88, Q89, Q90, Q91, Q92, Q93, Q94, Q95, Q96, Q97, Q98, Q110, Q111, Q116, Q117, Q118, Q119, Q120, Q121, Q122, Q123, Option.map_some, Option.map_none, Q34]
        exact lv1_one k2
      · refine ⟨false, callW_pure (c := c9) rfl rfl (l.length + m.length + 1) ?_, fun _ => hle⟩
        rw [st9, hbody, hres]
        simp only [V9] at g1
        simp only [V9b] at k1
        generalize c9_9 = bb at g1 ⊢
        generalize c9_16 = bb2 at k1 ⊢
        simp only [c9_0, c9_1, c9_3, c9_10, c9_17, q1, q2, b1, b2, g1, k1, Q122, Q0, Q1, Q2, Q3, Q4, Q5, Q6, Q7, Q8, Q9, Q10, Q11, Q12, Q13, Q14, Q15, Q16, Q17, Q18, Q19, Q20, Q21, Q22, Q23, Q24, Q25, Q26, Q27, Q28, Q29, Q30, Q31, Q32, Q33, Q35, Q36, Q37, Q38, Q39, Q40, Q41, Q42, Q43, Q44, Q45, Q46, Q47, Q48, Q49, Q50, Q51, Q52, Q53, Q54, Q55, Q56, Q57, Q58, Q59, Q60, Q61, Q62, Q63, Q64, Q65, Q66, Q67, Q68, Q69, Q70, Q71, Q72, Q73, Q99, Q100, Q101, Q102, Q103, Q74, Q75, Q77, Q78, Q79, Q80, Q81, Q82, Q83, Q84, clr, List.length_nil, List.length_cons, List.getElem?_cons_zero, List.getElem?_cons_succ, Nat.reduceAdd, Nat.zero_add, Nat.add_zero, Nat.reduceLeDiff, Nat.reduceSub, ↓reduceIte, List.drop_succ_cons, List.drop_zero, List.take_succ_cons, List.take_zero, Bool.false_eq_true, List.nil_append, List.cons_append, Bool.not_true, Bool.not_false, cond_true, cond_false, bne, Q85, Q86, Q87, Q88, Q89, Q90, Q91, Q92, Q93, Q94, Q95, Q96, Q97, Q98, Q110, Q111, Q116, Q117, Q118, Q119, Q120, Q121, Q122, Q123, Option.map_some, Option.map_none, Q34]
end Go.AE.Ytkdjdhfoodlnfaa
end

/-! Logs that lie in rows of the caller's: Same reads them, the law writes into them. -/
section
set_option linter.unusedVariables false
set_option linter.unusedSimpArgs false
namespace Go.AE.Ytkdjdhfoodlnfaa
open Go Go.AE Go.Proofs.Ytkdjdhfoodlnfaa

structure RdE (H : List AO) (s : AV) (l : List En) : Prop where
  len : evLen H .slice s = some l.length
  max : l.length ≤ maxLen
  get : ∀ (i : Nat) (hi : i < l.length), ∃ p p0 p1 c1 k dd e, iaV H 4 s (some i) = some p ∧ Q74 H 0 p = some p0 ∧ Q76 H false 1 p0 = some c1 ∧ Q74 H 1 p = some p1 ∧ Q76 H true 3 p1 = some (.agg [.v (.int .i64 k), dd, .v (.int .i64 e)]) ∧ Ns c1 l[i].lab ∧ k = l[i].kind ∧ IsL dd l[i].terms ∧ e = l[i].er
theorem Lg.rd {c : AV} {l : List En} (h : Lg c l) (H : List AO) : RdE H c l :=
  ⟨h.len H, h.max, fun i hi => by
    obtain ⟨c1, k, dd, e, e1, n1, y1, t1, y2⟩ := h.at hi
    exact ⟨_, _, _, c1, k, dd, e, e1 H, rfl, ip_ld H, rfl, rfl, n1, y1, t1, y2⟩⟩
theorem RdE.own {rt : TypeId} {H : List AO} {id ver k : Nat} {L es : List AV} {l : List En} (hr : H[id]? = some (.row rt 4 ver L k)) (ha : AllR IsEn es l) (hL : L.take es.length = es) (hm : es.length ≤ maxLen) : RdE H (.own 4 id ver 0 es.length) l := by
  have hlen : es.length ≤ L.length := by
    have := congrArg List.length hL
    rw [List.length_take] at this; omega
  have hl := ha.length
  refine ⟨by rw [row_len hr hlen, hl], by omega, fun i hi => ?_⟩
  have hie : i < es.length := by omega
  have hia := row_ia hr hlen hie
  obtain ⟨a, e1, e2⟩ := ha.get' (List.getElem?_eq_getElem hi)
  have hLi : L[i]? = some a := by
    rw [← e1]; conv => rhs; rw [← hL]
    rw [List.getElem?_take_of_lt hie]
  have hra := row_at (n := i + 1) hr (by omega)
  generalize l[i] = x at e2
  cases e2 with
  | mk c1 lab hc k' d ts hd e =>
    refine ⟨_, .ep 4 id ver i 0, .ep 4 id ver i 1, c1, k', d, e, hia, ?_, ?_, ?_, ?_, hc, rfl, hd, rfl⟩
    · simp only [Q74, hra, Option.map_some]
    · simp [Q76, hra, hLi, AV.cells, Q77]
    · simp only [Q74, hra, Option.map_some]
    · simp [Q76, hra, hLi, AV.cells, Q77]
theorem same_own {H : List AO} {c d : AV} {l m : List En} (hb : H.all (AO.below H.length) = true) (hc : RdE H c l) (hd : RdE H d m) : callW F 13 [c, d] H = some (.v (.bool (lgS l m)), H) := by
  have q1 := hc.len
  have q2 := hd.len
  have fin : ∀ (K : Nat) (vars : List AV) (x : Bool), getO vars [] (.var 2) = .v (.bool x) → exec (callW F) K c13.body (start c13 [c, d]) H = some (.ret, vars, H) → callW F 13 [c, d] H = some (.v (.bool x), H) := by
    intro K vars x hx he
    refine callW_own (c := c13) rfl rfl K ?_
    rw [List.append_nil, he]
    have := lv_b (c := c13) (H := H) (l := []) (vars := vars) (i := 2) (x := x) hb rfl hx
    rwa [List.append_nil] at this
  unfold lgS
  have st : start c13 [c, d] = [c, d, .v undef, .v undef, .v undef, .v undef, .v undef, .v undef, .v undef] := rfl
  cases hl : ((l.length : Int) == (m.length : Int)) with
  | false =>
    refine fin 0 [c, d, .v (.bool false), .v undef, .v (.bool true), .v undef, .v undef, .v undef, .v undef] false rfl ?_
    rw [st]
    simp only [c13, c13_0, c13_1, c13_2, q1, q2, hl, Bool.not_false, Bool.false_and, Q0, Q1, Q2, Q3, Q4, Q5, Q6, Q7, Q8, Q9, Q10, Q11, Q12, Q13, Q14, Q15, Q16, Q17, Q18, Q19, Q20, Q21, Q22, Q23, Q24, Q25, Q26, Q27, Q28, Q29, Q30, Q31, Q32, Q33, Q35, Q36, Q37, Q38, Q39, Q40, Q41, Q42, Q43, Q44, Q45, Q46, Q47, Q48, Q49, Q50, Q51, Q52, Q53, Q54, Q55, Q56, Q57, Q58, Q59, Q60, Q61, Q62, Q63, Q64, Q65, Q66, Q67, Q68, Q69, Q70, Q71, Q72, Q73, Q99, Q100, Q101, Q102, Q103, Q75, Q77, Q78, Q79, Q80, Q81, Q82, Q83, Q84, clr, List.length_nil, List.length_cons, List.getElem?_cons_zero, List.getElem?_cons_succ, Nat.reduceAdd, Nat.zero_add, Nat.add_zero, Nat.reduceLeDiff, Nat.reduceSub, ↓reduceIte, List.drop_succ_cons, List.drop_zero, List.take_succ_cons, List.take_zero, Bool.false_eq_true, List.nil_append, List.cons_append, Bool.not_true, Bool.not_false, cond_true, cond_false, bne, Q85, Q86, Q87, Q88, Q89, Q90, Q91, Q92, Q93, Q94, Q95, Q96, Q97, Q98, Q110, Q111, Q116, Q117, Q118, Q119, Q120, Q121, Q122, Q123, Option.map_some, Option.map_none, Q34]
  | true =>
  have hleq : l.length = m.length := by have := eq_of_beq hl; omega
  obtain ⟨e, v', h', g1, g2, g3⟩ := loop_rule0 (call := callW F) (K := l.length + 1) (b := c13_9) (keep := K13)
    (fun i v h => v = V13 c d l.length i .junk ∧ h = H ∧ lgL (l.drop i) (m.drop i) = lgL l m)
    (fun e v h => h = H ∧ ((e = .exit 0 ∧ lgL l m = true ∧ v = V13 c d l.length l.length (.v (.bool false))) ∨ (e = .ret ∧ lgL l m = false ∧ getO v [] (.var 2) = .v (.bool false))))
    l.length (m := l.length + 1) (v := [c, d, .v (.bool false), .v undef, .v (.bool false), .v (.int .i64 l.length), .v (.int .i64 0), .v undef, .v undef]) (h := H) (by omega) ⟨rfl, rfl, rfl⟩ (by
      rintro i v h hi ⟨rfl, rfl, hR⟩
      by_cases hil : i < l.length
      · have him : i < m.length := by omega
        have hlt := lt_t hil
        have hw := wrap_succ (i := i) (len := l.length) hil hc.max
        obtain ⟨p, p0, p1, c1, k, dd, e, a1, a2, a3, a4, a5, n1, rfl, t1, rfl⟩ := hc.get i hil
        obtain ⟨p', p0', p1', c2, k', dd', e', b1, b2, b3, b4, b5, n2, rfl, t2, rfl⟩ := hd.get i him
        have hcm := rcompare_ok n1 n2
        have hev := event_ok (k := l[i].kind) (e := l[i].er) (k' := m[i].kind) (e' := m[i].er) t1 t2
        have s1 := fun H => n1.sn H
        have s2 := fun H => n2.sn H
        have s3 := fun H => ev3_sn t1 (k := l[i].kind) (e := l[i].er) H
        have s4 := fun H => ev3_sn t2 (k := m[i].kind) (e := m[i].er) H
        rw [List.drop_eq_getElem_cons hil, List.drop_eq_getElem_cons him, lgL, enS] at hR
        generalize cmpL l[i].lab m[i].lab = x at hcm hR
        generalize evS l[i].kind l[i].er l[i].terms m[i].kind m[i].er m[i].terms = y at hev hR
        cases hx : (x == 0) with
        | false =>
          rw [hx] at hR
          refine ⟨.ret, [c, d, .v (.bool false), .v (.int .i64 i), .junk, .v (.int .i64 l.length), .v (.int .i64 i), .v (.bool true), .v (.bool true)], h, ?_, rfl, .inr ⟨rfl, hR.symm, rfl⟩⟩
          simp only [V13, c13_9, c13_4, c13_5, c13_6, c13_7, hlt, a1, a2, a3, a4, a5, b1, b2, b3, b4, b5, s1, s2, hcm, hx, Bool.not_false, Q0, Q1, Q2, Q3, Q4, Q5, Q6, Q7, Q8, Q9, Q10, Q11, Q12, Q13, Q14, Q15, Q16, Q17, Q18, Q19, Q20, Q21, Q22, Q23, Q24, Q25, Q26, Q27, Q28, Q29, Q30, Q31, Q32, Q33, Q35, Q36, Q37, Q38, Q39, Q40, Q41, Q42, Q43, Q44, Q45, Q46, Q47, Q48, Q49, Q50, Q51, Q52, Q53, Q54, Q55, Q56, Q57, Q58, Q59, Q60, Q61, Q62, Q63, Q64, Q65, Q66, Q67, Q68, Q69, Q70, Q71, Q72, Q73, Q99, Q100, Q101, Q102, Q103, Q75, Q77, Q78, Q79, Q80, Q81, Q82, Q83, Q84, clr, List.length_nil, List.length_cons, List.getElem?_cons_zero, List.getElem?_cons_succ, Nat.reduceAdd, Nat.zero_add, Nat.add_zero, Nat.reduceLeDiff, Nat.reduceSub, ↓reduceIte, List.drop_succ_cons, List.drop_zero, List.take_succ_cons, List.take_zero, Bool.false_eq_true, List.nil_append, List.cons_append, Bool.not_true, Bool.not_false, cond_true, cond_false, bne, Q85, Q86, Q87, Q88, Q89, Q90, Q91, Q92, Q93, Q94, Q95, Q96, Q97, Q98, Q110, Q111, Q116, Q117, Q118, Q119, Q120, Q121, Q122, Q123, Option.map_some, Option.map_none, Q34]
        | true =>
          rw [hx] at hR
          cases y with
          | false =>
            refine ⟨.ret, [c, d, .v (.bool false), .v (.int .i64 i), .junk, .v (.int .i64 l.length), .v (.int .i64 i), .v (.bool true), .v (.bool true)], h, ?_, rfl, .inr ⟨rfl, hR.symm, rfl⟩⟩
            simp only [V13, c13_9, c13_4, c13_5, c13_6, c13_7, hlt, a1, a2, a3, a4, a5, b1, b2, b3, b4, b5, s1, s2, s3, s4, hcm, hev, hx, Bool.not_true, Bool.not_false, Q0, Q1, Q2, Q3, Q4, Q5, Q6, Q7, Q8, Q9, Q10, Q11, Q12, Q13, Q14, Q15, Q16, Q17, Q18, Q19, Q20, Q21, Q22, Q23, Q24, Q25, Q26, Q27, Q28, Q29, Q30, Q31, Q32, Q33, Q35, Q36, Q37, Q38, Q39, Q40, Q41, Q42, Q43, Q44, Q45, Q46, Q47, Q48, Q49, Q50, Q51, Q52, Q53, Q54, Q55, Q56, Q57, Q58, Q59, Q60, Q61, Q62, Q63, Q64, Q65, Q66, Q67, Q68, Q69, Q70, Q71, Q72, Q73, Q99, Q100, Q101, Q102, Q103, Q75, Q77, Q78, Q79, Q80, Q81, Q82, Q83, Q84, clr, List.length_nil, List.length_cons, List.getElem?_cons_zero, List.getElem?_cons_succ, Nat.reduceAdd, Nat.zero_add, Nat.add_zero, Nat.reduceLeDiff, Nat.reduceSub, ↓reduceIte, List.drop_succ_cons, List.drop_zero, List.take_succ_cons, List.take_zero, Bool.false_eq_true, List.nil_append, List.cons_append, Bool.not_true, Bool.not_false, cond_true, cond_false, bne, Q85, Q86, Q87, Q88, Q89, Q90, Q91, Q92, Q93, Q94, Q95, Q96, Q97, Q98, Q110, Q111, Q116, Q117, Q118, Q119, Q120, Q121, Q122, Q123, Option.map_some, Option.map_none, Q34]
          | true =>
            refine ⟨.normal, [c, d, .junk, .v (.int .i64 i), .junk, .v (.int .i64 l.length), .v (.int .i64 ((i + 1 : Nat) : Int)), .v (.bool true), .v (.bool false)], h, ?_, hil, rfl, rfl, hR⟩
            simp only [V13, c13_9, c13_4, c13_5, c13_6, c13_8, hlt, hw, a1, a2, a3, a4, a5, b1, b2, b3, b4, b5, s1, s2, s3, s4, hcm, hev, hx, Bool.not_true, Bool.not_false, Q0, Q1, Q2, Q3, Q4, Q5, Q6, Q7, Q8, Q9, Q10, Q11, Q12, Q13, Q14, Q15, Q16, Q17, Q18, Q19, Q20, Q21, Q22, Q23, Q24, Q25, Q26, Q27, Q28, Q29, Q30, Q31, Q32, Q33, Q35, Q36, Q37, Q38, Q39, Q40, Q41, Q42, Q43, Q44, Q45, Q46, Q47, Q48, Q49, Q50, Q51, Q52, Q53, Q54, Q55, Q56, Q57, Q58, Q59, Q60, Q61, Q62, Q63, Q64, Q65, Q66, Q67, Q68, Q69, Q70, Q71, Q72, Q73, Q99, Q100, Q101, Q102, Q103, Q75, Q77, Q78, Q79, Q80, Q81, Q82, Q83, Q84, clr, List.length_nil, List.length_cons, List.getElem?_cons_zero, List.getElem?_cons_succ, Nat.reduceAdd, Nat.zero_add, Nat.add_zero, Nat.reduceLeDiff, Nat.reduceSub, ↓reduceIte, List.drop_succ_cons, List.drop_zero, List.take_succ_cons, List.take_zero, Bool.false_eq_true, List.nil_append, List.cons_append, Bool.not_true, Bool.not_false, cond_true, cond_false, bne, Q85, Q86, Q87, Q88, Q89, Q90, Q91, Q92, Q93, Q94, Q95, Q96, Q97, Q98, Q110, Q111, Q116, Q117, Q118, Q119, Q120, Q121, Q122, Q123, Option.map_some, Option.map_none, Q34]
      · have hie : i = l.length := by omega
        subst hie
        have hlt := lt_f (n := l.length)
        rw [List.drop_of_length_le (Nat.le_refl _), lgL] at hR
        · refine ⟨.exit 0, V13 c d l.length l.length (.v (.bool false)), h, ?_, rfl, .inl ⟨rfl, hR.symm, rfl⟩⟩
          simp only [V13, c13_9, c13_4, hlt, Q0, Q1, Q2, Q3, Q4, Q5, Q6, Q7, Q8, Q9, Q10, Q11, Q12, Q13, Q14, Q15, Q16, Q17, Q18, Q19, Q20, Q21, Q22, Q23, Q24, Q25, Q26, Q27, Q28, Q29, Q30, Q31, Q32, Q33, Q35, Q36, Q37, Q38, Q39, Q40, Q41, Q42, Q43, Q44, Q45, Q46, Q47, Q48, Q49, Q50, Q51, Q52, Q53, Q54, Q55, Q56, Q57, Q58, Q59, Q60, Q61, Q62, Q63, Q64, Q65, Q66, Q67, Q68, Q69, Q70, Q71, Q72, Q73, Q99, Q100, Q101, Q102, Q103, Q75, Q77, Q78, Q79, Q80, Q81, Q82, Q83, Q84, clr, List.length_nil, List.length_cons, List.getElem?_cons_zero, List.getElem?_cons_succ, Nat.reduceAdd, Nat.zero_add, Nat.add_zero, Nat.reduceLeDiff, Nat.reduceSub, ↓reduceIte, List.drop_succ_cons, List.drop_zero, List.take_succ_cons, List.take_zero, Bool.false_eq_true, List.nil_append, List.cons_append, Bool.not_true, Bool.not_false, cond_true, cond_false, bne, Q85, Q86, Q87, Q88, Q89, Q90, Q91, Q92, Q93, Q94, Q95, Q96, Q97, Q98, Q110, Q111, Q116, Q117, Q118, Q119, Q120, Q121, Q122, Q123, Option.map_some, Option.map_none, Q34]
        · intro _ _ _ _ e; cases e)
  obtain ⟨rfl, g3⟩ := g3
  have hbody : c13.body = (.seq (.region [] [] c13_0) (.seq (.seq (.region [] [] c13_1) (.cond (.var 4) (.seq (.region [] [] c13_2) .ret) .skip)) (.seq (.seq (.region [] [] c13_3) (.block 0 (.loop K13 [] c13_9))) (.seq (.region [] [] c13_10) .ret)))) := rfl
  rcases g3 with ⟨rfl, h1, rfl⟩ | ⟨rfl, h1, h2⟩
  · rw [h1]
    refine fin (l.length + 1) [c, d, .v (.bool true), .junk, .junk, .v (.int .i64 l.length), .v (.int .i64 l.length), .v (.bool false), .junk] _ rfl ?_
    rw [hbody, st]
    generalize c13_9 = bb at g1 ⊢
    simp only [V13] at g1
    simp only [c13_0, c13_1, c13_3, c13_10, q1, q2, hl, g1, Bool.not_true, Bool.and_self, Q0, Q1, Q2, Q3, Q4, Q5, Q6, Q7, Q8, Q9, Q10, Q11, Q12, Q13, Q14, Q15, Q16, Q17, Q18, Q19, Q20, Q21, Q22, Q23, Q24, Q25, Q26, Q27, Q28, Q29, Q30, Q31, Q32, Q33, Q35, Q36, Q37, Q38, Q39, Q40, Q41, Q42, Q43, Q44, Q45, Q46, Q47, Q48, Q49, Q50, Q51, Q52, Q53, Q54, Q55, Q56, Q57, Q58, Q59, Q60, Q61, Q62, Q63, Q64, Q65, Q66, Q67, Q68, Q69, Q70, Q71, Q72, Q73, Q99, Q100, Q101, Q102, Q103, Q75, Q77, Q78, Q79, Q80, Q81, Q82, Q83, Q84, clr, List.length_nil, List.length_cons, List.getElem?_cons_zero, List.getElem?_cons_succ, Nat.reduceAdd, Nat.zero_add, Nat.add_zero, Nat.reduceLeDiff, Nat.reduceSub, ↓reduceIte, List.drop_succ_cons, List.drop_zero, List.take_succ_cons, List.take_zero, Bool.false_eq_true, List.nil_append, List.cons_append, Bool.not_true, Bool.not_false, cond_true, cond_false, bne, Q85, Q86, Q87, Q88, Q89, Q90, Q91, Q92, Q93, Q94, Q95, Q96, Q97, Q98, Q110, Q111, Q116, Q117, Q118, Q119, Q120, Q121, Q122, Q123, Option.map_some, Option.map_none, Q34]
  · rw [h1]
    refine fin (l.length + 1) v' _ h2 ?_
    rw [hbody, st]
    generalize c13_9 = bb at g1 ⊢
    generalize (CC.seq (.region [] [] c13_10) .ret) = rest
    simp only [c13_0, c13_1, c13_3, q1, q2, hl, g1, h2, Bool.not_true, Bool.and_false, Q0, Q1, Q2, Q3, Q4, Q5, Q6, Q7, Q8, Q9, Q10, Q11, Q12, Q13, Q14, Q15, Q16, Q17, Q18, Q19, Q20, Q21, Q22, Q23, Q24, Q25, Q26, Q27, Q28, Q29, Q30, Q31, Q32, Q33, Q35, Q36, Q37, Q38, Q39, Q40, Q41, Q42, Q43, Q44, Q45, Q46, Q47, Q48, Q49, Q50, Q51, Q52, Q53, Q54, Q55, Q56, Q57, Q58, Q59, Q60, Q61, Q62, Q63, Q64, Q65, Q66, Q67, Q68, Q69, Q70, Q71, Q72, Q73, Q99, Q100, Q101, Q102, Q103, Q75, Q77, Q78, Q79, Q80, Q81, Q82, Q83, Q84, clr, List.length_nil, List.length_cons, List.getElem?_cons_zero, List.getElem?_cons_succ, Nat.reduceAdd, Nat.zero_add, Nat.add_zero, Nat.reduceLeDiff, Nat.reduceSub, ↓reduceIte, List.drop_succ_cons, List.drop_zero, List.take_succ_cons, List.take_zero, Bool.false_eq_true, List.nil_append, List.cons_append, Bool.not_true, Bool.not_false, cond_true, cond_false, bne, Q85, Q86, Q87, Q88, Q89, Q90, Q91, Q92, Q93, Q94, Q95, Q96, Q97, Q98, Q110, Q111, Q116, Q117, Q118, Q119, Q120, Q121, Q122, Q123, Option.map_some, Option.map_none, Q34]
/-! ### What is written into what came out -/
theorem wr_cell {rt : TypeId} {H : List AO} {id ver i : Nat} {L : List AV} {a : AV} {x : En} (hr : H[id]? = some (.row rt 4 ver L 0)) (hi : L[i]? = some a) (ha : IsEn a x) :
    ∃ a' x', IsEn a' x' ∧ Q74 H 1 (.ep 4 id ver i 0) = some (.ep 4 id ver i 1) ∧ Q74 H 0 (.ep 4 id ver i 1) = some (.ep 4 id ver i 1) ∧ Q113 H 1 (.ep 4 id ver i 1) (.v (.int .i64 77)) = some (H.set id (.row rt 4 ver (L.set i a') 0)) := by
  have hlt := (List.getElem?_eq_some_iff.1 hi).1
  have hra := row_at (n := i + 1) hr (by omega)
  have ht : rowT H id = rt := by simp only [rowT, hr]
  cases ha with
  | mk c1 lab hc k d ts hd e =>
    refine ⟨.agg [c1, .v (.int .i64 77), d, .v (.int .i64 e)], _, .mk c1 lab hc 77 d ts hd e, ?_, ?_, ?_⟩
    · simp only [Q74, hra, Option.map_some]
    · simp only [Q74, hra, Option.map_some]
    · have oc : (Value.int IntKind.i64 77).oneCell' = true := rfl
      simp [oc, Q113, hra, hi, AV.snap1, AV.snap0, AV.free0, AV.cl, AV.cells, AV.isCell, putEl, Q112, ht]
def EnRow (H : List AO) (id ver n : Nat) : Prop := ∃ L, H[id]? = some (.row 29 4 ver L 0) ∧ n ≤ L.length ∧ ∀ j, j < n → ∃ a x, L[j]? = some a ∧ IsEn a x
def Only (id : Nat) (H H' : List AO) : Prop := H'.length = H.length ∧ ∀ j, j ≠ id → H'[j]? = H[j]?
theorem Only.refl (id : Nat) (H : List AO) : Only id H H := ⟨rfl, fun _ _ => rfl⟩
theorem Only.set {id : Nat} {H H' : List AO} (h : Only id H H') (o : AO) : Only id H (H'.set id o) := ⟨by rw [List.length_set, h.1], fun j hj => by rw [List.getElem?_set_ne (Ne.symm hj), h.2 j hj]⟩
theorem EnRow.wr {H : List AO} {id ver n i : Nat} (h : EnRow H id ver n) (hi : i < n) : ∃ H', iaV H 4 (.own 4 id ver 0 n) (some i) = some (.ep 4 id ver i 0) ∧ Q74 H 1 (.ep 4 id ver i 0) = some (.ep 4 id ver i 1) ∧ Q74 H 0 (.ep 4 id ver i 1) = some (.ep 4 id ver i 1) ∧ Q113 H 1 (.ep 4 id ver i 1) (.v (.int .i64 77)) = some H' ∧ EnRow H' id ver n ∧ Only id H H' := by
  obtain ⟨L, hr, hn, hL⟩ := h
  obtain ⟨a, x, h1, h2⟩ := hL i hi
  obtain ⟨a', x', e1, e2, e3, e4⟩ := wr_cell hr h1 h2
  have hid := (List.getElem?_eq_some_iff.1 hr).1
  refine ⟨_, row_ia hr hn hi, e2, e3, e4, ⟨L.set i a', by rw [List.getElem?_set_self hid], by simpa using hn, fun j hj => ?_⟩, (Only.refl id H).set _⟩
  by_cases hji : j = i
  · subst hji
    exact ⟨a', x', by rw [List.getElem?_set_self (by omega)], e1⟩
  · obtain ⟨b, y, g1, g2⟩ := hL j hj
    exact ⟨b, y, by rw [List.getElem?_set_ne (Ne.symm hji)]; exact g1, g2⟩
end Go.AE.Ytkdjdhfoodlnfaa
end

/-! LogPuts: the loops of the law, the document's Put. -/
section
set_option linter.unusedVariables false
set_option linter.unusedSimpArgs false
namespace Go.AE.Ytkdjdhfoodlnfaa
open Go Go.AE Go.Proofs.Ytkdjdhfoodlnfaa

def V3 (s u mine a ok : AV) (len i : Int) (x15 : AV) : List AV := [s, .junk, .junk, .junk, u, mine, a, .junk, .junk, .junk, ok, .junk, .junk, .v (.int .i64 len), .v (.int .i64 i), x15]
def K3 : List Bool := [true, false, false, false, true, true, true, false, false, false, true, false, false, true, true, false]
theorem puts_loop {K n id ver : Nat} {s u mine ok : AV} {H : List AO} (hn : n ≤ maxLen) (hE : EnRow H id ver n) (hK : n < K) (v : List AV) (hv : clr K3 v = V3 s u mine (.own 4 id ver 0 n) ok n 0 .junk) :
    ∃ H', Only id H H' ∧ EnRow H' id ver n ∧ loopN (exec (callW F) K c3_13) K3 K v H = some (.exit 0, V3 s u mine (.own 4 id ver 0 n) ok n n (.v (.bool false)), H') := by
  obtain ⟨e, v', h', g1, g2, rfl, rfl, ho, hE'⟩ := loop_rule0 (call := callW F) (K := K) (b := c3_13) (keep := K3) (fun i v h => v = V3 s u mine (.own 4 id ver 0 n) ok n i .junk ∧ EnRow h id ver n ∧ Only id H h)
    (fun e v h => e = .exit 0 ∧ v = V3 s u mine (.own 4 id ver 0 n) ok n n (.v (.bool false)) ∧ Only id H h ∧ EnRow h id ver n) n (m := K) (v := v) (h := H) hK ⟨hv, hE, Only.refl id H⟩ (by
      rintro i v h hi ⟨rfl, he, ho⟩
      by_cases hil : i < n
      · have hlt := lt_t hil
        have hw := wrap_succ hil hn
        obtain ⟨h2, e1, e2, e3, e4, e5, e6⟩ := he.wr hil
        refine ⟨.normal, [s, .junk, .junk, .junk, u, mine, .own 4 id ver 0 n, .junk, .junk, .junk, ok, .v (.int .i64 i), .junk, .v (.int .i64 n), .v (.int .i64 ((i + 1 : Nat) : Int)), .v (.bool true)], h2, ?_, hil, rfl, e5, ⟨by rw [e6.1, ho.1], fun j hj => by rw [e6.2 j hj, ho.2 j hj]⟩⟩
        simp only [V3, c3_13, c3_9, c3_10, c3_11, c3_12, hlt, hw, e1, e2, e3, e4, Q0, Q1, Q2, Q3, Q4, Q5, Q6, Q7, Q8, Q9, Q10, Q11, Q12, Q13, Q14, Q15, Q16, Q17, Q18, Q19, Q20, Q21, Q22, Q23, Q24, Q25, Q26, Q27, Q28, Q29, Q30, Q31, Q32, Q33, Q35, Q36, Q37, Q38, Q39, Q40, Q41, Q42, Q43, Q44, Q45, Q46, Q47, Q48, Q49, Q50, Q51, Q52, Q53, Q54, Q55, Q56, Q57, Q58, Q59, Q60, Q61, Q62, Q63, Q64, Q65, Q66, Q67, Q68, Q69, Q70, Q71, Q72, Q73, Q99, Q100, Q101, Q102, Q103, Q75, Q77, Q78, Q79, Q80, Q81, Q82, Q83, Q84, clr, List.length_nil, List.length_cons, List.getElem?_cons_zero, List.getElem?_cons_succ, Nat.reduceAdd, Nat.zero_add, Nat.add_zero, Nat.reduceLeDiff, Nat.reduceSub, ↓reduceIte, List.drop_succ_cons, List.drop_zero, List.take_succ_cons, List.take_zero, Bool.false_eq_true, List.nil_append, List.cons_append, Bool.not_true, Bool.not_false, cond_true, cond_false, bne, Q85, Q86, Q87, Q88, Q89, Q90, Q91, Q92, Q93, Q94, Q95, Q96, Q97, Q98, Q110, Q111, Q116, Q117, Q118, Q119, Q120, Q121, Q122, Q123, Option.map_some, Option.map_none, Q34]
      · have hie : i = n := by omega
        subst hie
        have hlt := lt_f (n := i)
        refine ⟨.exit 0, V3 s u mine (.own 4 id ver 0 i) ok i i (.v (.bool false)), h, ?_, rfl, rfl, ho, he⟩
        simp only [V3, c3_13, c3_9, hlt, Q0, Q1, Q2, Q3, Q4, Q5, Q6, Q7, Q8, Q9, Q10, Q11, Q12, Q13, Q14, Q15, Q16, Q17, Q18, Q19, Q20, Q21, Q22, Q23, Q24, Q25, Q26, Q27, Q28, Q29, Q30, Q31, Q32, Q33, Q35, Q36, Q37, Q38, Q39, Q40, Q41, Q42, Q43, Q44, Q45, Q46, Q47, Q48, Q49, Q50, Q51, Q52, Q53, Q54, Q55, Q56, Q57, Q58, Q59, Q60, Q61, Q62, Q63, Q64, Q65, Q66, Q67, Q68, Q69, Q70, Q71, Q72, Q73, Q99, Q100, Q101, Q102, Q103, Q75, Q77, Q78, Q79, Q80, Q81, Q82, Q83, Q84, clr, List.length_nil, List.length_cons, List.getElem?_cons_zero, List.getElem?_cons_succ, Nat.reduceAdd, Nat.zero_add, Nat.add_zero, Nat.reduceLeDiff, Nat.reduceSub, ↓reduceIte, List.drop_succ_cons, List.drop_zero, List.take_succ_cons, List.take_zero, Bool.false_eq_true, List.nil_append, List.cons_append, Bool.not_true, Bool.not_false, cond_true, cond_false, bne, Q85, Q86, Q87, Q88, Q89, Q90, Q91, Q92, Q93, Q94, Q95, Q96, Q97, Q98, Q110, Q111, Q116, Q117, Q118, Q119, Q120, Q121, Q122, Q123, Option.map_some, Option.map_none, Q34])
  exact ⟨h', ho, hE', g1⟩
theorem Only.below {id ver n m : Nat} {H H' : List AO} (ho : Only id H H') (hE : EnRow H' id ver n) (hb : H.all (AO.below m) = true) : H'.all (AO.below m) = true := by
  rw [List.all_eq_true] at hb ⊢
  intro o hm
  obtain ⟨j, hj⟩ := List.mem_iff_getElem?.1 hm
  by_cases h : j = id
  · subst h
    obtain ⟨L, hr, _⟩ := hE
    rw [hr] at hj
    cases hj; rfl
  · rw [ho.2 j h] at hj
    exact hb o (List.mem_of_getElem? hj)
theorem enrow_of {H : List AO} {id ver : Nat} {L : List AV} {l : List En} (hr : H[id]? = some (.row 29 4 ver L 0)) (ha : AllR IsEn L l) : EnRow H id ver L.length :=
  ⟨L, hr, Nat.le_refl _, fun j hj => by
    obtain ⟨x, _, hx⟩ := ha.get (List.getElem?_eq_getElem hj)
    exact ⟨_, x, List.getElem?_eq_getElem hj, hx⟩⟩
theorem puts_loop0 {K : Nat} {s u mine ok a : AV} {H : List AO} (hK : 0 < K) (v : List AV) (hv : clr K3 v = V3 s u mine a ok 0 0 .junk) :
    loopN (exec (callW F) K c3_13) K3 K v H = some (.exit 0, V3 s u mine a ok 0 0 (.v (.bool false)), H) := by
  obtain ⟨m, rfl⟩ : ∃ m, K = m + 1 := ⟨K - 1, by omega⟩
  refine loop_exit ?_
  rw [hv]
  have hlt : decide ((0 : Int) < 0) = false := rfl
  simp only [V3, c3_13, c3_9, hlt, Q0, Q1, Q2, Q3, Q4, Q5, Q6, Q7, Q8, Q9, Q10, Q11, Q12, Q13, Q14, Q15, Q16, Q17, Q18, Q19, Q20, Q21, Q22, Q23, Q24, Q25, Q26, Q27, Q28, Q29, Q30, Q31, Q32, Q33, Q35, Q36, Q37, Q38, Q39, Q40, Q41, Q42, Q43, Q44, Q45, Q46, Q47, Q48, Q49, Q50, Q51, Q52, Q53, Q54, Q55, Q56, Q57, Q58, Q59, Q60, Q61, Q62, Q63, Q64, Q65, Q66, Q67, Q68, Q69, Q70, Q71, Q72, Q73, Q99, Q100, Q101, Q102, Q103, Q75, Q77, Q78, Q79, Q80, Q81, Q82, Q83, Q84, clr, List.length_nil, List.length_cons, List.getElem?_cons_zero, List.getElem?_cons_succ, Nat.reduceAdd, Nat.zero_add, Nat.add_zero, Nat.reduceLeDiff, Nat.reduceSub, ↓reduceIte, List.drop_succ_cons, List.drop_zero, List.take_succ_cons, List.take_zero, Bool.false_eq_true, List.nil_append, List.cons_append, Bool.not_true, Bool.not_false, cond_true, cond_false, bne, Q85, Q86, Q87, Q88, Q89, Q90, Q91, Q92, Q93, Q94, Q95, Q96, Q97, Q98, Q110, Q111, Q116, Q117, Q118, Q119, Q120, Q121, Q122, Q123, Option.map_some, Option.map_none, Q34]
end Go.AE.Ytkdjdhfoodlnfaa
end

/-! The document's Put: walked. -/
section
set_option linter.unusedVariables false
set_option linter.unusedSimpArgs false
namespace Go.AE.Ytkdjdhfoodlnfaa
open Go Go.AE Go.Proofs.Ytkdjdhfoodlnfaa

/-! ### Plain -/
def anyL (y : List Int) : List En → Bool
  | [] => false
  | x :: l => if (cmpL x.lab y == 0) = true then true else anyL y l
def ltL (y : List Int) : List En → List En
  | [] => []
  | x :: l => if decide (cmpL x.lab y < 0) = true then x :: ltL y l else ltL y l
def gtL (y : List Int) : List En → List En
  | [] => []
  | x :: l => if decide (cmpL x.lab y > 0) = true then x :: gtL y l else gtL y l
theorem any_iff {y : List Int} {l : List En} : anyL y l = true ↔ ∃ x ∈ l, x.lab = y := by
  induction l with
  | nil => simp [anyL]
  | cons a l ih =>
    rw [anyL]
    by_cases h : cmpL a.lab y = 0
    · rw [if_pos (by simpa using h)]
      simp [(cmp_zero _ _).1 h]
    · rw [if_neg (by simpa using h), ih]
      have hne : a.lab ≠ y := fun e => h ((cmp_zero _ _).2 e)
      simp [hne]
theorem lt_none {y : List Int} : ∀ (l : List En), (∀ x ∈ l, cmpL y x.lab < 0) → ltL y l = [] ∧ gtL y l = l
  | [], _ => ⟨rfl, rfl⟩
  | x :: l, h => by
    obtain ⟨h1, h2⟩ := lt_none l (fun x hx => h x (List.mem_cons_of_mem _ hx))
    have hx := h x (List.mem_cons_self ..)
    have := cmp_anti y x.lab
    rw [ltL, gtL, h1, h2, if_neg (by simp; omega), if_pos (by simp; omega)]
    exact ⟨rfl, rfl⟩
theorem put_parts {l : List En} {e : En} {m : List En} (ho : ordL l = true) (h : putL l e = some m) : m = ltL e.lab l ++ e :: gtL e.lab l := by
  induction l generalizing m with
  | nil => simp [putL] at h; subst h; rfl
  | cons a l ih =>
    obtain ⟨h1, h2⟩ := ord_cons.1 ho
    rw [putL] at h
    split at h
    · rename_i hlt
      cases hp : putL l e with
      | none => rw [hp] at h; cases h
      | some m' =>
        rw [hp] at h
        simp at h
        subst h
        rw [ih h2 hp, ltL, gtL, if_pos (by simpa using hlt), if_neg (by simp; omega)]
        rfl
    · split at h
      · cases h
      · rename_i h3 h4
        simp at h
        subst h
        have h5 : cmpL e.lab a.lab < 0 := by rw [cmp_anti]; omega
        obtain ⟨g1, g2⟩ := lt_none (y := e.lab) (a :: l) (fun x hx => by
          rcases List.mem_cons.1 hx with rfl | hx
          · exact h5
          · exact cmp_trans _ _ _ h5 (h1 x hx))
        rw [g1, g2]; rfl
theorem lt_len (y : List Int) : ∀ (l : List En), (ltL y l).length ≤ l.length
  | [] => Nat.le_refl _
  | x :: l => by
    have := lt_len y l
    rw [ltL, List.length_cons]
    split
    · rw [List.length_cons]; omega
    · omega
theorem gt_len (y : List Int) : ∀ (l : List En), (gtL y l).length ≤ l.length
  | [] => Nat.le_refl _
  | x :: l => by
    have := gt_len y l
    rw [gtL, List.length_cons]
    split
    · rw [List.length_cons]; omega
    · omega
/-! ### The loops -/
def K12 : List Bool := [true, false, true, false, false, false, false, false, false, true, true, true, false, false, false, false, false, false, false, false, false, false, false, false]
def V12 (s : AV) (len i : Int) (x12 : AV) : List AV := [s, .junk, .ptr 0 0, .junk, .junk, .junk, .junk, .junk, .junk, s, .v (.int .i64 len), .v (.int .i64 i), x12, .junk, .junk, .junk, .junk, .junk, .junk, .junk, .junk, .junk, .junk, .junk]
section
variable {K : Nat} {s cy : AV} {rest : List AV} {l : List En} {y : List Int}
theorem any_loop (hs : Lg s l) (hy : Ns cy y) (hK : l.length < K) (v : List AV) (h0 : List AO) (hh : h0[0]? = some (.box 29 (cy :: rest))) (hv : clr K12 v = V12 s l.length 0 .junk) :
    ∃ e v' h', loopN (exec (callW F) K c12_7) K12 K v h0 = some (e, v', h') ∧ ((anyL y l = true ∧ e = .ret ∧ getO v' [] (.var 3) = .v (.slice none 0 0) ∧ getO v' [] (.var 4) = .v (.int .i64 1)) ∨ (anyL y l = false ∧ e = .exit 0 ∧ v' = V12 s l.length l.length (.v (.bool false)) ∧ h'[0]? = some (.box 29 (cy :: rest)))) := by
  obtain ⟨e, v', h', g1, g2, g3⟩ := loop_rule0 (call := callW F) (K := K) (b := c12_7) (keep := K12) (fun i v h => h[0]? = some (.box 29 (cy :: rest)) ∧ v = V12 s l.length i .junk ∧ anyL y (l.drop i) = anyL y l)
    (fun e v h' => (anyL y l = true ∧ e = .ret ∧ getO v [] (.var 3) = .v (.slice none 0 0) ∧ getO v [] (.var 4) = .v (.int .i64 1)) ∨ (anyL y l = false ∧ e = .exit 0 ∧ v = V12 s l.length l.length (.v (.bool false)) ∧ h'[0]? = some (.box 29 (cy :: rest)))) l.length (m := K) (v := v) (h := h0) hK ⟨hh, hv, rfl⟩ (by
      rintro i v h' hi ⟨hh, rfl, hR⟩
      by_cases hil : i < l.length
      · have hlt := lt_t hil
        have hw := wrap_succ hil hs.max
        obtain ⟨c1, k, dd, e, e1, n1, _, t1, _⟩ := hs.at hil
        have z : (ofVal (.agg #[.slice none 0 0, .int .i64 0, .slice none 0 0, .int .i64 0])).cl = some [.v (.slice none 0 0), .v (.int .i64 0), .v (.slice none 0 0), .v (.int .i64 0)] := by kernel_rfl
        have cl := (IsEn.mk c1 l[i].lab n1 k dd l[i].terms t1 e).cl
        simp only [AV.cells] at cl
        have st : Q113 (h' ++ [.box 29 [.v (.slice none 0 0), .v (.int .i64 0), .v (.slice none 0 0), .v (.int .i64 0)]]) 4 (.ptr h'.length 0) (.agg [c1, .v (.int .i64 k), dd, .v (.int .i64 e)]) = some (h' ++ [.box 29 [c1, .v (.int .i64 k), dd, .v (.int .i64 e)]]) := st_new cl rfl rfl
        have ld0 : Q76 (h' ++ [.box 29 [c1, .v (.int .i64 k), dd, .v (.int .i64 e)]]) false 1 (.ptr h'.length 0) = some c1 := by rw [ld_new]; rfl
        have ldE : Q76 (h' ++ [.box 29 [c1, .v (.int .i64 k), dd, .v (.int .i64 e)]]) false 1 (.ptr 0 0) = some cy := by
          rw [bx_ld (his_get hh)]; first | rfl | simp [Q77]
        have hcm := rcompare_ok n1 hy
        have s1 := fun H => n1.sn H
        have s2 := fun H => hy.sn H
        rw [List.drop_eq_getElem_cons hil, anyL] at hR
        cases hq : (cmpL l[i].lab y == 0) with
        | true =>
          rw [hq, if_pos rfl] at hR
          refine ⟨.ret, [s, .junk, .ptr 0 0, .v (.slice none 0 0), .v (.int .i64 1), .ptr h'.length 0, .junk, .junk, .junk, s, .v (.int .i64 l.length), .v (.int .i64 i), .v (.bool true), .v (.bool true), .junk, .junk, .junk, .junk, .junk, .junk, .junk, .junk, .junk, .junk], h' ++ [.box 29 [c1, .v (.int .i64 k), dd, .v (.int .i64 e)]], ?_, .inl ⟨hR.symm, rfl, rfl, rfl⟩⟩
          simp only [V12, c12_7, c12_2, c12_3, c12_4, c12_5, hlt, hw, e1, ip_ld4, z, st, ld0, ldE, s1, s2, hcm, hq, Q0, Q1, Q2, Q3, Q4, Q5, Q6, Q7, Q8, Q9, Q10, Q11, Q12, Q13, Q14, Q15, Q16, Q17, Q18, Q19, Q20, Q21, Q22, Q23, Q24, Q25, Q26, Q27, Q28, Q29, Q30, Q31, Q32, Q33, Q35, Q36, Q37, Q38, Q39, Q40, Q41, Q42, Q43, Q44, Q45, Q46, Q47, Q48, Q49, Q50, Q51, Q52, Q53, Q54, Q55, Q56, Q57, Q58, Q59, Q60, Q61, Q62, Q63, Q64, Q65, Q66, Q67, Q68, Q69, Q70, Q71, Q72, Q73, Q99, Q100, Q101, Q102, Q103, Q74, Q75, Q77, Q78, Q79, Q80, Q81, Q82, Q83, Q84, clr, List.length_nil, List.length_cons, List.getElem?_cons_zero, List.getElem?_cons_succ, Nat.reduceAdd, Nat.zero_add, Nat.add_zero, Nat.reduceLeDiff, Nat.reduceSub, ↓reduceIte, List.drop_succ_cons, List.drop_zero, List.take_succ_cons, List.take_zero, Bool.false_eq_true, List.nil_append, List.cons_append, Bool.not_true, Bool.not_false, cond_true, cond_false, bne, Q85, Q86, Q87, Q88, Q89, Q90, Q91, Q92, Q93, Q94, Q95, Q96, Q97, Q98, Q110, Q111, Q116, Q117, Q118, Q119, Q120, Q121, Q122, Q123, Option.map_some, Option.map_none, Q34]
        | false =>
          rw [hq, if_neg (by simp)] at hR
          refine ⟨.normal, [s, .junk, .ptr 0 0, .junk, .junk, .ptr h'.length 0, .junk, .junk, .junk, s, .v (.int .i64 l.length), .v (.int .i64 ((i + 1 : Nat) : Int)), .v (.bool true), .v (.bool false), .junk, .junk, .junk, .junk, .junk, .junk, .junk, .junk, .junk, .junk], h' ++ [.box 29 [c1, .v (.int .i64 k), dd, .v (.int .i64 e)]], ?_, hil, his_get hh, rfl, hR⟩
          simp only [V12, c12_7, c12_2, c12_3, c12_4, c12_6, hlt, hw, e1, ip_ld4, z, st, ld0, ldE, s1, s2, hcm, hq, Q0, Q1, Q2, Q3, Q4, Q5, Q6, Q7, Q8, Q9, Q10, Q11, Q12, Q13, Q14, Q15, Q16, Q17, Q18, Q19, Q20, Q21, Q22, Q23, Q24, Q25, Q26, Q27, Q28, Q29, Q30, Q31, Q32, Q33, Q35, Q36, Q37, Q38, Q39, Q40, Q41, Q42, Q43, Q44, Q45, Q46, Q47, Q48, Q49, Q50, Q51, Q52, Q53, Q54, Q55, Q56, Q57, Q58, Q59, Q60, Q61, Q62, Q63, Q64, Q65, Q66, Q67, Q68, Q69, Q70, Q71, Q72, Q73, Q99, Q100, Q101, Q102, Q103, Q74, Q75, Q77, Q78, Q79, Q80, Q81, Q82, Q83, Q84, clr, List.length_nil, List.length_cons, List.getElem?_cons_zero, List.getElem?_cons_succ, Nat.reduceAdd, Nat.zero_add, Nat.add_zero, Nat.reduceLeDiff, Nat.reduceSub, ↓reduceIte, List.drop_succ_cons, List.drop_zero, List.take_succ_cons, List.take_zero, Bool.false_eq_true, List.nil_append, List.cons_append, Bool.not_true, Bool.not_false, cond_true, cond_false, bne, Q85, Q86, Q87, Q88, Q89, Q90, Q91, Q92, Q93, Q94, Q95, Q96, Q97, Q98, Q110, Q111, Q116, Q117, Q118, Q119, Q120, Q121, Q122, Q123, Option.map_some, Option.map_none, Q34]
      · have hie : i = l.length := by omega
        subst hie
        have hlt := lt_f (n := l.length)
        rw [List.drop_length, anyL] at hR
        refine ⟨.exit 0, V12 s l.length l.length (.v (.bool false)), h', ?_, .inr ⟨hR.symm, rfl, rfl, hh⟩⟩
        simp only [V12, c12_7, c12_2, hlt, Q0, Q1, Q2, Q3, Q4, Q5, Q6, Q7, Q8, Q9, Q10, Q11, Q12, Q13, Q14, Q15, Q16, Q17, Q18, Q19, Q20, Q21, Q22, Q23, Q24, Q25, Q26, Q27, Q28, Q29, Q30, Q31, Q32, Q33, Q35, Q36, Q37, Q38, Q39, Q40, Q41, Q42, Q43, Q44, Q45, Q46, Q47, Q48, Q49, Q50, Q51, Q52, Q53, Q54, Q55, Q56, Q57, Q58, Q59, Q60, Q61, Q62, Q63, Q64, Q65, Q66, Q67, Q68, Q69, Q70, Q71, Q72, Q73, Q99, Q100, Q101, Q102, Q103, Q74, Q75, Q77, Q78, Q79, Q80, Q81, Q82, Q83, Q84, clr, List.length_nil, List.length_cons, List.getElem?_cons_zero, List.getElem?_cons_succ, Nat.reduceAdd, Nat.zero_add, Nat.add_zero, Nat.reduceLeDiff, Nat.reduceSub, ↓reduceIte, List.drop_succ_cons, List.drop_zero, List.take_succ_cons, List.take_zero, Bool.false_eq_true, List.nil_append, List.cons_append, Bool.not_true, Bool.not_false, cond_true, cond_false, bne, Q85, Q86, Q87, Q88, Q89, Q90, Q91, Q92, Q93, Q94, Q95, Q96, Q97, Q98, Q110, Q111, Q116, Q117, Q118, Q119, Q120, Q121, Q122, Q123, Option.map_some, Option.map_none, Q34])
  exact ⟨e, v', h', g1, g3⟩
def K12b : List Bool := [true, false, true, false, false, false, true, false, false, false, false, false, false, false, true, true, true, false, false, false, false, false, false, false]
def V12b (s c : AV) (len i : Int) (x17 : AV) : List AV := [s, .junk, .ptr 0 0, .junk, .junk, .junk, c, .junk, .junk, .junk, .junk, .junk, .junk, .junk, s, .v (.int .i64 len), .v (.int .i64 i), x17, .junk, .junk, .junk, .junk, .junk, .junk]
theorem lt_loop (hs : Lg s l) (hl : l.length ≤ 1000) (hy : Ns cy y) (hK : l.length < K) (v : List AV) (h0 : List AO) (hh : h0[0]? = some (.box 29 (cy :: rest))) (hv : clr K12b v = V12b s (.v (.slice none 0 0)) l.length 0 .junk) :
    ∃ c es h', loopN (exec (callW F) K c12_15) K12b K v h0 = some (.exit 2, V12b s c l.length l.length (.v (.bool false)), h') ∧ h'[0]? = some (.box 29 (cy :: rest)) ∧ Acc 29 4 h' c es ∧ AllR IsEn es (ltL y l) := by
  obtain ⟨e, v', h', g1, g2, rfl, c, es, rfl, g3, g4, g5⟩ := loop_rule0 (call := callW F) (K := K) (b := c12_15) (keep := K12b) (fun i v h => h[0]? = some (.box 29 (cy :: rest)) ∧ ∃ c es acc, v = V12b s c l.length i .junk ∧ Acc 29 4 h c es ∧ AllR IsEn es acc ∧ es.length ≤ i ∧ acc ++ ltL y (l.drop i) = ltL y l)
    (fun e v h' => e = .exit 2 ∧ ∃ c es, v = V12b s c l.length l.length (.v (.bool false)) ∧ h'[0]? = some (.box 29 (cy :: rest)) ∧ Acc 29 4 h' c es ∧ AllR IsEn es (ltL y l)) l.length (m := K) (v := v) (h := h0) hK ⟨hh, _, [], [], hv, .nil, .nil, Nat.le_refl _, rfl⟩ (by
      rintro i v h' hi ⟨hh, c, es, acc, rfl, hA, hR, hel, hac⟩
      by_cases hil : i < l.length
      · have hlt := lt_t hil
        have hw := wrap_succ hil hs.max
        obtain ⟨c1, k, dd, e, e1, n1, y1, t1, y2⟩ := hs.at hil
        have hE := IsEn.mk c1 l[i].lab n1 k dd l[i].terms t1 e
        have hxe : (⟨l[i].lab, k, l[i].terms, e⟩ : En) = l[i] := by rw [y1, y2]
        have z : (ofVal (.agg #[.slice none 0 0, .int .i64 0, .slice none 0 0, .int .i64 0])).cl = some [.v (.slice none 0 0), .v (.int .i64 0), .v (.slice none 0 0), .v (.int .i64 0)] := by kernel_rfl
        have cl := hE.cl
        have sn := hE.elm.snap
        have ldn := hE.elm.ldn (bt := 29) h'
        simp only [AV.cells] at cl ldn
        have bz : ∀ h : List AO, bs1 h 4 (some (.agg [c1, .v (.int .i64 k), dd, .v (.int .i64 e)])) = some (.slc 4 true true [.agg [c1, .v (.int .i64 k), dd, .v (.int .i64 e)]], h) := fun h => bs1_some cl rfl
        have st : Q113 (h' ++ [.box 29 [.v (.slice none 0 0), .v (.int .i64 0), .v (.slice none 0 0), .v (.int .i64 0)]]) 4 (.ptr h'.length 0) (.agg [c1, .v (.int .i64 k), dd, .v (.int .i64 e)]) = some (h' ++ [.box 29 [c1, .v (.int .i64 k), dd, .v (.int .i64 e)]]) := st_new cl rfl rfl
        have ld0 : Q76 (h' ++ [.box 29 [c1, .v (.int .i64 k), dd, .v (.int .i64 e)]]) false 1 (.ptr h'.length 0) = some c1 := by rw [ld_new]; rfl
        have ldE : Q76 (h' ++ [.box 29 [c1, .v (.int .i64 k), dd, .v (.int .i64 e)]]) false 1 (.ptr 0 0) = some cy := by
          rw [bx_ld (his_get hh)]; first | rfl | simp [Q77]
        have hcm := rcompare_ok n1 hy
        have s1 := fun H => n1.sn H
        have s2 := fun H => hy.sn H
        have hA' : Acc 29 4 (h' ++ [.box 29 [c1, .v (.int .i64 k), dd, .v (.int .i64 e)]]) c es := by
          cases hA with
          | nil => exact .nil
          | own id ver k es hr hk hne => exact .own id ver k es (his_get hr) hk hne
        rw [List.drop_eq_getElem_cons hil, ltL] at hac
        cases hq : decide (cmpL l[i].lab y < 0) with
        | true =>
          rw [hq, if_pos rfl] at hac
          obtain ⟨c', h2, f1, f2, f3⟩ := hA'.add' (bytes := 64) (x := .slc 4 true true [.agg [c1, .v (.int .i64 k), dd, .v (.int .i64 e)]]) (ys := [.agg [c1, .v (.int .i64 k), dd, .v (.int .i64 e)]]) rfl (fits_small (by simp only [List.length_cons, List.length_nil]; omega) (by omega))
          refine ⟨.normal, [s, .junk, .ptr 0 0, .junk, .junk, .junk, c', .ptr h'.length 0, .junk, .junk, .junk, .junk, .junk, .junk, s, .v (.int .i64 l.length), .v (.int .i64 ((i + 1 : Nat) : Int)), .v (.bool true), .v (.bool true), .junk, .junk, .junk, .junk, .junk], h2, ?_, hil, f3.box (his_get hh), c', _, acc ++ [l[i]], rfl, f2, AllR.app hR (.one (hxe ▸ hE)), by simp only [List.length_append, List.length_cons, List.length_nil]; omega, by rw [List.append_assoc]; exact hac⟩
          simp only [V12b, c12_15, c12_10, c12_11, c12_12, c12_13, c12_14, hlt, hw, e1, ip_ld4, z, st, ld0, ldE, ldn, sn, bz, s1, s2, hcm, hq, Q104, e_append, f1, Q0, Q1, Q2, Q3, Q4, Q5, Q6, Q7, Q8, Q9, Q10, Q11, Q12, Q13, Q14, Q15, Q16, Q17, Q18, Q19, Q20, Q21, Q22, Q23, Q24, Q25, Q26, Q27, Q28, Q29, Q30, Q31, Q32, Q33, Q35, Q36, Q37, Q38, Q39, Q40, Q41, Q42, Q43, Q44, Q45, Q46, Q47, Q48, Q49, Q50, Q51, Q52, Q53, Q54, Q55, Q56, Q57, Q58, Q59, Q60, Q61, Q62, Q63, Q64, Q65, Q66, Q67, Q68, Q69, Q70, Q71, Q72, Q73, Q99, Q100, Q101, Q102, Q103, Q74, Q75, Q77, Q78, Q79, Q80, Q81, Q82, Q83, Q84, clr, List.length_nil, List.length_cons, List.getElem?_cons_zero, List.getElem?_cons_succ, Nat.reduceAdd, Nat.zero_add, Nat.add_zero, Nat.reduceLeDiff, Nat.reduceSub, ↓reduceIte, List.drop_succ_cons, List.drop_zero, List.take_succ_cons, List.take_zero, Bool.false_eq_true, List.nil_append, List.cons_append, Bool.not_true, Bool.not_false, cond_true, cond_false, bne, Q85, Q86, Q87, Q88, Q89, Q90, Q91, Q92, Q93, Q94, Q95, Q96, Q97, Q98, Q110, Q111, Q116, Q117, Q118, Q119, Q120, Q121, Q122, Q123, Option.map_some, Option.map_none, Q34]
        | false =>
          rw [hq, if_neg (by simp)] at hac
          refine ⟨.normal, [s, .junk, .ptr 0 0, .junk, .junk, .junk, c, .ptr h'.length 0, .junk, .junk, .junk, .junk, .junk, .junk, s, .v (.int .i64 l.length), .v (.int .i64 ((i + 1 : Nat) : Int)), .v (.bool true), .v (.bool false), .junk, .junk, .junk, .junk, .junk], h' ++ [.box 29 [c1, .v (.int .i64 k), dd, .v (.int .i64 e)]], ?_, hil, his_get hh, c, es, acc, rfl, hA', hR, by omega, hac⟩
          simp only [V12b, c12_15, c12_10, c12_11, c12_12, c12_14, hlt, hw, e1, ip_ld4, z, st, ld0, ldE, s1, s2, hcm, hq, Q0, Q1, Q2, Q3, Q4, Q5, Q6, Q7, Q8, Q9, Q10, Q11, Q12, Q13, Q14, Q15, Q16, Q17, Q18, Q19, Q20, Q21, Q22, Q23, Q24, Q25, Q26, Q27, Q28, Q29, Q30, Q31, Q32, Q33, Q35, Q36, Q37, Q38, Q39, Q40, Q41, Q42, Q43, Q44, Q45, Q46, Q47, Q48, Q49, Q50, Q51, Q52, Q53, Q54, Q55, Q56, Q57, Q58, Q59, Q60, Q61, Q62, Q63, Q64, Q65, Q66, Q67, Q68, Q69, Q70, Q71, Q72, Q73, Q99, Q100, Q101, Q102, Q103, Q74, Q75, Q77, Q78, Q79, Q80, Q81, Q82, Q83, Q84, clr, List.length_nil, List.length_cons, List.getElem?_cons_zero, List.getElem?_cons_succ, Nat.reduceAdd, Nat.zero_add, Nat.add_zero, Nat.reduceLeDiff, Nat.reduceSub, ↓reduceIte, List.drop_succ_cons, List.drop_zero, List.take_succ_cons, List.take_zero, Bool.false_eq_true, List.nil_append, List.cons_append, Bool.not_true, Bool.not_false, cond_true, cond_false, bne, Q85, Q86, Q87, Q88, Q89, Q90, Q91, Q92, Q93, Q94, Q95, Q96, Q97, Q98, Q110, Q111, Q116, Q117, Q118, Q119, Q120, Q121, Q122, Q123, Option.map_some, Option.map_none, Q34]
      · have hie : i = l.length := by omega
        subst hie
        have hlt := lt_f (n := l.length)
        rw [List.drop_length, ltL, List.append_nil] at hac
        refine ⟨.exit 2, V12b s c l.length l.length (.v (.bool false)), h', ?_, rfl, c, es, rfl, hh, hA, hac ▸ hR⟩
        simp only [V12b, c12_15, c12_10, hlt, Q0, Q1, Q2, Q3, Q4, Q5, Q6, Q7, Q8, Q9, Q10, Q11, Q12, Q13, Q14, Q15, Q16, Q17, Q18, Q19, Q20, Q21, Q22, Q23, Q24, Q25, Q26, Q27, Q28, Q29, Q30, Q31, Q32, Q33, Q35, Q36, Q37, Q38, Q39, Q40, Q41, Q42, Q43, Q44, Q45, Q46, Q47, Q48, Q49, Q50, Q51, Q52, Q53, Q54, Q55, Q56, Q57, Q58, Q59, Q60, Q61, Q62, Q63, Q64, Q65, Q66, Q67, Q68, Q69, Q70, Q71, Q72, Q73, Q99, Q100, Q101, Q102, Q103, Q74, Q75, Q77, Q78, Q79, Q80, Q81, Q82, Q83, Q84, clr, List.length_nil, List.length_cons, List.getElem?_cons_zero, List.getElem?_cons_succ, Nat.reduceAdd, Nat.zero_add, Nat.add_zero, Nat.reduceLeDiff, Nat.reduceSub, ↓reduceIte, List.drop_succ_cons, List.drop_zero, List.take_succ_cons, List.take_zero, Bool.false_eq_true, List.nil_append, List.cons_append, Bool.not_true, Bool.not_false, cond_true, cond_false, bne, Q85, Q86, Q87, Q88, Q89, Q90, Q91, Q92, Q93, Q94, Q95, Q96, Q97, Q98, Q110, Q111, Q116, Q117, Q118, Q119, Q120, Q121, Q122, Q123, Option.map_some, Option.map_none, Q34])
  exact ⟨c, es, h', g1, g3, g4, g5⟩
def K12c : List Bool := [false, false, true, false, false, false, true, false, false, false, false, false, false, false, false, false, false, false, false, true, true, true, false, false]
def V12c (s c : AV) (len i : Int) (x22 : AV) : List AV := [.junk, .junk, .ptr 0 0, .junk, .junk, .junk, c, .junk, .junk, .junk, .junk, .junk, .junk, .junk, .junk, .junk, .junk, .junk, .junk, s, .v (.int .i64 len), .v (.int .i64 i), x22, .junk]
theorem gt_loop (hs : Lg s l) (hl : l.length ≤ 1000) (hy : Ns cy y) (hK : l.length < K) {c0 : AV} {es0 : List AV} {acc0 : List En} (v : List AV) (h0 : List AO) (hA0 : Acc 29 4 h0 c0 es0) (hR0 : AllR IsEn es0 acc0) (hm0 : es0.length ≤ 1001) (hh : h0[0]? = some (.box 29 (cy :: rest))) (hv : clr K12c v = V12c s c0 l.length 0 .junk) :
    ∃ c es h', loopN (exec (callW F) K c12_23) K12c K v h0 = some (.exit 4, V12c s c l.length l.length (.v (.bool false)), h') ∧ h'[0]? = some (.box 29 (cy :: rest)) ∧ Acc 29 4 h' c es ∧ AllR IsEn es (acc0 ++ gtL y l) := by
  obtain ⟨e, v', h', g1, g2, rfl, c, es, rfl, g3, g4, g5⟩ := loop_rule0 (call := callW F) (K := K) (b := c12_23) (keep := K12c) (fun i v h => h[0]? = some (.box 29 (cy :: rest)) ∧ ∃ c es acc, v = V12c s c l.length i .junk ∧ Acc 29 4 h c es ∧ AllR IsEn es acc ∧ es.length ≤ 1001 + i ∧ acc ++ gtL y (l.drop i) = acc0 ++ gtL y l)
    (fun e v h' => e = .exit 4 ∧ ∃ c es, v = V12c s c l.length l.length (.v (.bool false)) ∧ h'[0]? = some (.box 29 (cy :: rest)) ∧ Acc 29 4 h' c es ∧ AllR IsEn es (acc0 ++ gtL y l)) l.length (m := K) (v := v) (h := h0) hK ⟨hh, _, es0, acc0, hv, hA0, hR0, by omega, rfl⟩ (by
      rintro i v h' hi ⟨hh, c, es, acc, rfl, hA, hR, hel, hac⟩
      by_cases hil : i < l.length
      · have hlt := lt_t hil
        have hw := wrap_succ hil hs.max
        obtain ⟨c1, k, dd, e, e1, n1, y1, t1, y2⟩ := hs.at hil
        have hE := IsEn.mk c1 l[i].lab n1 k dd l[i].terms t1 e
        have hxe : (⟨l[i].lab, k, l[i].terms, e⟩ : En) = l[i] := by rw [y1, y2]
        have z : (ofVal (.agg #[.slice none 0 0, .int .i64 0, .slice none 0 0, .int .i64 0])).cl = some [.v (.slice none 0 0), .v (.int .i64 0), .v (.slice none 0 0), .v (.int .i64 0)] := by kernel_rfl
        have cl := hE.cl
        have sn := hE.elm.snap
        have ldn := hE.elm.ldn (bt := 29) h'
        simp only [AV.cells] at cl ldn
        have bz : ∀ h : List AO, bs1 h 4 (some (.agg [c1, .v (.int .i64 k), dd, .v (.int .i64 e)])) = some (.slc 4 true true [.agg [c1, .v (.int .i64 k), dd, .v (.int .i64 e)]], h) := fun h => bs1_some cl rfl
        have st : Q113 (h' ++ [.box 29 [.v (.slice none 0 0), .v (.int .i64 0), .v (.slice none 0 0), .v (.int .i64 0)]]) 4 (.ptr h'.length 0) (.agg [c1, .v (.int .i64 k), dd, .v (.int .i64 e)]) = some (h' ++ [.box 29 [c1, .v (.int .i64 k), dd, .v (.int .i64 e)]]) := st_new cl rfl rfl
        have ld0 : Q76 (h' ++ [.box 29 [c1, .v (.int .i64 k), dd, .v (.int .i64 e)]]) false 1 (.ptr h'.length 0) = some c1 := by rw [ld_new]; rfl
        have ldE : Q76 (h' ++ [.box 29 [c1, .v (.int .i64 k), dd, .v (.int .i64 e)]]) false 1 (.ptr 0 0) = some cy := by
          rw [bx_ld (his_get hh)]; first | rfl | simp [Q77]
        have hcm := rcompare_ok n1 hy
        have s1 := fun H => n1.sn H
        have s2 := fun H => hy.sn H
        have hA' : Acc 29 4 (h' ++ [.box 29 [c1, .v (.int .i64 k), dd, .v (.int .i64 e)]]) c es := by
          cases hA with
          | nil => exact .nil
          | own id ver k es hr hk hne => exact .own id ver k es (his_get hr) hk hne
        rw [List.drop_eq_getElem_cons hil, gtL] at hac
        cases hq : decide (cmpL l[i].lab y > 0) with
        | true =>
          rw [hq, if_pos rfl] at hac
          obtain ⟨c', h2, f1, f2, f3⟩ := hA'.add' (bytes := 64) (x := .slc 4 true true [.agg [c1, .v (.int .i64 k), dd, .v (.int .i64 e)]]) (ys := [.agg [c1, .v (.int .i64 k), dd, .v (.int .i64 e)]]) rfl (fits_small (by simp only [List.length_cons, List.length_nil]; omega) (by omega))
          refine ⟨.normal, [.junk, .junk, .ptr 0 0, .junk, .junk, .junk, c', .junk, .ptr h'.length 0, .junk, .junk, .junk, .junk, .junk, .junk, .junk, .junk, .junk, .junk, s, .v (.int .i64 l.length), .v (.int .i64 ((i + 1 : Nat) : Int)), .v (.bool true), .v (.bool true)], h2, ?_, hil, f3.box (his_get hh), c', _, acc ++ [l[i]], rfl, f2, AllR.app hR (.one (hxe ▸ hE)), by simp only [List.length_append, List.length_cons, List.length_nil]; omega, by rw [List.append_assoc]; exact hac⟩
          simp only [V12c, c12_23, c12_18, c12_19, c12_20, c12_21, c12_22, hlt, hw, e1, ip_ld4, z, st, ld0, ldE, ldn, sn, bz, s1, s2, hcm, hq, Q104, e_append, f1, Q0, Q1, Q2, Q3, Q4, Q5, Q6, Q7, Q8, Q9, Q10, Q11, Q12, Q13, Q14, Q15, Q16, Q17, Q18, Q19, Q20, Q21, Q22, Q23, Q24, Q25, Q26, Q27, Q28, Q29, Q30, Q31, Q32, Q33, Q35, Q36, Q37, Q38, Q39, Q40, Q41, Q42, Q43, Q44, Q45, Q46, Q47, Q48, Q49, Q50, Q51, Q52, Q53, Q54, Q55, Q56, Q57, Q58, Q59, Q60, Q61, Q62, Q63, Q64, Q65, Q66, Q67, Q68, Q69, Q70, Q71, Q72, Q73, Q99, Q100, Q101, Q102, Q103, Q74, Q75, Q77, Q78, Q79, Q80, Q81, Q82, Q83, Q84, clr, List.length_nil, List.length_cons, List.getElem?_cons_zero, List.getElem?_cons_succ, Nat.reduceAdd, Nat.zero_add, Nat.add_zero, Nat.reduceLeDiff, Nat.reduceSub, ↓reduceIte, List.drop_succ_cons, List.drop_zero, List.take_succ_cons, List.take_zero, Bool.false_eq_true, List.nil_append, List.cons_append, Bool.not_true, Bool.not_false, cond_true, cond_false, bne, Q85, Q86, Q87, Q88, Q89, Q90, Q91, Q92, Q93, Q94, Q95, Q96, Q97, Q98, Q110, Q111, Q116, Q117, Q118, Q119, Q120, Q121, Q122, Q123, Option.map_some, Option.map_none, Q34]
        | false =>
          rw [hq, if_neg (by simp)] at hac
          refine ⟨.normal, [.junk, .junk, .ptr 0 0, .junk, .junk, .junk, c, .junk, .ptr h'.length 0, .junk, .junk, .junk, .junk, .junk, .junk, .junk, .junk, .junk, .junk, s, .v (.int .i64 l.length), .v (.int .i64 ((i + 1 : Nat) : Int)), .v (.bool true), .v (.bool false)], h' ++ [.box 29 [c1, .v (.int .i64 k), dd, .v (.int .i64 e)]], ?_, hil, his_get hh, c, es, acc, rfl, hA', hR, by omega, hac⟩
          simp only [V12c, c12_23, c12_18, c12_19, c12_20, c12_22, hlt, hw, e1, ip_ld4, z, st, ld0, ldE, s1, s2, hcm, hq, Q0, Q1, Q2, Q3, Q4, Q5, Q6, Q7, Q8, Q9, Q10, Q11, Q12, Q13, Q14, Q15, Q16, Q17, Q18, Q19, Q20, Q21, Q22, Q23, Q24, Q25, Q26, Q27, Q28, Q29, Q30, Q31, Q32, Q33, Q35, Q36, Q37, Q38, Q39, Q40, Q41, Q42, Q43, Q44, Q45, Q46, Q47, Q48, Q49, Q50, Q51, Q52, Q53, Q54, Q55, Q56, Q57, Q58, Q59, Q60, Q61, Q62, Q63, Q64, Q65, Q66, Q67, Q68, Q69, Q70, Q71, Q72, Q73, Q99, Q100, Q101, Q102, Q103, Q74, Q75, Q77, Q78, Q79, Q80, Q81, Q82, Q83, Q84, clr, List.length_nil, List.length_cons, List.getElem?_cons_zero, List.getElem?_cons_succ, Nat.reduceAdd, Nat.zero_add, Nat.add_zero, Nat.reduceLeDiff, Nat.reduceSub, ↓reduceIte, List.drop_succ_cons, List.drop_zero, List.take_succ_cons, List.take_zero, Bool.false_eq_true, List.nil_append, List.cons_append, Bool.not_true, Bool.not_false, cond_true, cond_false, bne, Q85, Q86, Q87, Q88, Q89, Q90, Q91, Q92, Q93, Q94, Q95, Q96, Q97, Q98, Q110, Q111, Q116, Q117, Q118, Q119, Q120, Q121, Q122, Q123, Option.map_some, Option.map_none, Q34]
      · have hie : i = l.length := by omega
        subst hie
        have hlt := lt_f (n := l.length)
        rw [List.drop_length, gtL, List.append_nil] at hac
        refine ⟨.exit 4, V12c s c l.length l.length (.v (.bool false)), h', ?_, rfl, c, es, rfl, hh, hA, hac ▸ hR⟩
        simp only [V12c, c12_23, c12_18, hlt, Q0, Q1, Q2, Q3, Q4, Q5, Q6, Q7, Q8, Q9, Q10, Q11, Q12, Q13, Q14, Q15, Q16, Q17, Q18, Q19, Q20, Q21, Q22, Q23, Q24, Q25, Q26, Q27, Q28, Q29, Q30, Q31, Q32, Q33, Q35, Q36, Q37, Q38, Q39, Q40, Q41, Q42, Q43, Q44, Q45, Q46, Q47, Q48, Q49, Q50, Q51, Q52, Q53, Q54, Q55, Q56, Q57, Q58, Q59, Q60, Q61, Q62, Q63, Q64, Q65, Q66, Q67, Q68, Q69, Q70, Q71, Q72, Q73, Q99, Q100, Q101, Q102, Q103, Q74, Q75, Q77, Q78, Q79, Q80, Q81, Q82, Q83, Q84, clr, List.length_nil, List.length_cons, List.getElem?_cons_zero, List.getElem?_cons_succ, Nat.reduceAdd, Nat.zero_add, Nat.add_zero, Nat.reduceLeDiff, Nat.reduceSub, ↓reduceIte, List.drop_succ_cons, List.drop_zero, List.take_succ_cons, List.take_zero, Bool.false_eq_true, List.nil_append, List.cons_append, Bool.not_true, Bool.not_false, cond_true, cond_false, bne, Q85, Q86, Q87, Q88, Q89, Q90, Q91, Q92, Q93, Q94, Q95, Q96, Q97, Q98, Q110, Q111, Q116, Q117, Q118, Q119, Q120, Q121, Q122, Q123, Option.map_some, Option.map_none, Q34])
  exact ⟨c, es, h', g1, g3, g4, g5⟩
end
theorem rput_ok {s a : AV} {l : List En} {x : En} (hs : Lg s l) (hl : l.length ≤ 1000) (ha : IsEn a x) :
    (anyL x.lab l = true ∧ callW F 12 [s, a] [] = some (.tup [.v (.slice none 0 0), .v (.int .i64 1)], [])) ∨ (anyL x.lab l = false ∧ ∃ r, Lg r (ltL x.lab l ++ x :: gtL x.lab l) ∧ callW F 12 [s, a] [] = some (.tup [r, .v (.int .i64 0)], [])) := by
  have q1 := fun H => hs.len H
  have cl := ha.cl
  have hE := ha
  have sn := ha.elm.snap
  cases ha with
  | mk c1 lab hc k dd ts hd e =>
  simp only [AV.cells] at cl
  have st : start c12 [s, .agg [c1, .v (.int .i64 k), dd, .v (.int .i64 e)]] = [s, .agg [c1, .v (.int .i64 k), dd, .v (.int .i64 e)], .v undef, .v undef, .v undef, .v undef, .v undef, .v undef, .v undef, .v undef, .v undef, .v undef, .v undef, .v undef, .v undef, .v undef, .v undef, .v undef, .v undef, .v undef, .v undef, .v undef, .v undef, .v undef] := rfl
  have hbody : c12.body = (.seq (.region [] [] c12_0) (.seq (.seq (.region [] [] c12_1) (.block 0 (.loop K12 [] c12_7))) (.seq (.region [] [] c12_8) (.seq (.seq (.region [] [] c12_9) (.block 2 (.loop K12b [] c12_15))) (.seq (.region [] [] c12_16) (.seq (.seq (.region [] [] c12_17) (.block 4 (.loop K12c [] c12_23))) (.seq (.region [] [] c12_24) .ret))))))) := rfl
  have hres : c12.res = [.var 3, .var 4] := rfl
  obtain ⟨e1, v1, h1, g1, g2⟩ := any_loop (K := l.length + 1) hs hc (by omega) [s, .agg [c1, .v (.int .i64 k), dd, .v (.int .i64 e)], .ptr 0 0, .v (.slice none 0 0), .v (.int .i64 0), .v undef, .v undef, .v undef, .v undef, s, .v (.int .i64 l.length), .v (.int .i64 0), .v undef, .v undef, .v undef, .v undef, .v undef, .v undef, .v undef, .v undef, .v undef, .v undef, .v undef, .v undef] [.box 29 [c1, .v (.int .i64 k), dd, .v (.int .i64 e)]] rfl rfl
  rcases g2 with ⟨g3, rfl, g4, g5⟩ | ⟨g3, rfl, rfl, g4⟩
  · refine .inl ⟨g3, callW_pure (c := c12) rfl rfl (l.length + 1) ?_⟩
    rw [st, hbody, hres]
    generalize c12_7 = bb at g1 ⊢
    generalize (CC.seq (.region [] [] c12_8) (.seq (.seq (.region [] [] c12_9) (.block 2 (.loop K12b [] c12_15))) (.seq (.region [] [] c12_16) (.seq (.seq (.region [] [] c12_17) (.block 4 (.loop K12c [] c12_23))) (.seq (.region [] [] c12_24) .ret))))) = rest
    have lt2 : ∀ h, lvf h (.tup [.v (.slice none 0 0), .v (.int .i64 1)]) = some (.tup [.v (.slice none 0 0), .v (.int .i64 1)], []) := fun _ => rfl
    simp only [c12_0, c12_1, cl, q1, g1, g4, g5, lt2, Q0, Q1, Q2, Q3, Q4, Q5, Q6, Q7, Q8, Q9, Q10, Q11, Q12, Q13, Q14, Q15, Q16, Q17, Q18, Q19, Q20, Q21, Q22, Q23, Q24, Q25, Q26, Q27, Q28, Q29, Q30, Q31, Q32, Q33, Q35, Q36, Q37, Q38, Q39, Q40, Q41, Q42, Q43, Q44, Q45, Q46, Q47, Q48, Q49, Q50, Q51, Q52, Q53, Q54, Q55, Q56, Q57, Q58, Q59, Q60, Q61, Q62, Q63, Q64, Q65, Q66, Q67, Q68, Q69, Q70, Q71, Q72, Q73, Q99, Q100, Q101, Q102, Q103, Q74, Q75, Q77, Q78, Q79, Q80, Q81, Q82, Q83, Q84, clr, List.length_nil, List.length_cons, List.getElem?_cons_zero, List.getElem?_cons_succ, Nat.reduceAdd, Nat.zero_add, Nat.add_zero, Nat.reduceLeDiff, Nat.reduceSub, ↓reduceIte, List.drop_succ_cons, List.drop_zero, List.take_succ_cons, List.take_zero, Bool.false_eq_true, List.nil_append, List.cons_append, Bool.not_true, Bool.not_false, cond_true, cond_false, bne, Q85, Q86, Q87, Q88, Q89, Q90, Q91, Q92, Q93, Q94, Q95, Q96, Q97, Q98, Q110, Q111, Q116, Q117, Q118, Q119, Q120, Q121, Q122, Q123, Option.map_some, Option.map_none, Q34]
  · obtain ⟨c2, es2, h2, k1, k2, k3, k4⟩ := lt_loop (K := l.length + 1) hs hl hc (by omega) [s, .junk, .ptr 0 0, .junk, .junk, .junk, .v (.slice none 0 0), .junk, .junk, s, .v (.int .i64 l.length), .v (.int .i64 l.length), .v (.bool false), .junk, s, .v (.int .i64 l.length), .v (.int .i64 0), .junk, .junk, .junk, .junk, .junk, .junk, .junk] h1 g4 rfl
    have hl2 := k4.length
    have hl3 := lt_len lab l
    obtain ⟨c3, h3, f1, f2, f3⟩ := k3.add' (bytes := 64) (x := .slc 4 true true [.agg [c1, .v (.int .i64 k), dd, .v (.int .i64 e)]]) (ys := [.agg [c1, .v (.int .i64 k), dd, .v (.int .i64 e)]]) rfl (fits_small (by simp only [List.length_cons, List.length_nil]; omega) (by omega))
    obtain ⟨c4, es4, h4, m1, m2, m3, m4⟩ := gt_loop (K := l.length + 1) hs hl hc (by omega) [s, .junk, .ptr 0 0, .junk, .junk, .junk, c3, .junk, .junk, .junk, .junk, .junk, .junk, .junk, s, .v (.int .i64 l.length), .v (.int .i64 l.length), .v (.bool false), .junk, s, .v (.int .i64 l.length), .v (.int .i64 0), .junk, .junk] h3 f2 (AllR.app k4 (.one hE)) (by simp only [List.length_append, List.length_cons, List.length_nil]; omega) (f3.box k2) rfl
    rw [List.append_assoc, List.singleton_append] at m4
    have ld4 : Q76 h2 true 4 (.ptr 0 0) = some (.agg [c1, .v (.int .i64 k), dd, .v (.int .i64 e)]) := by rw [bx_ld k2]; rfl
    have bz : ∀ h : List AO, bs1 h 4 (some (.agg [c1, .v (.int .i64 k), dd, .v (.int .i64 e)])) = some (.slc 4 true true [.agg [c1, .v (.int .i64 k), dd, .v (.int .i64 e)]], h) := fun h => bs1_some cl rfl
    have hne : es4 ≠ [] := by
      intro h; rw [h] at m4
      have := m4.length
      simp at this
    have lf : lvf h4 (.tup [c4, .v (.int .i64 0)]) = some (.tup [.slc 4 false false es4, .v (.int .i64 0)], []) := by
      cases m3 with
      | nil => exact absurd rfl hne
      | own id ver k es hr hk hne =>
        have := lvf_own2 (x := .int .i64 0) (n := es4.length) hr (Nat.le_refl _)
        rw [List.take_length] at this; exact this
    have hm4 := m4.length
    simp only [List.length_append, List.length_cons] at hm4
    have hgl := gt_len lab l
    have hmx : maxLen = 9223372036854775807 := rfl
    refine .inr ⟨g3, .slc 4 false false es4, ⟨es4, .slc _ _ _, m4, by omega⟩, callW_pure (c := c12) rfl rfl (l.length + 1) ?_⟩
    rw [st, hbody, hres]
    simp only [V12] at g1
    simp only [V12b] at k1
    simp only [V12c] at m1
    generalize c12_7 = bb at g1 ⊢
    generalize c12_15 = bb2 at k1 ⊢
    generalize c12_23 = bb3 at m1 ⊢
    simp only [c12_0, c12_1, c12_8, c12_9, c12_16, c12_17, c12_24, cl, q1, g1, k1, m1, ld4, sn, bz, Q104, e_append, f1, lf, Q0, Q1, Q2, Q3, Q4, Q5, Q6, Q7, Q8, Q9, Q10, Q11, Q12, Q13, Q14, Q15, Q16, Q17, Q18, Q19, Q20, Q21, Q22, Q23, Q24, Q25, Q26, Q27, Q28, Q29, Q30, Q31, Q32, Q33, Q35, Q36, Q37, Q38, Q39, Q40, Q41, Q42, Q43, Q44, Q45, Q46, Q47, Q48, Q49, Q50, Q51, Q52, Q53, Q54, Q55, Q56, Q57, Q58, Q59, Q60, Q61, Q62, Q63, Q64, Q65, Q66, Q67, Q68, Q69, Q70, Q71, Q72, Q73, Q99, Q100, Q101, Q102, Q103, Q74, Q75, Q77, Q78, Q79, Q80, Q81, Q82, Q83, Q84, clr, List.length_nil, List.length_cons, List.getElem?_cons_zero, List.getElem?_cons_succ, Nat.reduceAdd, Nat.zero_add, Nat.add_zero, Nat.reduceLeDiff, Nat.reduceSub, ↓reduceIte, List.drop_succ_cons, List.drop_zero, List.take_succ_cons, List.take_zero, Bool.false_eq_true, List.nil_append, List.cons_append, Bool.not_true, Bool.not_false, cond_true, cond_false, bne, Q85, Q86, Q87, Q88, Q89, Q90, Q91, Q92, Q93, Q94, Q95, Q96, Q97, Q98, Q110, Q111, Q116, Q117, Q118, Q119, Q120, Q121, Q122, Q123, Option.map_some, Option.map_none, Q34]
end Go.AE.Ytkdjdhfoodlnfaa
end

/-! LogPuts, over the evaluator. -/
section
set_option linter.unusedVariables false
set_option linter.unusedSimpArgs false
namespace Go.AE.Ytkdjdhfoodlnfaa
open Go Go.AE Go.Proofs.Ytkdjdhfoodlnfaa

theorem sameT_refl (t : Tm) : sameT t t = true := (same_iff _ _ _ (Nat.lt_succ_self _)).2 rfl
theorem ts_refl (l : List Tm) : tsS l l = true := sameT_refl _
theorem lg_refl : ∀ (l : List En), lgL l l = true
  | [] => rfl
  | a :: l => by
    rw [lgL, lg_refl l, enS, cmp_refl, evS, ts_refl]
    simp
theorem lgs_refl (l : List En) : lgS l l = true := by rw [lgS, lg_refl]; simp
theorem nss1 {a : AV} {x : List Int} (ha : Ns a x) (ex nn : Bool) : Nss (.slc 1 ex nn [a]) [x] := ⟨[a], .slc _ _ _, .cons _ _ _ _ ha .nil, by simp; decide⟩
theorem mine_app {H : List AO} {s : AV} {es : List AV} (hs : Sl 4 s es) (hl : es.length ≤ 1000) : ∃ ver, evAppend (H ++ [.row 29 4 0 [] 0]) 29 4 64 (.own 4 H.length 0 0 0) s = some (.own 4 H.length ver 0 es.length, H ++ [.row 29 4 ver es 0]) := by
  have he := hs.elems (H ++ [.row 29 4 0 [] 0])
  have hr : rowAt (H ++ [.row 29 4 0 [] 0]) 4 H.length 0 0 = some ([], 0) := by simp [rowAt]
  have ht : rowT (H ++ [.row 29 4 0 [] 0]) H.length = 29 := by simp [rowT]
  cases es with
  | nil => exact ⟨0, by simp [evAppend, evAppendL, he, hr, ht]⟩
  | cons e es =>
    have hf : fits (e :: es).length 64 = true := fits_small (by omega) (by omega)
    refine ⟨1, ?_⟩
    simp only [List.length_cons] at hf
    simp [evAppend, evAppendL, he, hr, ht, hf]
theorem mine_mk {H : List AO} {n : Nat} (hn : n ≤ 1000) : mkS H 29 4 64 [.slice none 0 0, .int .i64 0, .slice none 0 0, .int .i64 0] (.v (.int .i64 0)) (.v (.int .i64 (IntKind.i64.wrap ((n : Int) + 3)))) = some (.own 4 H.length 0 0 0, H ++ [.row 29 4 0 [] 0]) := by
  have : IntKind.i64.wrap ((n : Int) + 3) = ((n + 3 : Nat) : Int) := by
    rw [IntWalk.i64_in] <;> omega
  rw [this]
  simp only [mkS]
  rw [if_pos (by omega)]
  rfl
theorem putsLaw_ok {s a : AV} {l : List En} {x : En} (hs : Lg s l) (ha : IsEn a x) : callW F 3 [s, a] [] = some (.v (.bool true), []) := by
  have hlive := live_ok
  have ho := ordered_ok hs
  have cl := ha.cl
  have hel := ha.elm
  have ha' := ha
  cases ha with
  | mk c1 lab h1 k dd ts hd e =>
  simp only [AV.cells] at cl
  obtain ⟨bg, hbg, hbl⟩ := big_ok hs (nss1 h1 true true)
  have q1 := fun H => hs.len H
  have s1 := fun H => hs.sn H
  have s3 := fun H => h1.sn H
  have sn := hel.snap
  have k1 := Ns.cl1 h1
  have l0 : ∀ G, Q76 (.box 29 [c1, .v (.int .i64 k), dd, .v (.int .i64 e)] :: G) false 1 (.ptr 0 0) = some c1 := fun _ => rfl
  have l4 : ∀ G, Q76 (.box 29 [c1, .v (.int .i64 k), dd, .v (.int .i64 e)] :: G) true 4 (.ptr 0 0) = some (.agg [c1, .v (.int .i64 k), dd, .v (.int .i64 e)]) := fun _ => rfl
  have b2 : ∀ h : List AO, bs1 h 1 (some c1) = some (.slc 1 true true [c1], h) := fun h => bs1_some k1 rfl
  have sb : ∀ h : List AO, (AV.slc 1 true true [c1]).snap1 h = some (.slc 1 true true [c1]) := fun _ => rfl
  cases bg with
  | true =>
    refine callW_pure (c := c3) rfl rfl 0 ?_
    simp only [c3, start, List.replicate, c3_0, c3_1, c3_2, c3_3, cl, hlive, hbg, s1, s3, l0, Q104, b2, sb, Q122, Q0, Q1, Q2, Q3, Q4, Q5, Q6, Q7, Q8, Q9, Q10, Q11, Q12, Q13, Q14, Q15, Q16, Q17, Q18, Q19, Q20, Q21, Q22, Q23, Q24, Q25, Q26, Q27, Q28, Q29, Q30, Q31, Q32, Q33, Q35, Q36, Q37, Q38, Q39, Q40, Q41, Q42, Q43, Q44, Q45, Q46, Q47, Q48, Q49, Q50, Q51, Q52, Q53, Q54, Q55, Q56, Q57, Q58, Q59, Q60, Q61, Q62, Q63, Q64, Q65, Q66, Q67, Q68, Q69, Q70, Q71, Q72, Q73, Q99, Q100, Q101, Q102, Q103, Q74, Q75, Q77, Q78, Q79, Q80, Q81, Q82, Q83, Q84, clr, List.length_nil, List.length_cons, List.getElem?_cons_zero, List.getElem?_cons_succ, Nat.reduceAdd, Nat.zero_add, Nat.add_zero, Nat.reduceLeDiff, Nat.reduceSub, ↓reduceIte, List.drop_succ_cons, List.drop_zero, List.take_succ_cons, List.take_zero, Bool.false_eq_true, List.nil_append, List.cons_append, Bool.not_true, Bool.not_false, cond_true, cond_false, bne, Q85, Q86, Q87, Q88, Q89, Q90, Q91, Q92, Q93, Q94, Q95, Q96, Q97, Q98, Q110, Q111, Q116, Q117, Q118, Q119, Q120, Q121, Q122, Q123, Option.map_some, Option.map_none, Q34]
  | false =>
  obtain ⟨hl2, _⟩ := hbl rfl
  cases hor : ordL l with
  | false =>
    rw [hor] at ho
    refine callW_pure (c := c3) rfl rfl 0 ?_
    simp only [c3, start, List.replicate, c3_0, c3_1, c3_2, c3_3, cl, hlive, hbg, ho, s1, s3, l0, Q104, b2, sb, Q122, Q0, Q1, Q2, Q3, Q4, Q5, Q6, Q7, Q8, Q9, Q10, Q11, Q12, Q13, Q14, Q15, Q16, Q17, Q18, Q19, Q20, Q21, Q22, Q23, Q24, Q25, Q26, Q27, Q28, Q29, Q30, Q31, Q32, Q33, Q35, Q36, Q37, Q38, Q39, Q40, Q41, Q42, Q43, Q44, Q45, Q46, Q47, Q48, Q49, Q50, Q51, Q52, Q53, Q54, Q55, Q56, Q57, Q58, Q59, Q60, Q61, Q62, Q63, Q64, Q65, Q66, Q67, Q68, Q69, Q70, Q71, Q72, Q73, Q99, Q100, Q101, Q102, Q103, Q74, Q75, Q77, Q78, Q79, Q80, Q81, Q82, Q83, Q84, clr, List.length_nil, List.length_cons, List.getElem?_cons_zero, List.getElem?_cons_succ, Nat.reduceAdd, Nat.zero_add, Nat.add_zero, Nat.reduceLeDiff, Nat.reduceSub, ↓reduceIte, List.drop_succ_cons, List.drop_zero, List.take_succ_cons, List.take_zero, Bool.false_eq_true, List.nil_append, List.cons_append, Bool.not_true, Bool.not_false, cond_true, cond_false, bne, Q85, Q86, Q87, Q88, Q89, Q90, Q91, Q92, Q93, Q94, Q95, Q96, Q97, Q98, Q110, Q111, Q116, Q117, Q118, Q119, Q120, Q121, Q122, Q123, Option.map_some, Option.map_none, Q34]
  | true =>
  rw [hor] at ho
  have hs0 := hs
  obtain ⟨es, hsl, hae, hm⟩ := hs
  have hen := hae.length
  have mk1 := mine_mk (H := [.box 29 [c1, .v (.int .i64 k), dd, .v (.int .i64 e)]]) (n := l.length) (by omega)
  obtain ⟨ver, ap1⟩ := mine_app (H := [.box 29 [c1, .v (.int .i64 k), dd, .v (.int .i64 e)]]) hsl (by omega)
  simp only [List.cons_append, List.nil_append, List.length_cons, List.length_nil, Nat.reduceAdd] at mk1 ap1
  have hs1 : Lg (.slc 4 false false es) l := ⟨es, .slc _ _ _, hae, hm⟩
  have mkm : ∀ v0 v1 v2 v3 v4 v6 v7 v8 v9 v10 v11 v12 v13 v14 v15 : AV, doMark ([v0, v1, v2, v3, v4, .own 4 1 ver 0 es.length, v6, v7, v8, v9, v10, v11, v12, v13, v14, v15], [.box 29 [c1, .v (.int .i64 k), dd, .v (.int .i64 e)], .row 29 4 ver es 0]) (.v 5) = ([v0, v1, v2, v3, v4, .own 4 1 ver 0 es.length, v6, v7, v8, v9, v10, v11, v12, v13, v14, v15], [.box 29 [c1, .v (.int .i64 k), dd, .v (.int .i64 e)], .row 29 4 ver es es.length]) := by
    intros
    simp [doMark, raise1, raise0, raise, rowAt, rowT]
  have snm : (AV.own 4 1 ver 0 es.length).snap1 [.box 29 [c1, .v (.int .i64 k), dd, .v (.int .i64 e)], .row 29 4 ver es es.length] = some (.slc 4 false false es) := by
    simp [AV.snap1, AV.snap0, rowAt]
  have hbB : ∀ n, AO.below n (.box 29 [c1, .v (.int .i64 k), dd, .v (.int .i64 e)]) = true := fun n => below_mono (Nat.zero_le n) _ hel.bel
  have hbs : ∀ n, AO.below n (.box 22 [.slc 4 false false es]) = true := fun n => rfl
  have hbr : ∀ n v L k, AO.below n (.row 29 4 v L k) = true := fun _ _ _ _ => rfl
  have cel : (AV.agg [c1, .v (.int .i64 k), dd, .v (.int .i64 e)]).cells = [c1, .v (.int .i64 k), dd, .v (.int .i64 e)] := rfl
  have hbody : c3.body = (.seq (.region [] [] c3_0) (.seq (.region [] [] c3_1) (.seq (.seq (.region [] [] c3_2) (.cond (.var 12) (.seq (.region [] [] c3_3) .ret) .skip)) (.seq (.region [] [] c3_4) (.seq (.region [.v 5] [] c3_5) (.seq (.region [] [] c3_6) (.seq (.region [] [] c3_7) (.seq (.seq (.region [] [] c3_8) (.block 0 (.loop K3 [] c3_13))) (.seq (.region [] [] c3_14) .ret))))))))) := rfl
  rcases put_ok hs1 (by omega) hor ha' with ⟨hp0, hp⟩ | ⟨m, v, L, hp0, hLm, hp⟩
  · have hany : anyL lab l = true := any_iff.2 ((put_none hor).1 hp0)
    rcases rput_ok hs0 (by omega) ha' with ⟨_, hr⟩ | ⟨hf, _⟩
    · have p11 := hp _ _ snm
      rw [cel] at p11
      simp only [List.cons_append, List.nil_append] at p11
      generalize hH3 : ([.box 29 [c1, .v (.int .i64 k), dd, .v (.int .i64 e)], .row 29 4 ver es es.length, .box 22 [.slc 4 false false es], .box 29 [c1, .v (.int .i64 k), dd, .v (.int .i64 e)]] : List AO) = H3 at p11
      have l43 : Q76 H3 true 4 (.ptr 0 0) = some (.agg [c1, .v (.int .i64 k), dd, .v (.int .i64 e)]) := by rw [← hH3]; rfl
      have hb3 : H3.all (AO.below H3.length) = true := by rw [← hH3]; simp only [List.all_cons, List.all_nil, hbB, hbs, hbr, Bool.and_true]
      have rdn : RdE H3 (.v (.slice none 0 0)) [] := ⟨rfl, by simp, fun i hi => by simp at hi⟩
      have same1 := same_own hb3 rdn rdn
      rw [lgs_refl] at same1
      have rdm : RdE H3 (.own 4 1 ver 0 es.length) l := RdE.own (rt := 29) (L := es) (k := es.length) (by rw [← hH3]; rfl) hae (List.take_length ..) hm
      have same2 := same_own hb3 rdm (hs0.rd H3)
      rw [lgs_refl] at same2
      have lp := puts_loop0 (K := 1) (s := s) (u := .v (.bool true)) (mine := .own 4 1 ver 0 es.length) (ok := .v (.bool true)) (a := .v (.slice none 0 0)) (H := H3) (by omega) [s, .agg [c1, .v (.int .i64 k), dd, .v (.int .i64 e)], .ptr 0 0, .v (.bool false), .v (.bool true), .own 4 1 ver 0 es.length, .v (.slice none 0 0), .v (.int .i64 1), .v (.slice none 0 0), .v (.int .i64 1), .v (.bool true), .v undef, .v (.bool false), .v (.int .i64 0), .v (.int .i64 0), .v undef] rfl
      have lnn : ∀ H, evLen H .slice (.v (.slice none 0 0)) = some 0 := fun _ => rfl
      have z1 : ((1 : Int) == 1) = true := rfl
      have z0 : (((0 : Nat) : Int)) = 0 := rfl
      refine callW_pure (c := c3) rfl rfl 1 ?_
      rw [hbody]
      simp only [V3] at lp
      generalize c3_13 = bb at lp ⊢
      simp only [c3, start, List.replicate, c3_0, c3_1, c3_2, c3_4, c3_5, c3_6, c3_7, c3_8, c3_14, cl, hlive, hbg, ho, s1, s3, sn, q1, l0, l4, l43, Q104, b2, sb, e_mkslice, mk1, e_append, ap1, x_region_m, List.foldl_cons, List.foldl_nil, mkm, marked_eq, p11, hr, same1, same2, lnn, z1, z0, lp, Q122, Q0, Q1, Q2, Q3, Q4, Q5, Q6, Q7, Q8, Q9, Q10, Q11, Q12, Q13, Q14, Q15, Q16, Q17, Q18, Q19, Q20, Q21, Q22, Q23, Q24, Q25, Q26, Q27, Q28, Q29, Q30, Q31, Q32, Q33, Q35, Q36, Q37, Q38, Q39, Q40, Q41, Q42, Q43, Q44, Q45, Q46, Q47, Q48, Q49, Q50, Q51, Q52, Q53, Q54, Q55, Q56, Q57, Q58, Q59, Q60, Q61, Q62, Q63, Q64, Q65, Q66, Q67, Q68, Q69, Q70, Q71, Q72, Q73, Q99, Q100, Q101, Q102, Q103, Q74, Q75, Q77, Q78, Q79, Q80, Q81, Q82, Q83, Q84, clr, List.length_nil, List.length_cons, List.getElem?_cons_zero, List.getElem?_cons_succ, Nat.reduceAdd, Nat.zero_add, Nat.add_zero, Nat.reduceLeDiff, Nat.reduceSub, ↓reduceIte, List.drop_succ_cons, List.drop_zero, List.take_succ_cons, List.take_zero, Bool.false_eq_true, List.nil_append, List.cons_append, Bool.not_true, Bool.not_false, cond_true, cond_false, bne, Q85, Q86, Q87, Q88, Q89, Q90, Q91, Q92, Q93, Q94, Q95, Q96, Q97, Q98, Q110, Q111, Q116, Q117, Q118, Q119, Q120, Q121, Q122, Q123, Option.map_some, Option.map_none, Q34]
    · simp only at hf
      rw [hany] at hf; cases hf
  · have hany : anyL lab l = false := by
      cases h : anyL lab l with
      | false => rfl
      | true =>
        have := (put_none hor (e := ⟨lab, k, ts, e⟩)).2 (any_iff.1 h)
        rw [this] at hp0; cases hp0
    rcases rput_ok hs0 (by omega) ha' with ⟨hf, _⟩ | ⟨_, rr, hrr, hr⟩
    · simp only at hf
      rw [hany] at hf; cases hf
    · rw [← put_parts hor hp0] at hrr
      have p11 := hp _ _ snm
      rw [cel] at p11
      simp only [List.cons_append, List.nil_append, List.length_cons, List.length_nil, Nat.reduceAdd] at p11
      generalize hH3 : ([.box 29 [c1, .v (.int .i64 k), dd, .v (.int .i64 e)], .row 29 4 ver es es.length, .box 22 [.slc 4 false false es], .box 29 [c1, .v (.int .i64 k), dd, .v (.int .i64 e)], .row 29 4 v L 0] : List AO) = H3 at p11
      have l43 : Q76 H3 true 4 (.ptr 0 0) = some (.agg [c1, .v (.int .i64 k), dd, .v (.int .i64 e)]) := by rw [← hH3]; rfl
      have hb3 : H3.all (AO.below H3.length) = true := by rw [← hH3]; simp only [List.all_cons, List.all_nil, hbB, hbs, hbr, Bool.and_true]
      have hml := put_len hp0
      have hLl := hLm.length
      have hmx : maxLen = 9223372036854775807 := rfl
      have hr4 : H3[4]? = some (.row 29 4 v L 0) := by rw [← hH3]; rfl
      have rda : RdE H3 (.own 4 4 v 0 L.length) m := RdE.own hr4 hLm (List.take_length ..) (by omega)
      have same1 := same_own hb3 rda (hrr.rd H3)
      rw [lgs_refl] at same1
      have q6 := row_len hr4 (Nat.le_refl _)
      obtain ⟨H4, hO, hE, lp⟩ := puts_loop (K := L.length + 1) (s := s) (u := .v (.bool true)) (mine := .own 4 1 ver 0 es.length) (ok := .v (.bool true)) (by omega) (enrow_of hr4 hLm) (by omega) [s, .agg [c1, .v (.int .i64 k), dd, .v (.int .i64 e)], .ptr 0 0, .v (.bool false), .v (.bool true), .own 4 1 ver 0 es.length, .own 4 4 v 0 L.length, .v (.int .i64 0), rr, .v (.int .i64 0), .v (.bool true), .v undef, .v (.bool false), .v (.int .i64 L.length), .v (.int .i64 0), .v undef] rfl
      have hb4 : H4.all (AO.below H4.length) = true := by rw [hO.1]; exact hO.below hE hb3
      have rdm : RdE H4 (.own 4 1 ver 0 es.length) l := RdE.own (rt := 29) (L := es) (k := es.length) (by rw [hO.2 1 (by decide), ← hH3]; rfl) hae (List.take_length ..) hm
      have same2 := same_own hb4 rdm (hs0.rd H4)
      rw [lgs_refl] at same2
      have z1 : ((0 : Int) == 0) = true := rfl
      have srr := fun H => hrr.sn H
      refine callW_pure (c := c3) rfl rfl (L.length + 1) ?_
      rw [hbody]
      simp only [V3] at lp
      generalize c3_13 = bb at lp ⊢
      simp only [c3, start, List.replicate, c3_0, c3_1, c3_2, c3_4, c3_5, c3_6, c3_7, c3_8, c3_14, cl, hlive, hbg, ho, s1, s3, sn, srr, q1, q6, l0, l4, l43, Q104, b2, sb, e_mkslice, mk1, e_append, ap1, x_region_m, List.foldl_cons, List.foldl_nil, mkm, marked_eq, p11, hr, same1, same2, z1, lp, Q122, Q0, Q1, Q2, Q3, Q4, Q5, Q6, Q7, Q8, Q9, Q10, Q11, Q12, Q13, Q14, Q15, Q16, Q17, Q18, Q19, Q20, Q21, Q22, Q23, Q24, Q25, Q26, Q27, Q28, Q29, Q30, Q31, Q32, Q33, Q35, Q36, Q37, Q38, Q39, Q40, Q41, Q42, Q43, Q44, Q45, Q46, Q47, Q48, Q49, Q50, Q51, Q52, Q53, Q54, Q55, Q56, Q57, Q58, Q59, Q60, Q61, Q62, Q63, Q64, Q65, Q66, Q67, Q68, Q69, Q70, Q71, Q72, Q73, Q99, Q100, Q101, Q102, Q103, Q74, Q75, Q77, Q78, Q79, Q80, Q81, Q82, Q83, Q84, clr, List.length_nil, List.length_cons, List.getElem?_cons_zero, List.getElem?_cons_succ, Nat.reduceAdd, Nat.zero_add, Nat.add_zero, Nat.reduceLeDiff, Nat.reduceSub, ↓reduceIte, List.drop_succ_cons, List.drop_zero, List.take_succ_cons, List.take_zero, Bool.false_eq_true, List.nil_append, List.cons_append, Bool.not_true, Bool.not_false, cond_true, cond_false, bne, Q85, Q86, Q87, Q88, Q89, Q90, Q91, Q92, Q93, Q94, Q95, Q96, Q97, Q98, Q110, Q111, Q116, Q117, Q118, Q119, Q120, Q121, Q122, Q123, Option.map_some, Option.map_none, Q34]
end Go.AE.Ytkdjdhfoodlnfaa
end

/-! What comes in, out of its types. -/
section
set_option linter.unusedVariables false
namespace Go.AE.Ytkdjdhfoodlnfaa
open Go Go.AE Go.Proofs.Ytkdjdhfoodlnfaa
theorem tmTy : TmTy T 3 9 2 66 24 := ⟨⟨_, rfl, rfl⟩, ⟨_, rfl, rfl⟩, ⟨_, rfl, rfl⟩, ⟨_, _, _, _, _, rfl, rfl, rfl, rfl, rfl, rfl, rfl, rfl⟩, ⟨_, rfl, rfl⟩⟩
theorem iv_of : ∀ {es : List AV} {l : List Int}, AllR IsI es l → es = l.map iv
  | _, _, .nil => rfl
  | _, _, .cons a x es l h hs => by rw [List.map_cons, ← iv_of hs, show a = iv x from h]
theorem wt_ns {cs : List AV} (w : WT T 23 cs) : ∃ c l, cs = [c] ∧ Ns c l := by
  obtain ⟨c, l, h, es, hs, ha, hm⟩ := wt_ints (t := 23) (e := 3) (i := ti23) (j := ti3) rfl rfl rfl rfl rfl rfl w
  have := iv_of ha
  subst this
  exact ⟨c, l, h, hs, by simpa using hm⟩
theorem wt_en {cs : List AV} (w : WT T 29 cs) : ∃ x, IsEn (.agg cs) x := by
  obtain ⟨a, b, rfl, w0, w1⟩ := wt_struct2 (i := ti29) rfl rfl w
  obtain ⟨c, lab, rfl, hc⟩ := wt_ns w0
  obtain ⟨k, t, e, rfl, w2, w3, w4⟩ := wt_struct3 (t := 27) (i := ti27) rfl rfl w1
  obtain ⟨n, rfl, _⟩ := wt_int_of (t := 3) (i := ti3) (k := .i64) rfl rfl w2
  obtain ⟨d, ts, rfl, hd⟩ := tmTy.terms w3
  obtain ⟨m, rfl, _⟩ := wt_int_of (t := 25) (i := ti25) (k := .i64) rfl rfl w4
  exact ⟨_, .mk c lab hc n d ts hd m⟩
theorem log_in {a : AV} (w : WT T 22 a.cells) (e : Q77 ti22.agg a.cells = some a) : ∃ l, Lg a l := by
  rcases wt_slice_of (t := 22) (e := 29) (i := ti22) (j := ti29) rfl rfl rfl w with h | ⟨l, h, hl, hel, has⟩
  · rw [one_cell e h]; exact ⟨[], [], .nil, .nil, by simp⟩
  · rw [one_cell e h]
    obtain ⟨xs, hxs⟩ := allR_of (R := IsEn) (l := l) (fun el hm => by
      obtain ⟨x, hx⟩ := wt_en (hel el hm)
      have := has el hm
      rw [← agg_cells this] at hx
      exact ⟨x, hx⟩)
    exact ⟨xs, l, .slc _ _ _, hxs, hl⟩
theorem ent_in {a : AV} (w : WT T 29 a.cells) (e : Q77 ti29.agg a.cells = some a) : ∃ x, IsEn a x := by
  obtain ⟨x, hx⟩ := wt_en w
  rw [agg_cells e]; exact ⟨x, hx⟩
theorem ns_in {a : AV} (w : WT T 23 a.cells) (e : Q77 ti23.agg a.cells = some a) : ∃ l, Ns a l := by
  obtain ⟨c, l, h, hl⟩ := wt_ns w
  rw [one_cell e h]; exact ⟨l, hl⟩
theorem nss_in {a : AV} (w : WT T 39 a.cells) (e : Q77 ti39.agg a.cells = some a) : ∃ l, Nss a l := by
  rcases wt_slice_of (t := 39) (e := 23) (i := ti39) (j := ti23) rfl rfl rfl w with h | ⟨l, h, hl, hel, has⟩
  · rw [one_cell e h]; exact ⟨[], [], .nil, .nil, by simp⟩
  · rw [one_cell e h]
    obtain ⟨xs, hxs⟩ := allR_of (R := Ns) (l := l) (fun el hm => ns_in (hel el hm) (has el hm))
    exact ⟨xs, l, .slc _ _ _, hxs, hl⟩
theorem int_in {a : AV} (w : WT T 3 a.cells) (e : Q77 ti3.agg a.cells = some a) : ∃ n : Int, a = .v (.int .i64 n) ∧ (Lit.int .i64 n).wf = true := by
  obtain ⟨n, h, hn⟩ := wt_int_of (t := 3) (i := ti3) (k := .i64) rfl rfl w
  exact ⟨n, one_cell e h, hn⟩
end Go.AE.Ytkdjdhfoodlnfaa
end
