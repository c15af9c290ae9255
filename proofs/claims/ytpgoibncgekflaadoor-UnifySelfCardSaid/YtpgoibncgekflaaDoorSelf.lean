/- UnifySelf holds, its card with it: whatever the input, where the library's tables lie as its text lays them, it returns true, and the input reads as it did. Conditions: none beside. -/
import Derived.Test.YtpgoibncgekflaaDoorPart4
import Derived.Test.YtpgoibncgekflaaDoorPart5
set_option linter.unusedVariables false
set_option linter.unusedSimpArgs false
namespace Go.AE.YtpgoibncgekflaaDoor
open Go Go.AE Go.Proofs.YtpgoibncgekflaaDoor

theorem wt_nn {cs : List AV} (h : WT T 22 cs) : ∃ c l, cs = [c] ∧ IsN c l := by
  obtain ⟨c, l, h0, hb⟩ := (wt_good h).2.2.2.2.2.2 rfl
  refine ⟨c, l, h0, hb, ?_⟩
  have t22' := t22
  generalize (22 : TypeId) = t at h t22'
  cases h with
  | bool i b ht hd => cases h0; trivial
  | int i k n ht hd hw => cases h0; trivial
  | str i s ht hd hs => cases h0; trivial
  | nil i e ht hd => cases h0; trivial
  | slc i e j l ht hd he hl hel has => cases h0; exact .inl rfl
  | struct _ i fs pts ht hd hlen hf =>
    rw [t22'] at ht
    cases ht
    cases hd
theorem walkT_det {rs : List (Int × Tm)} : ∀ (m m' : Nat) (t : Tm), (walkT rs m t).2.1 = 0 → (walkT rs m' t).2.1 = 0 → (walkT rs m t).1 = (walkT rs m' t).1 := by
  intro m
  induction m with
  | zero =>
    intro m' t
    cases hb : bound rs t with
    | some u => simp [walkT, hb]
    | none => cases m' <;> simp [walkT, hb]
  | succ m ih =>
    intro m' t
    cases hb : bound rs t with
    | some u =>
      cases m' with
      | zero => simp [walkT, hb]
      | succ m' => simp only [walkT, hb]; exact ih m' u
    | none => cases m' <;> simp [walkT, hb]
theorem meetT_det {rs : List (Int × Tm)} {m m' : Nat} {t : Tm} (h : (meetT rs m t).2.1 = 0) (h' : (meetT rs m' t).2.1 = 0) : (meetT rs m t).1 = (meetT rs m' t).1 := by
  cases m with
  | zero => simp [meetT] at h
  | succ m =>
    cases m' with
    | zero => simp [meetT] at h'
    | succ m' => exact walkT_det m m' t h h'
theorem nextT_err (rs : List (Int × Tm)) (m : Nat) (x y : Tm) : (nextT rs m x y).2.2.1 = 0 ∨ (nextT rs m x y).2.2.1 = 140 := by
  by_cases h0 : (meetT rs m x).2.1 = 0
  · simp only [nextT, if_pos h0]
    rcases meetT_err rs (meetT rs m x).2.2 y with h | h
    · exact .inl h
    · exact .inr h.1
  · simp only [nextT, if_neg h0]
    rcases meetT_err rs m x with h | h
    · exact .inl h
    · exact .inr h.1
theorem nextT_self {rs : List (Int × Tm)} {m : Nat} {x : Tm} (h : (nextT rs m x x).2.2.1 = 0) : (nextT rs m x x).1 = (nextT rs m x x).2.1 := by
  by_cases h0 : (meetT rs m x).2.1 = 0
  · simp only [nextT, if_pos h0] at h ⊢
    exact meetT_det h0 h
  · simp only [nextT, if_neg h0] at h
    exact absurd h h0
theorem headC_self (x : Tm) : headC x x = 0 := by
  cases x with
  | mk k s n l => simp [headC, cmp3_self, cb_self, firstNZ]
theorem self_run {bs : List (Int × Tm)} (hbm : ∀ p ∈ bs, mayT p.2 = true) : ∀ (f m : Nat) (todo : List (Tm × Tm)), (∀ p ∈ todo, p.1 = p.2 ∧ mayT p.1 = true) →
    (uRun f bs m todo = (bs, true, 0) ∧ cRun bs.reverse f m todo = (0, 0)) ∨ (uRun f bs m todo = ([], false, 140) ∧ cRun bs.reverse f m todo = (0, 140)) := by
  have hbm' : ∀ p ∈ bs.reverse, mayT p.2 = true := fun p hp => hbm p (by simpa using hp)
  intro f
  induction f with
  | zero =>
    intro m todo _
    cases todo with
    | nil => exact .inl ⟨rfl, rfl⟩
    | cons p r => exact .inr ⟨rfl, rfl⟩
  | succ f ih =>
    intro m todo htd
    cases todo with
    | nil => exact .inl ⟨rfl, rfl⟩
    | cons p r =>
      obtain ⟨x, y⟩ := p
      obtain ⟨e1, e2⟩ := htd (x, y) (by simp)
      dsimp only at e1 e2
      subst e1
      have hr := fun p hp => htd p (List.mem_cons_of_mem _ hp)
      simp only [uRun, cRun]
      have hs := nextT_self (rs := bs.reverse) (m := m) (x := x)
      have hm := nextT_may (m := m) hbm' e2 e2
      have hE := nextT_err bs.reverse m x x
      generalize nextT bs.reverse m x x = w at hs hm hE ⊢
      obtain ⟨u, u', e, m'⟩ := w
      dsimp only at hs hm hE ⊢
      rcases hE with he | he
      · subst he
        have hs := hs rfl
        obtain ⟨hm1, _⟩ := hm rfl
        subst hs
        have h0 := headC_self u
        cases u with
        | mk k s n l =>
        obtain ⟨a1, a2⟩ := may_args hm1
        simp only [if_true, uStep, cStep, h0]
        have hz : ∀ p ∈ l.zip l, p.1 = p.2 ∧ mayT p.1 = true := by
          intro p hp
          have hmem := List.of_mem_zip (a := p.1) (b := p.2) hp
          refine ⟨?_, mayL_mem (may_sub hm1) hmem.1⟩
          obtain ⟨i, hi, he⟩ := List.mem_iff_getElem.1 hp
          have : (l.zip l)[i] = (l[i]'(by simp at hi; exact hi), l[i]'(by simp at hi; exact hi)) := by simp
          rw [this] at he
          rw [← he]
        have hzr : ∀ p ∈ l.zip l ++ r, p.1 = p.2 ∧ mayT p.1 = true := by
          intro p hp
          rcases List.mem_append.1 hp with h | h
          · exact hz p h
          · exact hr p h
        by_cases k1 : k = 1
        · have k4 : ¬ k = 4 := by omega
          rw [if_pos ⟨k1, k1, trivial⟩, if_neg (fun h => k4 h.1)]
          exact ih m' r hr
        · rw [if_neg (fun h => k1 h.1), if_neg (fun h => k1 h.1), if_neg k1, if_pos ⟨trivial, trivial, trivial, trivial⟩]
          by_cases k4 : k = 4
          · rw [if_pos ⟨k4, k4, trivial, trivial⟩]
            exact ih m' _ hzr
          · rw [if_neg (fun h => k4 h.1)]
            have hl : l = [] := a2.resolve_right k4
            subst hl
            exact ih m' r hr
      · subst he
        exact .inr ⟨rfl, rfl⟩
theorem check_may {t : Tm} (h : checkT t = 0) : mayT t = true := by
  unfold checkT at h
  split at h
  · assumption
  · omega
theorem goodB_may {bs : List (Int × Tm)} (h : goodB bs = true) : ∀ p ∈ bs, mayT p.2 = true := by
  intro p hp
  simp only [goodB, List.all_eq_true, beq_iff_eq] at h
  exact check_may (h p hp)
theorem goodT_may {l : List Tm} (h : goodT l = true) : ∀ p ∈ l, mayT p = true := by
  intro p hp
  simp only [goodT, List.all_eq_true, beq_iff_eq] at h
  exact check_may (h p hp)
theorem sameBL_refl : ∀ l : List (Int × Tm), sameBL l l = true
  | [] => rfl
  | (v, t) :: l => by simp [sameBL, same_refl, sameBL_refl l]
theorem sameB_refl (l : List (Int × Tm)) : sameB l l = true := by simp [sameB, sameBL_refl]

theorem IsB.snap' {c : AV} {bs : List (Int × Tm)} (h : IsB c bs) (H : List AO) : c.snap1 H = some c := by cases h <;> rfl
theorem self_ok {b t : AV} {T : Tm} {bs : List (Int × Tm)} (hb : IsN b bs) (ht : IsT t T) : callW F 8 [b, t] [] = some (.v (.bool true), []) := by
  have hlive := live17
  have hbig := big18 (ts := .slc 4 true true [t]) hb.1 rfl (All2.cons t T [] [] ht .nil) (by simp [maxLen])
  have s1 : ∀ h : List AO, t.snap1 h = some t := fun h => ht.snap
  have sb : ∀ h : List AO, b.snap1 h = some b := by intro h; cases hb.1 <;> rfl
  have sl : ∀ h : List AO, (AV.slc 4 true true [t]).snap1 h = some (.slc 4 true true [t]) := fun _ => rfl
  have b1 : ∀ h : List AO, bs1 h 4 (some t) = some (.slc 4 true true [t], h) := fun h => bs1_some ht.cl.1 ht.cl.2
  have ht0 : ∀ tl : List AO, evLoad (.box t.cells :: tl) true 4 (.ptr 0 0) = some t := by
    intro tl
    rw [bx_ld (cs := t.cells) rfl, if_pos (by rw [ht.cl.2]; omega), List.drop_zero]
    exact ht.asEl
  have htc := ht.cl.1
  have htl := ht.cl.2
  refine callW_pure (c := c8) rfl rfl 0 ?_
  cases hB : big bs [T] with
  | true =>
    rw [hB] at hbig
    simp only [c8, start, List.replicate, c8_0, c8_1, c8_2, c8_3, htc, htl, ht0, hlive, s1, sb, sl, b1, hbig, e_bslice1, e_bslice2, bs1, bs2, e_build, bdH_some, bd_nil, bd_cons, bd1, cl_agg, cl_int, toL, List.map_cons, List.map_nil, putAt, List.set_cons_zero, List.set_cons_succ, and_self, Nat.le_refl, app_get, app_set, g_agg, run_nil, run_cons, stp_plain, stp_guard, put_some, pass_eq, pick_tt, pick_ff, pick_tf, pick_ft, pick_u, reg_some, thn_normal, thn_exit, thn_ret, cnd_t, cnd_f, blk_normal, blk_ret, blk_exit, x_seq, x_region, x_cond, x_block, x_loop, x_ret, x_exit, x_skip, e_mov, e_pick, pk_t, pk_f, withH_some, e_box, bx_some, e_load, e_store, stH_some, e_nil, e_bin, e_eqv, eqH_f, eqH_t, e_un, e_fa, e_ia, ia_eq, nat_eq, natV_nat, e_len, lnH_some, e_extract, ex_0, ex_1, e_call0, e_call1, e_call2, e_call3, pc0_eq, pc1_some, pc2_some, pc3_some, fin_some, g_var0, g_vars, g_loc0, g_locs, g_int, g_bool, g_str, g_sl, s_none, s_zero, s_succ, cl_nil, cl_str, cl_bool, cl_slc, cl_own, evFa, evNil, asEl, evBin, intBin, strBin, evUn, len_nil, len_slc, len_str, clr, List.length_nil, List.length_cons, List.getElem?_cons_zero, List.getElem?_cons_succ, Nat.reduceAdd, Nat.zero_add, Nat.add_zero, Nat.reduceLeDiff, Nat.reduceSub, ↓reduceIte, List.drop_succ_cons, List.drop_zero, List.take_succ_cons, List.take_zero, Bool.false_eq_true, List.nil_append, List.cons_append, Bool.not_true, Bool.not_false, cond_true, cond_false, bne, lv_ret, lv_normal, res1, res2, lv2_some, res_var, res_cell, lvf_v, lvf_slc, res1c, lvo1_some, e_mm, mm_max, mm_min]
  | false =>
    rw [hB] at hbig
    have hsz := big_size hB
    have hszT : size T ≤ 3000 := hsz.2.2 T (by simp)
    have hszB : ∀ p ∈ bs, size p.2 ≤ 3000 := fun p hp => by have := hsz.2.1 p hp; omega
    have hgood := good_ok (ts := .slc 4 true true [t]) hb.1 (.slc true true [t]) (All2.cons t T [] [] ht .nil) (by omega) (by simp) (fun p hp => by have := hszB p hp; omega) (by intro p hp; simp only [List.mem_singleton] at hp; subst hp; omega)
    cases hG : (goodB bs && goodT [T]) with
    | false =>
      rw [hG] at hgood
      simp only [c8, start, List.replicate, c8_0, c8_1, c8_2, c8_3, htc, htl, ht0, hlive, s1, sb, sl, b1, hbig, hgood, e_bslice1, e_bslice2, bs1, bs2, e_build, bdH_some, bd_nil, bd_cons, bd1, cl_agg, cl_int, toL, List.map_cons, List.map_nil, putAt, List.set_cons_zero, List.set_cons_succ, and_self, Nat.le_refl, app_get, app_set, g_agg, run_nil, run_cons, stp_plain, stp_guard, put_some, pass_eq, pick_tt, pick_ff, pick_tf, pick_ft, pick_u, reg_some, thn_normal, thn_exit, thn_ret, cnd_t, cnd_f, blk_normal, blk_ret, blk_exit, x_seq, x_region, x_cond, x_block, x_loop, x_ret, x_exit, x_skip, e_mov, e_pick, pk_t, pk_f, withH_some, e_box, bx_some, e_load, e_store, stH_some, e_nil, e_bin, e_eqv, eqH_f, eqH_t, e_un, e_fa, e_ia, ia_eq, nat_eq, natV_nat, e_len, lnH_some, e_extract, ex_0, ex_1, e_call0, e_call1, e_call2, e_call3, pc0_eq, pc1_some, pc2_some, pc3_some, fin_some, g_var0, g_vars, g_loc0, g_locs, g_int, g_bool, g_str, g_sl, s_none, s_zero, s_succ, cl_nil, cl_str, cl_bool, cl_slc, cl_own, evFa, evNil, asEl, evBin, intBin, strBin, evUn, len_nil, len_slc, len_str, clr, List.length_nil, List.length_cons, List.getElem?_cons_zero, List.getElem?_cons_succ, Nat.reduceAdd, Nat.zero_add, Nat.add_zero, Nat.reduceLeDiff, Nat.reduceSub, ↓reduceIte, List.drop_succ_cons, List.drop_zero, List.take_succ_cons, List.take_zero, Bool.false_eq_true, List.nil_append, List.cons_append, Bool.not_true, Bool.not_false, cond_true, cond_false, bne, lv_ret, lv_normal, res1, res2, lv2_some, res_var, res_cell, lvf_v, lvf_slc, res1c, lvo1_some, e_mm, mm_max, mm_min]
    | true =>
      rw [hG] at hgood
      simp only [Bool.and_eq_true] at hG
      have hbm := goodB_may hG.1
      have hTm := goodT_may hG.2 T (by simp)
      obtain ⟨c, hc, hU⟩ := unify_ok hb (by omega) hszB ht ht hszT hszT
      have hC := compare_ok hb.1 (by omega) hszB hbm ht ht hszT hszT hTm hTm
      have hrun := self_run hbm 2001 2000 [(T, T)] (by intro p hp; simp only [List.mem_singleton] at hp; subst hp; exact ⟨rfl, hTm⟩)
      change (uniT bs T T = (bs, true, 0) ∧ comT bs T T = (0, 0)) ∨ (uniT bs T T = ([], false, 140) ∧ comT bs T T = (0, 140)) at hrun
      have z0 : ((0 : Int) == 140) = false := rfl
      have z1 : ((0 : Int) == 0) = true := rfl
      have z2 : ((140 : Int) == 140) = true := rfl
      have sc : ∀ h : List AO, c.snap1 h = some c := hc.1.snap'
      rcases hrun with ⟨h1, h2⟩ | ⟨h1, h2⟩
      · rw [h1] at hc hU
        rw [h2] at hC
        dsimp only at hc hU hC
        have hsm := sameB_ok hc.1 hb.1 (by omega)
        rw [sameB_refl] at hsm
        simp only [c8, start, List.replicate, c8_0, c8_1, c8_2, c8_4, c8_5, c8_6, c8_8, htc, htl, ht0, hlive, s1, sb, sc, sl, b1, hbig, hgood, hU, hC, hsm, z0, z1, ex_2, e_bslice1, e_bslice2, bs1, bs2, e_build, bdH_some, bd_nil, bd_cons, bd1, cl_agg, cl_int, toL, List.map_cons, List.map_nil, putAt, List.set_cons_zero, List.set_cons_succ, and_self, Nat.le_refl, app_get, app_set, g_agg, run_nil, run_cons, stp_plain, stp_guard, put_some, pass_eq, pick_tt, pick_ff, pick_tf, pick_ft, pick_u, reg_some, thn_normal, thn_exit, thn_ret, cnd_t, cnd_f, blk_normal, blk_ret, blk_exit, x_seq, x_region, x_cond, x_block, x_loop, x_ret, x_exit, x_skip, e_mov, e_pick, pk_t, pk_f, withH_some, e_box, bx_some, e_load, e_store, stH_some, e_nil, e_bin, e_eqv, eqH_f, eqH_t, e_un, e_fa, e_ia, ia_eq, nat_eq, natV_nat, e_len, lnH_some, e_extract, ex_0, ex_1, e_call0, e_call1, e_call2, e_call3, pc0_eq, pc1_some, pc2_some, pc3_some, fin_some, g_var0, g_vars, g_loc0, g_locs, g_int, g_bool, g_str, g_sl, s_none, s_zero, s_succ, cl_nil, cl_str, cl_bool, cl_slc, cl_own, evFa, evNil, asEl, evBin, intBin, strBin, evUn, len_nil, len_slc, len_str, clr, List.length_nil, List.length_cons, List.getElem?_cons_zero, List.getElem?_cons_succ, Nat.reduceAdd, Nat.zero_add, Nat.add_zero, Nat.reduceLeDiff, Nat.reduceSub, ↓reduceIte, List.drop_succ_cons, List.drop_zero, List.take_succ_cons, List.take_zero, Bool.false_eq_true, List.nil_append, List.cons_append, Bool.not_true, Bool.not_false, cond_true, cond_false, bne, lv_ret, lv_normal, res1, res2, lv2_some, res_var, res_cell, lvf_v, lvf_slc, res1c, lvo1_some, e_mm, mm_max, mm_min]
      · rw [h1] at hc hU
        rw [h2] at hC
        dsimp only at hc hU hC
        simp only [c8, start, List.replicate, c8_0, c8_1, c8_2, c8_4, c8_5, c8_6, c8_7, htc, htl, ht0, hlive, s1, sb, sc, sl, b1, hbig, hgood, hU, hC, z2, ex_2, pick_und, e_bslice1, e_bslice2, bs1, bs2, e_build, bdH_some, bd_nil, bd_cons, bd1, cl_agg, cl_int, toL, List.map_cons, List.map_nil, putAt, List.set_cons_zero, List.set_cons_succ, and_self, Nat.le_refl, app_get, app_set, g_agg, run_nil, run_cons, stp_plain, stp_guard, put_some, pass_eq, pick_tt, pick_ff, pick_tf, pick_ft, pick_u, reg_some, thn_normal, thn_exit, thn_ret, cnd_t, cnd_f, blk_normal, blk_ret, blk_exit, x_seq, x_region, x_cond, x_block, x_loop, x_ret, x_exit, x_skip, e_mov, e_pick, pk_t, pk_f, withH_some, e_box, bx_some, e_load, e_store, stH_some, e_nil, e_bin, e_eqv, eqH_f, eqH_t, e_un, e_fa, e_ia, ia_eq, nat_eq, natV_nat, e_len, lnH_some, e_extract, ex_0, ex_1, e_call0, e_call1, e_call2, e_call3, pc0_eq, pc1_some, pc2_some, pc3_some, fin_some, g_var0, g_vars, g_loc0, g_locs, g_int, g_bool, g_str, g_sl, s_none, s_zero, s_succ, cl_nil, cl_str, cl_bool, cl_slc, cl_own, evFa, evNil, asEl, evBin, intBin, strBin, evUn, len_nil, len_slc, len_str, clr, List.length_nil, List.length_cons, List.getElem?_cons_zero, List.getElem?_cons_succ, Nat.reduceAdd, Nat.zero_add, Nat.add_zero, Nat.reduceLeDiff, Nat.reduceSub, ↓reduceIte, List.drop_succ_cons, List.drop_zero, List.take_succ_cons, List.take_zero, Bool.false_eq_true, List.nil_append, List.cons_append, Bool.not_true, Bool.not_false, cond_true, cond_false, bne, lv_ret, lv_normal, res1, res2, lv2_some, res_var, res_cell, lvf_v, lvf_slc, res1c, lvo1_some, e_mm, mm_max, mm_min]

theorem self_plain : unifySelf.Plain := by
  intro a0 a1 w0 e0 w1 e1
  obtain ⟨c0, bs, h0, hb⟩ := wt_nn w0
  obtain ⟨x, hx⟩ := (wt_good w1).1 rfl
  rw [one_cell e0 h0]
  have h3 : AV.agg a1.cells = a1 := by
    have : asEl true a1.cells = some a1 := e1
    simpa [asEl] using this
  rw [h3] at hx
  exact callW_iff.1 (self_ok hb hx)
end Go.AE.YtpgoibncgekflaaDoor
namespace Go.Proofs.YtpgoibncgekflaaDoor
theorem unifySelf_holds : Rows.UnifySelfCardSaid := unifySelf.proved Go.AE.YtpgoibncgekflaaDoor.self_plain
#print axioms unifySelf_holds
end Go.Proofs.YtpgoibncgekflaaDoor
