/- UnifyCompares holds, its card with it: whatever the input, where the library's tables lie as its text lays them, it returns true, and the input reads as it did. Conditions: none beside. -/
import Derived.Test.YtpgoibncgekflaaDoorPart4
import Derived.Test.YtpgoibncgekflaaDoorPart5
set_option linter.unusedVariables false
set_option linter.unusedSimpArgs false
namespace Go.AE.YtpgoibncgekflaaDoor
open Go Go.AE Go.Proofs.YtpgoibncgekflaaDoor

theorem compares_ok {b t t' : AV} {T T' : Tm} {bs : List (Int × Tm)} (hb : IsB b bs) (ht : IsT t T) (ht' : IsT t' T') : callW F 4 [b, t, t'] [] = some (.v (.bool true), []) := by
  have hlive := live17
  have hbig := big18 (ts := .slc 4 true true [t, t']) hb rfl (All2.cons t T _ _ ht (.cons t' T' [] [] ht' .nil)) (by simp [maxLen])
  have s1 : ∀ h : List AO, t.snap1 h = some t := fun h => ht.snap
  have s2 : ∀ h : List AO, t'.snap1 h = some t' := fun h => ht'.snap
  have sb : ∀ h : List AO, b.snap1 h = some b := hb.snap'
  have sl : ∀ h : List AO, (AV.slc 4 true true [t, t']).snap1 h = some (.slc 4 true true [t, t']) := fun _ => rfl
  have b2 : ∀ h : List AO, bs2 h 4 (some t) (some t') = some (.slc 4 true true [t, t'], h) := by
    intro h
    simp only [bs2, ht.cl.1, ht'.cl.1, ht.cl.2, ht'.cl.2, if_true]
  have ht0 : ∀ tl : List AO, evLoad (.box t.cells :: tl) true 4 (.ptr 0 0) = some t := by
    intro tl
    rw [bx_ld (cs := t.cells) rfl, if_pos (by rw [ht.cl.2]; omega), List.drop_zero]
    exact ht.asEl
  have ht1 : ∀ (o : AO) (tl : List AO), evLoad (o :: .box t'.cells :: tl) true 4 (.ptr 1 0) = some t' := by
    intro o tl
    rw [bx_ld (cs := t'.cells) rfl, if_pos (by rw [ht'.cl.2]; omega), List.drop_zero]
    exact ht'.asEl
  have htc := ht.cl.1
  have htl := ht.cl.2
  have htc' := ht'.cl.1
  have htl' := ht'.cl.2
  refine callW_pure (c := c4) rfl rfl 0 ?_
  cases hB : big bs [T, T'] with
  | true =>
    rw [hB] at hbig
    simp only [c4, start, List.replicate, c4_0, c4_1, c4_2, c4_3, htc, htl, htc', htl', ht0, ht1, hlive, s1, s2, sb, sl, e_bslice2, b2, hbig, run_nil, run_cons, stp_plain, stp_guard, put_some, pass_eq, pick_tt, pick_ff, pick_tf, pick_ft, pick_u, reg_some, thn_normal, thn_exit, thn_ret, cnd_t, cnd_f, blk_normal, blk_ret, blk_exit, x_seq, x_region, x_cond, x_block, x_loop, x_ret, x_exit, x_skip, e_mov, e_pick, pk_t, pk_f, withH_some, e_box, bx_some, e_load, e_store, stH_some, e_nil, e_bin, e_eqv, eqH_f, eqH_t, e_un, e_fa, e_ia, ia_eq, nat_eq, natV_nat, e_len, lnH_some, e_extract, ex_0, ex_1, e_call0, e_call1, e_call2, e_call3, pc0_eq, pc1_some, pc2_some, pc3_some, fin_some, g_var0, g_vars, g_loc0, g_locs, g_int, g_bool, g_str, g_sl, s_none, s_zero, s_succ, cl_nil, cl_str, cl_bool, cl_slc, cl_own, evFa, evNil, asEl, evBin, intBin, strBin, evUn, len_nil, len_slc, len_str, clr, List.length_nil, List.length_cons, List.getElem?_cons_zero, List.getElem?_cons_succ, Nat.reduceAdd, Nat.zero_add, Nat.add_zero, Nat.reduceLeDiff, Nat.reduceSub, ↓reduceIte, List.drop_succ_cons, List.drop_zero, List.take_succ_cons, List.take_zero, Bool.false_eq_true, List.nil_append, List.cons_append, Bool.not_true, Bool.not_false, cond_true, cond_false, bne, lv_ret, lv_normal, res1, res2, lv2_some, res_var, res_cell, lvf_v, lvf_slc, res1c, lvo1_some, e_mm, mm_max, mm_min]
  | false =>
    rw [hB] at hbig
    have hsz := big_size hB
    have hszT : size T ≤ 3000 := hsz.2.2 T (by simp)
    have hszT' : size T' ≤ 3000 := hsz.2.2 T' (by simp)
    have hszB : ∀ p ∈ bs, size p.2 ≤ 3000 := fun p hp => by have := hsz.2.1 p hp; omega
    have hgood := good_ok (ts := .slc 4 true true [t, t']) hb (.slc true true [t, t']) (All2.cons t T _ _ ht (.cons t' T' [] [] ht' .nil)) (by omega) (by simp) (fun p hp => by have := hszB p hp; omega) (by intro p hp; simp only [List.mem_cons, List.not_mem_nil, or_false] at hp; rcases hp with rfl | rfl <;> omega)
    cases hG : (goodB bs && goodT [T, T']) with
    | false =>
      rw [hG] at hgood
      simp only [c4, start, List.replicate, c4_0, c4_1, c4_2, c4_3, htc, htl, htc', htl', ht0, ht1, hlive, s1, s2, sb, sl, e_bslice2, b2, hbig, hgood, run_nil, run_cons, stp_plain, stp_guard, put_some, pass_eq, pick_tt, pick_ff, pick_tf, pick_ft, pick_u, reg_some, thn_normal, thn_exit, thn_ret, cnd_t, cnd_f, blk_normal, blk_ret, blk_exit, x_seq, x_region, x_cond, x_block, x_loop, x_ret, x_exit, x_skip, e_mov, e_pick, pk_t, pk_f, withH_some, e_box, bx_some, e_load, e_store, stH_some, e_nil, e_bin, e_eqv, eqH_f, eqH_t, e_un, e_fa, e_ia, ia_eq, nat_eq, natV_nat, e_len, lnH_some, e_extract, ex_0, ex_1, e_call0, e_call1, e_call2, e_call3, pc0_eq, pc1_some, pc2_some, pc3_some, fin_some, g_var0, g_vars, g_loc0, g_locs, g_int, g_bool, g_str, g_sl, s_none, s_zero, s_succ, cl_nil, cl_str, cl_bool, cl_slc, cl_own, evFa, evNil, asEl, evBin, intBin, strBin, evUn, len_nil, len_slc, len_str, clr, List.length_nil, List.length_cons, List.getElem?_cons_zero, List.getElem?_cons_succ, Nat.reduceAdd, Nat.zero_add, Nat.add_zero, Nat.reduceLeDiff, Nat.reduceSub, ↓reduceIte, List.drop_succ_cons, List.drop_zero, List.take_succ_cons, List.take_zero, Bool.false_eq_true, List.nil_append, List.cons_append, Bool.not_true, Bool.not_false, cond_true, cond_false, bne, lv_ret, lv_normal, res1, res2, lv2_some, res_var, res_cell, lvf_v, lvf_slc, res1c, lvo1_some, e_mm, mm_max, mm_min]
    | true =>
      rw [hG] at hgood
      simp only [Bool.and_eq_true] at hG
      have hbm := goodB_may hG.1
      have hTm := goodT_may hG.2 T (by simp)
      have hTm' := goodT_may hG.2 T' (by simp)
      have hC := compare_ok hb (by omega) hszB hbm ht ht' hszT hszT' hTm hTm'
      have hD := compare21 hb (by omega) hszB hbm ht ht' hszT hszT' hTm hTm'
      generalize comT bs T T' = w at hC hD
      obtain ⟨c, e⟩ := w
      dsimp only at hC hD
      have q1 : (c == c) = true := by simp
      have q2 : (e == e) = true := by simp
      simp only [c4, start, List.replicate, c4_0, c4_1, c4_2, c4_4, c4_5, c4_6, htc, htl, htc', htl', ht0, ht1, hlive, s1, s2, sb, sl, e_bslice2, b2, hbig, hgood, hC, hD, q1, q2, run_nil, run_cons, stp_plain, stp_guard, put_some, pass_eq, pick_tt, pick_ff, pick_tf, pick_ft, pick_u, reg_some, thn_normal, thn_exit, thn_ret, cnd_t, cnd_f, blk_normal, blk_ret, blk_exit, x_seq, x_region, x_cond, x_block, x_loop, x_ret, x_exit, x_skip, e_mov, e_pick, pk_t, pk_f, withH_some, e_box, bx_some, e_load, e_store, stH_some, e_nil, e_bin, e_eqv, eqH_f, eqH_t, e_un, e_fa, e_ia, ia_eq, nat_eq, natV_nat, e_len, lnH_some, e_extract, ex_0, ex_1, e_call0, e_call1, e_call2, e_call3, pc0_eq, pc1_some, pc2_some, pc3_some, fin_some, g_var0, g_vars, g_loc0, g_locs, g_int, g_bool, g_str, g_sl, s_none, s_zero, s_succ, cl_nil, cl_str, cl_bool, cl_slc, cl_own, evFa, evNil, asEl, evBin, intBin, strBin, evUn, len_nil, len_slc, len_str, clr, List.length_nil, List.length_cons, List.getElem?_cons_zero, List.getElem?_cons_succ, Nat.reduceAdd, Nat.zero_add, Nat.add_zero, Nat.reduceLeDiff, Nat.reduceSub, ↓reduceIte, List.drop_succ_cons, List.drop_zero, List.take_succ_cons, List.take_zero, Bool.false_eq_true, List.nil_append, List.cons_append, Bool.not_true, Bool.not_false, cond_true, cond_false, bne, lv_ret, lv_normal, res1, res2, lv2_some, res_var, res_cell, lvf_v, lvf_slc, res1c, lvo1_some, e_mm, mm_max, mm_min]

theorem compares_plain : unifyCompares.Plain := by
  intro a0 a1 a2 w0 e0 w1 e1 w2 e2
  obtain ⟨c0, bs, h0, hb⟩ := (wt_good w0).2.2.2.2.2.2 rfl
  obtain ⟨x, hx⟩ := (wt_good w1).1 rfl
  obtain ⟨y, hy⟩ := (wt_good w2).1 rfl
  rw [one_cell e0 h0]
  have h3 : AV.agg a1.cells = a1 := by
    have : asEl true a1.cells = some a1 := e1
    simpa [asEl] using this
  have h4 : AV.agg a2.cells = a2 := by
    have : asEl true a2.cells = some a2 := e2
    simpa [asEl] using this
  rw [h3] at hx
  rw [h4] at hy
  exact callW_iff.1 (compares_ok hb hx hy)
end Go.AE.YtpgoibncgekflaaDoor
namespace Go.Proofs.YtpgoibncgekflaaDoor
theorem unifyCompares_holds : Rows.UnifyComparesCardSaid := unifyCompares.proved Go.AE.YtpgoibncgekflaaDoor.compares_plain
#print axioms unifyCompares_holds
end Go.Proofs.YtpgoibncgekflaaDoor
