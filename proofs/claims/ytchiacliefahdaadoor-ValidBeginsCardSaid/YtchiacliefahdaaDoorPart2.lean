/- Texts of this claim, put together. -/
import Derived.Test.YtchiacliefahdaaDoorPart1
/-! What an instruction does. -/
section
set_option linter.unusedVariables false
set_option linter.unusedSimpArgs false
namespace Go.AE.YtchiacliefahdaaDoor
open Go Go.AE Go.Proofs.YtchiacliefahdaaDoor

/-- the head goes -/
def headOff (s : VS) (r : Int) (i : In) : VS := if s.head && (r == 2 || (r == 4 && !(i.op == 23))) then { s with head := false, regs := [] } else s
def doesT (s : VS) (r k : Int) (i : In) : VS :=
  let s := headOff s r i
  if r = 4 then
    let s := if i.op = 21 then { s with regs := [] } else s
    { s with over := i.op == 23 }
  else
    let s := if k = 0 then { s with known := i.b :: s.known } else if k = 4 ∧ r = 1 then { s with regs := i.b :: s.regs } else if k = 4 ∧ r ≠ 3 then { s with parts := i.n, of := r, under := i.a } else s
    if r = 2 ∧ k ≠ 4 then { s with regs := i.a :: s.regs }
    else if r = 1 ∨ r = 3 then
      let s := { s with parts := IntKind.i64.wrap (s.parts - 1) }
      if s.parts = 0 ∧ r = 3 then { s with regs := s.under :: s.regs } else s
    else s
/-- the state, as it lies -/
def vS (c0 : AV) (c1 c2 : Int) (c3 : AV) (R N : List (Value × AV)) (s : VS) (T : List AO) : List AO := vH c0 c1 c2 c3 R N s.parts s.of s.under s.head s.over T
section
variable {c0 c3 : AV} {c1 c2 : Int} {R N : List (Value × AV)} {T : List AO}
theorem v_leave0 {p o u : Int} {hd ov : Bool} {c : CFun} {vars : List AV} {l : List AO} (h0 : c0.below1 0 = true) (h3 : c3.below1 0 = true) (hT : T.all (AO.below 0) = true) (hc : c.res = []) (x : AXit) (hx : x = .ret ∨ x = .normal) : leave (T.length + 4) c (some (x, vars, vH c0 c1 c2 c3 R N p o u hd ov (T ++ l))) = some (.tup [], vH c0 c1 c2 c3 R N p o u hd ov T) := by
  have h := (show vH c0 c1 c2 c3 R N p o u hd ov (T ++ l) = (vH c0 c1 c2 c3 R N p o u hd ov T) ++ l from rfl)
  have e : leave (T.length + 4) c (some (x, vars, vH c0 c1 c2 c3 R N p o u hd ov T ++ l)) = leave (T.length + 4) c (some (.ret, vars, vH c0 c1 c2 c3 R N p o u hd ov T ++ l)) := by
    rcases hx with rfl | rfl
    · rfl
    · simp only [leave]
  rw [h, e, leave_own (B := T.length + 4) rfl (v_below h0 h3 hT), hc]
  rfl
theorem does_ok (h0 : c0.below1 0 = true) (h3 : c3.below1 0 = true) (hT : T.all (AO.below 0) = true) {s : VS} (hR : Seen .i64 R s.regs) (hN : Seen .i64 N s.known) {r k : Int} (hr : 0 ≤ r ∧ r ≤ 4) (hk : 0 ≤ k ∧ k ≤ 4) (i : In) :
    ∃ R' N', Seen .i64 R' (doesT s r k i).regs ∧ Seen .i64 N' (doesT s r k i).known ∧ callW F 18 [.ptr 3 0, .v (.int .i64 r), .v (.int .i64 k), inV i] (vS c0 c1 c2 c3 R N s T) = some (.tup [], vS c0 c1 c2 c3 R' N' (doesT s r k i) T) := by
  have cl := (show (inV i).cl = some (inC i) from rfl)
  obtain ⟨S, Q, p, o, u, hd, ov⟩ := s
  have hr5 : r = 0 ∨ r = 1 ∨ r = 2 ∨ r = 3 ∨ r = 4 := by omega
  have hk5 : k = 0 ∨ k = 1 ∨ k = 2 ∨ k = 3 ∨ k = 4 := by omega
  have ap : ∀ x1 x2 x3 l, apB (.ptr 3 0 :: x1 :: x2 :: x3 :: .ptr (T.length + 4) 0 :: l) (some 0, 4) = true := fun _ _ _ _ => by simp [apB]
  simp only [vS] at *
  by_cases h4 : r = 4
  · subst h4
    cases hd with
    | false =>
      by_cases h21 : i.op = 21
      · have b21 : (i.op == 21) = true := by simp [h21]
        have b23 : (i.op == 23) = false := by simp [h21]
        rw [show doesT ⟨S, Q, p, o, u, false, ov⟩ 4 k i = ⟨[], Q, p, o, u, false, false⟩ from by simp [doesT, headOff, h21]]
        refine ⟨[], N, Seen.nil _, hN, callW_own (c := c18) rfl rfl 0 ?_⟩
        rw [v_app, v_len]
        simp only [c18, start, List.replicate, c18_0, c18_1, c18_2, c18_3, c18_4, c18_5, c18_6, c18_7, c18_8, c18_9, c18_10, c18_11, c18_12, c18_13, c18_14, c18_15, c18_16, c18_17, c18_18, c18_19, c18_20, cl, v_bx, v_ld4, v_ld5, v_ld6, v_ld8, v_ld9, v_l0, v_l1, v_l2, v_l4, v_st6, v_st7, v_st8, v_st9, v_st10, v_clr, v_up1, v_up2, ap, x_region_ap, apR_t, e_clrmap, e_mapupd, pick_und, Int.reduceBEq, run_nil, run_cons, stp_plain, stp_guard, put_some, pass_eq, pick_tt, pick_ff, pick_tf, pick_ft, pick_u, reg_some, thn_normal, thn_exit, thn_ret, cnd_t, cnd_f, blk_normal, blk_ret, blk_exit, x_seq, x_region, x_cond, x_block, x_loop, x_ret, x_exit, x_skip, e_mov, e_pick, pk_t, pk_f, withH_some, e_box, e_load, e_store, stH_some, e_nil, e_bin, e_eqv, eqH_f, eqH_t, e_un, e_fa, e_ia, ia_eq, nat_eq, natV_nat, e_len, lnH_some, e_extract, ex_0, ex_1, e_call0, e_call1, e_call2, e_call3, pc0_eq, pc1_some, pc2_some, pc3_some, fin_some, g_var0, g_vars, g_loc0, g_locs, g_int, g_bool, g_str, g_sl, s_none, s_zero, s_succ, cl_nil, cl_str, cl_bool, cl_slc, cl_own, evFa, evNil, asEl, evBin, intBin, strBin, evUn, len_nil, len_slc, len_str, clr, List.length_nil, List.length_cons, List.getElem?_cons_zero, List.getElem?_cons_succ, Nat.reduceAdd, Nat.zero_add, Nat.add_zero, Nat.reduceLeDiff, Nat.reduceSub, ↓reduceIte, List.drop_succ_cons, List.drop_zero, List.take_succ_cons, List.take_zero, Bool.false_eq_true, List.nil_append, List.cons_append, Bool.not_true, Bool.not_false, cond_true, cond_false, bne, lv_ret, lv_normal, res1, res2, lv2_some, res_var, res_cell, lvf_v, lvf_slc, res1c, lvo1_some, e_mm, mm_max, mm_min, cl_agg, cl_int, g_agg, e_callv1, cv1_fn, e_slice2, e_clrrow, e_callf2, pick_und, cells_agg, Option.map_some, Option.map_none, b21, b23]
        exact v_leave0 h0 h3 hT rfl _ (by first | exact .inr rfl | exact .inl rfl)
      · have b21 : (i.op == 21) = false := by simp [h21]
        cases b23 : (i.op == 23) with
        | true =>
          rw [show doesT ⟨S, Q, p, o, u, false, ov⟩ 4 k i = ⟨S, Q, p, o, u, false, true⟩ from by simp [doesT, headOff, h21, b23]]
          refine ⟨R, N, hR, hN, callW_own (c := c18) rfl rfl 0 ?_⟩
          rw [v_app, v_len]
          simp only [c18, start, List.replicate, c18_0, c18_1, c18_2, c18_3, c18_4, c18_5, c18_6, c18_7, c18_8, c18_9, c18_10, c18_11, c18_12, c18_13, c18_14, c18_15, c18_16, c18_17, c18_18, c18_19, c18_20, cl, v_bx, v_ld4, v_ld5, v_ld6, v_ld8, v_ld9, v_l0, v_l1, v_l2, v_l4, v_st6, v_st7, v_st8, v_st9, v_st10, v_clr, v_up1, v_up2, ap, x_region_ap, apR_t, e_clrmap, e_mapupd, pick_und, Int.reduceBEq, run_nil, run_cons, stp_plain, stp_guard, put_some, pass_eq, pick_tt, pick_ff, pick_tf, pick_ft, pick_u, reg_some, thn_normal, thn_exit, thn_ret, cnd_t, cnd_f, blk_normal, blk_ret, blk_exit, x_seq, x_region, x_cond, x_block, x_loop, x_ret, x_exit, x_skip, e_mov, e_pick, pk_t, pk_f, withH_some, e_box, e_load, e_store, stH_some, e_nil, e_bin, e_eqv, eqH_f, eqH_t, e_un, e_fa, e_ia, ia_eq, nat_eq, natV_nat, e_len, lnH_some, e_extract, ex_0, ex_1, e_call0, e_call1, e_call2, e_call3, pc0_eq, pc1_some, pc2_some, pc3_some, fin_some, g_var0, g_vars, g_loc0, g_locs, g_int, g_bool, g_str, g_sl, s_none, s_zero, s_succ, cl_nil, cl_str, cl_bool, cl_slc, cl_own, evFa, evNil, asEl, evBin, intBin, strBin, evUn, len_nil, len_slc, len_str, clr, List.length_nil, List.length_cons, List.getElem?_cons_zero, List.getElem?_cons_succ, Nat.reduceAdd, Nat.zero_add, Nat.add_zero, Nat.reduceLeDiff, Nat.reduceSub, ↓reduceIte, List.drop_succ_cons, List.drop_zero, List.take_succ_cons, List.take_zero, Bool.false_eq_true, List.nil_append, List.cons_append, Bool.not_true, Bool.not_false, cond_true, cond_false, bne, lv_ret, lv_normal, res1, res2, lv2_some, res_var, res_cell, lvf_v, lvf_slc, res1c, lvo1_some, e_mm, mm_max, mm_min, cl_agg, cl_int, g_agg, e_callv1, cv1_fn, e_slice2, e_clrrow, e_callf2, pick_und, cells_agg, Option.map_some, Option.map_none, b21, b23]
          exact v_leave0 h0 h3 hT rfl _ (by first | exact .inr rfl | exact .inl rfl)
        | false =>
          rw [show doesT ⟨S, Q, p, o, u, false, ov⟩ 4 k i = ⟨S, Q, p, o, u, false, false⟩ from by simp [doesT, headOff, h21, b23]]
          refine ⟨R, N, hR, hN, callW_own (c := c18) rfl rfl 0 ?_⟩
          rw [v_app, v_len]
          simp only [c18, start, List.replicate, c18_0, c18_1, c18_2, c18_3, c18_4, c18_5, c18_6, c18_7, c18_8, c18_9, c18_10, c18_11, c18_12, c18_13, c18_14, c18_15, c18_16, c18_17, c18_18, c18_19, c18_20, cl, v_bx, v_ld4, v_ld5, v_ld6, v_ld8, v_ld9, v_l0, v_l1, v_l2, v_l4, v_st6, v_st7, v_st8, v_st9, v_st10, v_clr, v_up1, v_up2, ap, x_region_ap, apR_t, e_clrmap, e_mapupd, pick_und, Int.reduceBEq, run_nil, run_cons, stp_plain, stp_guard, put_some, pass_eq, pick_tt, pick_ff, pick_tf, pick_ft, pick_u, reg_some, thn_normal, thn_exit, thn_ret, cnd_t, cnd_f, blk_normal, blk_ret, blk_exit, x_seq, x_region, x_cond, x_block, x_loop, x_ret, x_exit, x_skip, e_mov, e_pick, pk_t, pk_f, withH_some, e_box, e_load, e_store, stH_some, e_nil, e_bin, e_eqv, eqH_f, eqH_t, e_un, e_fa, e_ia, ia_eq, nat_eq, natV_nat, e_len, lnH_some, e_extract, ex_0, ex_1, e_call0, e_call1, e_call2, e_call3, pc0_eq, pc1_some, pc2_some, pc3_some, fin_some, g_var0, g_vars, g_loc0, g_locs, g_int, g_bool, g_str, g_sl, s_none, s_zero, s_succ, cl_nil, cl_str, cl_bool, cl_slc, cl_own, evFa, evNil, asEl, evBin, intBin, strBin, evUn, len_nil, len_slc, len_str, clr, List.length_nil, List.length_cons, List.getElem?_cons_zero, List.getElem?_cons_succ, Nat.reduceAdd, Nat.zero_add, Nat.add_zero, Nat.reduceLeDiff, Nat.reduceSub, ↓reduceIte, List.drop_succ_cons, List.drop_zero, List.take_succ_cons, List.take_zero, Bool.false_eq_true, List.nil_append, List.cons_append, Bool.not_true, Bool.not_false, cond_true, cond_false, bne, lv_ret, lv_normal, res1, res2, lv2_some, res_var, res_cell, lvf_v, lvf_slc, res1c, lvo1_some, e_mm, mm_max, mm_min, cl_agg, cl_int, g_agg, e_callv1, cv1_fn, e_slice2, e_clrrow, e_callf2, pick_und, cells_agg, Option.map_some, Option.map_none, b21, b23]
          exact v_leave0 h0 h3 hT rfl _ (by first | exact .inr rfl | exact .inl rfl)
    | true =>
      by_cases h21 : i.op = 21
      · have b21 : (i.op == 21) = true := by simp [h21]
        have b23 : (i.op == 23) = false := by simp [h21]
        rw [show doesT ⟨S, Q, p, o, u, true, ov⟩ 4 k i = ⟨[], Q, p, o, u, false, false⟩ from by simp [doesT, headOff, h21]]
        refine ⟨[], N, Seen.nil _, hN, callW_own (c := c18) rfl rfl 0 ?_⟩
        rw [v_app, v_len]
        simp only [c18, start, List.replicate, c18_0, c18_1, c18_2, c18_3, c18_4, c18_5, c18_6, c18_7, c18_8, c18_9, c18_10, c18_11, c18_12, c18_13, c18_14, c18_15, c18_16, c18_17, c18_18, c18_19, c18_20, cl, v_bx, v_ld4, v_ld5, v_ld6, v_ld8, v_ld9, v_l0, v_l1, v_l2, v_l4, v_st6, v_st7, v_st8, v_st9, v_st10, v_clr, v_up1, v_up2, ap, x_region_ap, apR_t, e_clrmap, e_mapupd, pick_und, Int.reduceBEq, run_nil, run_cons, stp_plain, stp_guard, put_some, pass_eq, pick_tt, pick_ff, pick_tf, pick_ft, pick_u, reg_some, thn_normal, thn_exit, thn_ret, cnd_t, cnd_f, blk_normal, blk_ret, blk_exit, x_seq, x_region, x_cond, x_block, x_loop, x_ret, x_exit, x_skip, e_mov, e_pick, pk_t, pk_f, withH_some, e_box, e_load, e_store, stH_some, e_nil, e_bin, e_eqv, eqH_f, eqH_t, e_un, e_fa, e_ia, ia_eq, nat_eq, natV_nat, e_len, lnH_some, e_extract, ex_0, ex_1, e_call0, e_call1, e_call2, e_call3, pc0_eq, pc1_some, pc2_some, pc3_some, fin_some, g_var0, g_vars, g_loc0, g_locs, g_int, g_bool, g_str, g_sl, s_none, s_zero, s_succ, cl_nil, cl_str, cl_bool, cl_slc, cl_own, evFa, evNil, asEl, evBin, intBin, strBin, evUn, len_nil, len_slc, len_str, clr, List.length_nil, List.length_cons, List.getElem?_cons_zero, List.getElem?_cons_succ, Nat.reduceAdd, Nat.zero_add, Nat.add_zero, Nat.reduceLeDiff, Nat.reduceSub, ↓reduceIte, List.drop_succ_cons, List.drop_zero, List.take_succ_cons, List.take_zero, Bool.false_eq_true, List.nil_append, List.cons_append, Bool.not_true, Bool.not_false, cond_true, cond_false, bne, lv_ret, lv_normal, res1, res2, lv2_some, res_var, res_cell, lvf_v, lvf_slc, res1c, lvo1_some, e_mm, mm_max, mm_min, cl_agg, cl_int, g_agg, e_callv1, cv1_fn, e_slice2, e_clrrow, e_callf2, pick_und, cells_agg, Option.map_some, Option.map_none, b21, b23]
        exact v_leave0 h0 h3 hT rfl _ (by first | exact .inr rfl | exact .inl rfl)
      · have b21 : (i.op == 21) = false := by simp [h21]
        cases b23 : (i.op == 23) with
        | true =>
          rw [show doesT ⟨S, Q, p, o, u, true, ov⟩ 4 k i = ⟨S, Q, p, o, u, true, true⟩ from by simp [doesT, headOff, h21, b23]]
          refine ⟨R, N, hR, hN, callW_own (c := c18) rfl rfl 0 ?_⟩
          rw [v_app, v_len]
          simp only [c18, start, List.replicate, c18_0, c18_1, c18_2, c18_3, c18_4, c18_5, c18_6, c18_7, c18_8, c18_9, c18_10, c18_11, c18_12, c18_13, c18_14, c18_15, c18_16, c18_17, c18_18, c18_19, c18_20, cl, v_bx, v_ld4, v_ld5, v_ld6, v_ld8, v_ld9, v_l0, v_l1, v_l2, v_l4, v_st6, v_st7, v_st8, v_st9, v_st10, v_clr, v_up1, v_up2, ap, x_region_ap, apR_t, e_clrmap, e_mapupd, pick_und, Int.reduceBEq, run_nil, run_cons, stp_plain, stp_guard, put_some, pass_eq, pick_tt, pick_ff, pick_tf, pick_ft, pick_u, reg_some, thn_normal, thn_exit, thn_ret, cnd_t, cnd_f, blk_normal, blk_ret, blk_exit, x_seq, x_region, x_cond, x_block, x_loop, x_ret, x_exit, x_skip, e_mov, e_pick, pk_t, pk_f, withH_some, e_box, e_load, e_store, stH_some, e_nil, e_bin, e_eqv, eqH_f, eqH_t, e_un, e_fa, e_ia, ia_eq, nat_eq, natV_nat, e_len, lnH_some, e_extract, ex_0, ex_1, e_call0, e_call1, e_call2, e_call3, pc0_eq, pc1_some, pc2_some, pc3_some, fin_some, g_var0, g_vars, g_loc0, g_locs, g_int, g_bool, g_str, g_sl, s_none, s_zero, s_succ, cl_nil, cl_str, cl_bool, cl_slc, cl_own, evFa, evNil, asEl, evBin, intBin, strBin, evUn, len_nil, len_slc, len_str, clr, List.length_nil, List.length_cons, List.getElem?_cons_zero, List.getElem?_cons_succ, Nat.reduceAdd, Nat.zero_add, Nat.add_zero, Nat.reduceLeDiff, Nat.reduceSub, ↓reduceIte, List.drop_succ_cons, List.drop_zero, List.take_succ_cons, List.take_zero, Bool.false_eq_true, List.nil_append, List.cons_append, Bool.not_true, Bool.not_false, cond_true, cond_false, bne, lv_ret, lv_normal, res1, res2, lv2_some, res_var, res_cell, lvf_v, lvf_slc, res1c, lvo1_some, e_mm, mm_max, mm_min, cl_agg, cl_int, g_agg, e_callv1, cv1_fn, e_slice2, e_clrrow, e_callf2, pick_und, cells_agg, Option.map_some, Option.map_none, b21, b23]
          exact v_leave0 h0 h3 hT rfl _ (by first | exact .inr rfl | exact .inl rfl)
        | false =>
          rw [show doesT ⟨S, Q, p, o, u, true, ov⟩ 4 k i = ⟨[], Q, p, o, u, false, false⟩ from by simp [doesT, headOff, h21, b23]]
          refine ⟨[], N, Seen.nil _, hN, callW_own (c := c18) rfl rfl 0 ?_⟩
          rw [v_app, v_len]
          simp only [c18, start, List.replicate, c18_0, c18_1, c18_2, c18_3, c18_4, c18_5, c18_6, c18_7, c18_8, c18_9, c18_10, c18_11, c18_12, c18_13, c18_14, c18_15, c18_16, c18_17, c18_18, c18_19, c18_20, cl, v_bx, v_ld4, v_ld5, v_ld6, v_ld8, v_ld9, v_l0, v_l1, v_l2, v_l4, v_st6, v_st7, v_st8, v_st9, v_st10, v_clr, v_up1, v_up2, ap, x_region_ap, apR_t, e_clrmap, e_mapupd, pick_und, Int.reduceBEq, run_nil, run_cons, stp_plain, stp_guard, put_some, pass_eq, pick_tt, pick_ff, pick_tf, pick_ft, pick_u, reg_some, thn_normal, thn_exit, thn_ret, cnd_t, cnd_f, blk_normal, blk_ret, blk_exit, x_seq, x_region, x_cond, x_block, x_loop, x_ret, x_exit, x_skip, e_mov, e_pick, pk_t, pk_f, withH_some, e_box, e_load, e_store, stH_some, e_nil, e_bin, e_eqv, eqH_f, eqH_t, e_un, e_fa, e_ia, ia_eq, nat_eq, natV_nat, e_len, lnH_some, e_extract, ex_0, ex_1, e_call0, e_call1, e_call2, e_call3, pc0_eq, pc1_some, pc2_some, pc3_some, fin_some, g_var0, g_vars, g_loc0, g_locs, g_int, g_bool, g_str, g_sl, s_none, s_zero, s_succ, cl_nil, cl_str, cl_bool, cl_slc, cl_own, evFa, evNil, asEl, evBin, intBin, strBin, evUn, len_nil, len_slc, len_str, clr, List.length_nil, List.length_cons, List.getElem?_cons_zero, List.getElem?_cons_succ, Nat.reduceAdd, Nat.zero_add, Nat.add_zero, Nat.reduceLeDiff, Nat.reduceSub, ↓reduceIte, List.drop_succ_cons, List.drop_zero, List.take_succ_cons, List.take_zero, Bool.false_eq_true, List.nil_append, List.cons_append, Bool.not_true, Bool.not_false, cond_true, cond_false, bne, lv_ret, lv_normal, res1, res2, lv2_some, res_var, res_cell, lvf_v, lvf_slc, res1c, lvo1_some, e_mm, mm_max, mm_min, cl_agg, cl_int, g_agg, e_callv1, cv1_fn, e_slice2, e_clrrow, e_callf2, pick_und, cells_agg, Option.map_some, Option.map_none, b21, b23]
          exact v_leave0 h0 h3 hT rfl _ (by first | exact .inr rfl | exact .inl rfl)
  · have hr4 : r = 0 ∨ r = 1 ∨ r = 2 ∨ r = 3 := by omega
    clear h4 hr5 hr
    rcases hr4 with rfl | rfl | rfl | rfl
    · rcases hk5 with rfl | rfl | rfl | rfl | rfl
      · cases hd with
        | false =>
          rw [show doesT ⟨S, Q, p, o, u, false, ov⟩ 0 0 i = ⟨S, (i.b :: Q), p, o, u, false, ov⟩ from by simp [doesT, headOff]]
          refine ⟨R, (upd (.int .i64 i.b) (.v (.bool true)) N), hR, hN.add _, callW_own (c := c18) rfl rfl 0 ?_⟩
          rw [v_app, v_len]
          simp only [c18, start, List.replicate, c18_0, c18_1, c18_2, c18_3, c18_4, c18_5, c18_6, c18_7, c18_8, c18_9, c18_10, c18_11, c18_12, c18_13, c18_14, c18_15, c18_16, c18_17, c18_18, c18_19, c18_20, cl, v_bx, v_ld4, v_ld5, v_ld6, v_ld8, v_ld9, v_l0, v_l1, v_l2, v_l4, v_st6, v_st7, v_st8, v_st9, v_st10, v_clr, v_up1, v_up2, ap, x_region_ap, apR_t, e_clrmap, e_mapupd, pick_und, Int.reduceBEq, run_nil, run_cons, stp_plain, stp_guard, put_some, pass_eq, pick_tt, pick_ff, pick_tf, pick_ft, pick_u, reg_some, thn_normal, thn_exit, thn_ret, cnd_t, cnd_f, blk_normal, blk_ret, blk_exit, x_seq, x_region, x_cond, x_block, x_loop, x_ret, x_exit, x_skip, e_mov, e_pick, pk_t, pk_f, withH_some, e_box, e_load, e_store, stH_some, e_nil, e_bin, e_eqv, eqH_f, eqH_t, e_un, e_fa, e_ia, ia_eq, nat_eq, natV_nat, e_len, lnH_some, e_extract, ex_0, ex_1, e_call0, e_call1, e_call2, e_call3, pc0_eq, pc1_some, pc2_some, pc3_some, fin_some, g_var0, g_vars, g_loc0, g_locs, g_int, g_bool, g_str, g_sl, s_none, s_zero, s_succ, cl_nil, cl_str, cl_bool, cl_slc, cl_own, evFa, evNil, asEl, evBin, intBin, strBin, evUn, len_nil, len_slc, len_str, clr, List.length_nil, List.length_cons, List.getElem?_cons_zero, List.getElem?_cons_succ, Nat.reduceAdd, Nat.zero_add, Nat.add_zero, Nat.reduceLeDiff, Nat.reduceSub, ↓reduceIte, List.drop_succ_cons, List.drop_zero, List.take_succ_cons, List.take_zero, Bool.false_eq_true, List.nil_append, List.cons_append, Bool.not_true, Bool.not_false, cond_true, cond_false, bne, lv_ret, lv_normal, res1, res2, lv2_some, res_var, res_cell, lvf_v, lvf_slc, res1c, lvo1_some, e_mm, mm_max, mm_min, cl_agg, cl_int, g_agg, e_callv1, cv1_fn, e_slice2, e_clrrow, e_callf2, pick_und, cells_agg, Option.map_some, Option.map_none]
          exact v_leave0 h0 h3 hT rfl _ (by first | exact .inr rfl | exact .inl rfl)
        | true =>
          rw [show doesT ⟨S, Q, p, o, u, true, ov⟩ 0 0 i = ⟨S, (i.b :: Q), p, o, u, true, ov⟩ from by simp [doesT, headOff]]
          refine ⟨R, (upd (.int .i64 i.b) (.v (.bool true)) N), hR, hN.add _, callW_own (c := c18) rfl rfl 0 ?_⟩
          rw [v_app, v_len]
          simp only [c18, start, List.replicate, c18_0, c18_1, c18_2, c18_3, c18_4, c18_5, c18_6, c18_7, c18_8, c18_9, c18_10, c18_11, c18_12, c18_13, c18_14, c18_15, c18_16, c18_17, c18_18, c18_19, c18_20, cl, v_bx, v_ld4, v_ld5, v_ld6, v_ld8, v_ld9, v_l0, v_l1, v_l2, v_l4, v_st6, v_st7, v_st8, v_st9, v_st10, v_clr, v_up1, v_up2, ap, x_region_ap, apR_t, e_clrmap, e_mapupd, pick_und, Int.reduceBEq, run_nil, run_cons, stp_plain, stp_guard, put_some, pass_eq, pick_tt, pick_ff, pick_tf, pick_ft, pick_u, reg_some, thn_normal, thn_exit, thn_ret, cnd_t, cnd_f, blk_normal, blk_ret, blk_exit, x_seq, x_region, x_cond, x_block, x_loop, x_ret, x_exit, x_skip, e_mov, e_pick, pk_t, pk_f, withH_some, e_box, e_load, e_store, stH_some, e_nil, e_bin, e_eqv, eqH_f, eqH_t, e_un, e_fa, e_ia, ia_eq, nat_eq, natV_nat, e_len, lnH_some, e_extract, ex_0, ex_1, e_call0, e_call1, e_call2, e_call3, pc0_eq, pc1_some, pc2_some, pc3_some, fin_some, g_var0, g_vars, g_loc0, g_locs, g_int, g_bool, g_str, g_sl, s_none, s_zero, s_succ, cl_nil, cl_str, cl_bool, cl_slc, cl_own, evFa, evNil, asEl, evBin, intBin, strBin, evUn, len_nil, len_slc, len_str, clr, List.length_nil, List.length_cons, List.getElem?_cons_zero, List.getElem?_cons_succ, Nat.reduceAdd, Nat.zero_add, Nat.add_zero, Nat.reduceLeDiff, Nat.reduceSub, ↓reduceIte, List.drop_succ_cons, List.drop_zero, List.take_succ_cons, List.take_zero, Bool.false_eq_true, List.nil_append, List.cons_append, Bool.not_true, Bool.not_false, cond_true, cond_false, bne, lv_ret, lv_normal, res1, res2, lv2_some, res_var, res_cell, lvf_v, lvf_slc, res1c, lvo1_some, e_mm, mm_max, mm_min, cl_agg, cl_int, g_agg, e_callv1, cv1_fn, e_slice2, e_clrrow, e_callf2, pick_und, cells_agg, Option.map_some, Option.map_none]
          exact v_leave0 h0 h3 hT rfl _ (by first | exact .inr rfl | exact .inl rfl)
      · cases hd with
        | false =>
          rw [show doesT ⟨S, Q, p, o, u, false, ov⟩ 0 1 i = ⟨S, Q, p, o, u, false, ov⟩ from by simp [doesT, headOff]]
          refine ⟨R, N, hR, hN, callW_own (c := c18) rfl rfl 0 ?_⟩
          rw [v_app, v_len]
          simp only [c18, start, List.replicate, c18_0, c18_1, c18_2, c18_3, c18_4, c18_5, c18_6, c18_7, c18_8, c18_9, c18_10, c18_11, c18_12, c18_13, c18_14, c18_15, c18_16, c18_17, c18_18, c18_19, c18_20, cl, v_bx, v_ld4, v_ld5, v_ld6, v_ld8, v_ld9, v_l0, v_l1, v_l2, v_l4, v_st6, v_st7, v_st8, v_st9, v_st10, v_clr, v_up1, v_up2, ap, x_region_ap, apR_t, e_clrmap, e_mapupd, pick_und, Int.reduceBEq, run_nil, run_cons, stp_plain, stp_guard, put_some, pass_eq, pick_tt, pick_ff, pick_tf, pick_ft, pick_u, reg_some, thn_normal, thn_exit, thn_ret, cnd_t, cnd_f, blk_normal, blk_ret, blk_exit, x_seq, x_region, x_cond, x_block, x_loop, x_ret, x_exit, x_skip, e_mov, e_pick, pk_t, pk_f, withH_some, e_box, e_load, e_store, stH_some, e_nil, e_bin, e_eqv, eqH_f, eqH_t, e_un, e_fa, e_ia, ia_eq, nat_eq, natV_nat, e_len, lnH_some, e_extract, ex_0, ex_1, e_call0, e_call1, e_call2, e_call3, pc0_eq, pc1_some, pc2_some, pc3_some, fin_some, g_var0, g_vars, g_loc0, g_locs, g_int, g_bool, g_str, g_sl, s_none, s_zero, s_succ, cl_nil, cl_str, cl_bool, cl_slc, cl_own, evFa, evNil, asEl, evBin, intBin, strBin, evUn, len_nil, len_slc, len_str, clr, List.length_nil, List.length_cons, List.getElem?_cons_zero, List.getElem?_cons_succ, Nat.reduceAdd, Nat.zero_add, Nat.add_zero, Nat.reduceLeDiff, Nat.reduceSub, ↓reduceIte, List.drop_succ_cons, List.drop_zero, List.take_succ_cons, List.take_zero, Bool.false_eq_true, List.nil_append, List.cons_append, Bool.not_true, Bool.not_false, cond_true, cond_false, bne, lv_ret, lv_normal, res1, res2, lv2_some, res_var, res_cell, lvf_v, lvf_slc, res1c, lvo1_some, e_mm, mm_max, mm_min, cl_agg, cl_int, g_agg, e_callv1, cv1_fn, e_slice2, e_clrrow, e_callf2, pick_und, cells_agg, Option.map_some, Option.map_none]
          exact v_leave0 h0 h3 hT rfl _ (by first | exact .inr rfl | exact .inl rfl)
        | true =>
          rw [show doesT ⟨S, Q, p, o, u, true, ov⟩ 0 1 i = ⟨S, Q, p, o, u, true, ov⟩ from by simp [doesT, headOff]]
          refine ⟨R, N, hR, hN, callW_own (c := c18) rfl rfl 0 ?_⟩
          rw [v_app, v_len]
          simp only [c18, start, List.replicate, c18_0, c18_1, c18_2, c18_3, c18_4, c18_5, c18_6, c18_7, c18_8, c18_9, c18_10, c18_11, c18_12, c18_13, c18_14, c18_15, c18_16, c18_17, c18_18, c18_19, c18_20, cl, v_bx, v_ld4, v_ld5, v_ld6, v_ld8, v_ld9, v_l0, v_l1, v_l2, v_l4, v_st6, v_st7, v_st8, v_st9, v_st10, v_clr, v_up1, v_up2, ap, x_region_ap, apR_t, e_clrmap, e_mapupd, pick_und, Int.reduceBEq, run_nil, run_cons, stp_plain, stp_guard, put_some, pass_eq, pick_tt, pick_ff, pick_tf, pick_ft, pick_u, reg_some, thn_normal, thn_exit, thn_ret, cnd_t, cnd_f, blk_normal, blk_ret, blk_exit, x_seq, x_region, x_cond, x_block, x_loop, x_ret, x_exit, x_skip, e_mov, e_pick, pk_t, pk_f, withH_some, e_box, e_load, e_store, stH_some, e_nil, e_bin, e_eqv, eqH_f, eqH_t, e_un, e_fa, e_ia, ia_eq, nat_eq, natV_nat, e_len, lnH_some, e_extract, ex_0, ex_1, e_call0, e_call1, e_call2, e_call3, pc0_eq, pc1_some, pc2_some, pc3_some, fin_some, g_var0, g_vars, g_loc0, g_locs, g_int, g_bool, g_str, g_sl, s_none, s_zero, s_succ, cl_nil, cl_str, cl_bool, cl_slc, cl_own, evFa, evNil, asEl, evBin, intBin, strBin, evUn, len_nil, len_slc, len_str, clr, List.length_nil, List.length_cons, List.getElem?_cons_zero, List.getElem?_cons_succ, Nat.reduceAdd, Nat.zero_add, Nat.add_zero, Nat.reduceLeDiff, Nat.reduceSub, ↓reduceIte, List.drop_succ_cons, List.drop_zero, List.take_succ_cons, List.take_zero, Bool.false_eq_true, List.nil_append, List.cons_append, Bool.not_true, Bool.not_false, cond_true, cond_false, bne, lv_ret, lv_normal, res1, res2, lv2_some, res_var, res_cell, lvf_v, lvf_slc, res1c, lvo1_some, e_mm, mm_max, mm_min, cl_agg, cl_int, g_agg, e_callv1, cv1_fn, e_slice2, e_clrrow, e_callf2, pick_und, cells_agg, Option.map_some, Option.map_none]
          exact v_leave0 h0 h3 hT rfl _ (by first | exact .inr rfl | exact .inl rfl)
      · cases hd with
        | false =>
          rw [show doesT ⟨S, Q, p, o, u, false, ov⟩ 0 2 i = ⟨S, Q, p, o, u, false, ov⟩ from by simp [doesT, headOff]]
          refine ⟨R, N, hR, hN, callW_own (c := c18) rfl rfl 0 ?_⟩
          rw [v_app, v_len]
          simp only [c18, start, List.replicate, c18_0, c18_1, c18_2, c18_3, c18_4, c18_5, c18_6, c18_7, c18_8, c18_9, c18_10, c18_11, c18_12, c18_13, c18_14, c18_15, c18_16, c18_17, c18_18, c18_19, c18_20, cl, v_bx, v_ld4, v_ld5, v_ld6, v_ld8, v_ld9, v_l0, v_l1, v_l2, v_l4, v_st6, v_st7, v_st8, v_st9, v_st10, v_clr, v_up1, v_up2, ap, x_region_ap, apR_t, e_clrmap, e_mapupd, pick_und, Int.reduceBEq, run_nil, run_cons, stp_plain, stp_guard, put_some, pass_eq, pick_tt, pick_ff, pick_tf, pick_ft, pick_u, reg_some, thn_normal, thn_exit, thn_ret, cnd_t, cnd_f, blk_normal, blk_ret, blk_exit, x_seq, x_region, x_cond, x_block, x_loop, x_ret, x_exit, x_skip, e_mov, e_pick, pk_t, pk_f, withH_some, e_box, e_load, e_store, stH_some, e_nil, e_bin, e_eqv, eqH_f, eqH_t, e_un, e_fa, e_ia, ia_eq, nat_eq, natV_nat, e_len, lnH_some, e_extract, ex_0, ex_1, e_call0, e_call1, e_call2, e_call3, pc0_eq, pc1_some, pc2_some, pc3_some, fin_some, g_var0, g_vars, g_loc0, g_locs, g_int, g_bool, g_str, g_sl, s_none, s_zero, s_succ, cl_nil, cl_str, cl_bool, cl_slc, cl_own, evFa, evNil, asEl, evBin, intBin, strBin, evUn, len_nil, len_slc, len_str, clr, List.length_nil, List.length_cons, List.getElem?_cons_zero, List.getElem?_cons_succ, Nat.reduceAdd, Nat.zero_add, Nat.add_zero, Nat.reduceLeDiff, Nat.reduceSub, ↓reduceIte, List.drop_succ_cons, List.drop_zero, List.take_succ_cons, List.take_zero, Bool.false_eq_true, List.nil_append, List.cons_append, Bool.not_true, Bool.not_false, cond_true, cond_false, bne, lv_ret, lv_normal, res1, res2, lv2_some, res_var, res_cell, lvf_v, lvf_slc, res1c, lvo1_some, e_mm, mm_max, mm_min, cl_agg, cl_int, g_agg, e_callv1, cv1_fn, e_slice2, e_clrrow, e_callf2, pick_und, cells_agg, Option.map_some, Option.map_none]
          exact v_leave0 h0 h3 hT rfl _ (by first | exact .inr rfl | exact .inl rfl)
        | true =>
          rw [show doesT ⟨S, Q, p, o, u, true, ov⟩ 0 2 i = ⟨S, Q, p, o, u, true, ov⟩ from by simp [doesT, headOff]]
          refine ⟨R, N, hR, hN, callW_own (c := c18) rfl rfl 0 ?_⟩
          rw [v_app, v_len]
          simp only [c18, start, List.replicate, c18_0, c18_1, c18_2, c18_3, c18_4, c18_5, c18_6, c18_7, c18_8, c18_9, c18_10, c18_11, c18_12, c18_13, c18_14, c18_15, c18_16, c18_17, c18_18, c18_19, c18_20, cl, v_bx, v_ld4, v_ld5, v_ld6, v_ld8, v_ld9, v_l0, v_l1, v_l2, v_l4, v_st6, v_st7, v_st8, v_st9, v_st10, v_clr, v_up1, v_up2, ap, x_region_ap, apR_t, e_clrmap, e_mapupd, pick_und, Int.reduceBEq, run_nil, run_cons, stp_plain, stp_guard, put_some, pass_eq, pick_tt, pick_ff, pick_tf, pick_ft, pick_u, reg_some, thn_normal, thn_exit, thn_ret, cnd_t, cnd_f, blk_normal, blk_ret, blk_exit, x_seq, x_region, x_cond, x_block, x_loop, x_ret, x_exit, x_skip, e_mov, e_pick, pk_t, pk_f, withH_some, e_box, e_load, e_store, stH_some, e_nil, e_bin, e_eqv, eqH_f, eqH_t, e_un, e_fa, e_ia, ia_eq, nat_eq, natV_nat, e_len, lnH_some, e_extract, ex_0, ex_1, e_call0, e_call1, e_call2, e_call3, pc0_eq, pc1_some, pc2_some, pc3_some, fin_some, g_var0, g_vars, g_loc0, g_locs, g_int, g_bool, g_str, g_sl, s_none, s_zero, s_succ, cl_nil, cl_str, cl_bool, cl_slc, cl_own, evFa, evNil, asEl, evBin, intBin, strBin, evUn, len_nil, len_slc, len_str, clr, List.length_nil, List.length_cons, List.getElem?_cons_zero, List.getElem?_cons_succ, Nat.reduceAdd, Nat.zero_add, Nat.add_zero, Nat.reduceLeDiff, Nat.reduceSub, ↓reduceIte, List.drop_succ_cons, List.drop_zero, List.take_succ_cons, List.take_zero, Bool.false_eq_true, List.nil_append, List.cons_append, Bool.not_true, Bool.not_false, cond_true, cond_false, bne, lv_ret, lv_normal, res1, res2, lv2_some, res_var, res_cell, lvf_v, lvf_slc, res1c, lvo1_some, e_mm, mm_max, mm_min, cl_agg, cl_int, g_agg, e_callv1, cv1_fn, e_slice2, e_clrrow, e_callf2, pick_und, cells_agg, Option.map_some, Option.map_none]
          exact v_leave0 h0 h3 hT rfl _ (by first | exact .inr rfl | exact .inl rfl)
      · cases hd with
        | false =>
          rw [show doesT ⟨S, Q, p, o, u, false, ov⟩ 0 3 i = ⟨S, Q, p, o, u, false, ov⟩ from by simp [doesT, headOff]]
          refine ⟨R, N, hR, hN, callW_own (c := c18) rfl rfl 0 ?_⟩
          rw [v_app, v_len]
          simp only [c18, start, List.replicate, c18_0, c18_1, c18_2, c18_3, c18_4, c18_5, c18_6, c18_7, c18_8, c18_9, c18_10, c18_11, c18_12, c18_13, c18_14, c18_15, c18_16, c18_17, c18_18, c18_19, c18_20, cl, v_bx, v_ld4, v_ld5, v_ld6, v_ld8, v_ld9, v_l0, v_l1, v_l2, v_l4, v_st6, v_st7, v_st8, v_st9, v_st10, v_clr, v_up1, v_up2, ap, x_region_ap, apR_t, e_clrmap, e_mapupd, pick_und, Int.reduceBEq, run_nil, run_cons, stp_plain, stp_guard, put_some, pass_eq, pick_tt, pick_ff, pick_tf, pick_ft, pick_u, reg_some, thn_normal, thn_exit, thn_ret, cnd_t, cnd_f, blk_normal, blk_ret, blk_exit, x_seq, x_region, x_cond, x_block, x_loop, x_ret, x_exit, x_skip, e_mov, e_pick, pk_t, pk_f, withH_some, e_box, e_load, e_store, stH_some, e_nil, e_bin, e_eqv, eqH_f, eqH_t, e_un, e_fa, e_ia, ia_eq, nat_eq, natV_nat, e_len, lnH_some, e_extract, ex_0, ex_1, e_call0, e_call1, e_call2, e_call3, pc0_eq, pc1_some, pc2_some, pc3_some, fin_some, g_var0, g_vars, g_loc0, g_locs, g_int, g_bool, g_str, g_sl, s_none, s_zero, s_succ, cl_nil, cl_str, cl_bool, cl_slc, cl_own, evFa, evNil, asEl, evBin, intBin, strBin, evUn, len_nil, len_slc, len_str, clr, List.length_nil, List.length_cons, List.getElem?_cons_zero, List.getElem?_cons_succ, Nat.reduceAdd, Nat.zero_add, Nat.add_zero, Nat.reduceLeDiff, Nat.reduceSub, ↓reduceIte, List.drop_succ_cons, List.drop_zero, List.take_succ_cons, List.take_zero, Bool.false_eq_true, List.nil_append, List.cons_append, Bool.not_true, Bool.not_false, cond_true, cond_false, bne, lv_ret, lv_normal, res1, res2, lv2_some, res_var, res_cell, lvf_v, lvf_slc, res1c, lvo1_some, e_mm, mm_max, mm_min, cl_agg, cl_int, g_agg, e_callv1, cv1_fn, e_slice2, e_clrrow, e_callf2, pick_und, cells_agg, Option.map_some, Option.map_none]
          exact v_leave0 h0 h3 hT rfl _ (by first | exact .inr rfl | exact .inl rfl)
        | true =>
          rw [show doesT ⟨S, Q, p, o, u, true, ov⟩ 0 3 i = ⟨S, Q, p, o, u, true, ov⟩ from by simp [doesT, headOff]]
          refine ⟨R, N, hR, hN, callW_own (c := c18) rfl rfl 0 ?_⟩
          rw [v_app, v_len]
          simp only [c18, start, List.replicate, c18_0, c18_1, c18_2, c18_3, c18_4, c18_5, c18_6, c18_7, c18_8, c18_9, c18_10, c18_11, c18_12, c18_13, c18_14, c18_15, c18_16, c18_17, c18_18, c18_19, c18_20, cl, v_bx, v_ld4, v_ld5, v_ld6, v_ld8, v_ld9, v_l0, v_l1, v_l2, v_l4, v_st6, v_st7, v_st8, v_st9, v_st10, v_clr, v_up1, v_up2, ap, x_region_ap, apR_t, e_clrmap, e_mapupd, pick_und, Int.reduceBEq, run_nil, run_cons, stp_plain, stp_guard, put_some, pass_eq, pick_tt, pick_ff, pick_tf, pick_ft, pick_u, reg_some, thn_normal, thn_exit, thn_ret, cnd_t, cnd_f, blk_normal, blk_ret, blk_exit, x_seq, x_region, x_cond, x_block, x_loop, x_ret, x_exit, x_skip, e_mov, e_pick, pk_t, pk_f, withH_some, e_box, e_load, e_store, stH_some, e_nil, e_bin, e_eqv, eqH_f, eqH_t, e_un, e_fa, e_ia, ia_eq, nat_eq, natV_nat, e_len, lnH_some, e_extract, ex_0, ex_1, e_call0, e_call1, e_call2, e_call3, pc0_eq, pc1_some, pc2_some, pc3_some, fin_some, g_var0, g_vars, g_loc0, g_locs, g_int, g_bool, g_str, g_sl, s_none, s_zero, s_succ, cl_nil, cl_str, cl_bool, cl_slc, cl_own, evFa, evNil, asEl, evBin, intBin, strBin, evUn, len_nil, len_slc, len_str, clr, List.length_nil, List.length_cons, List.getElem?_cons_zero, List.getElem?_cons_succ, Nat.reduceAdd, Nat.zero_add, Nat.add_zero, Nat.reduceLeDiff, Nat.reduceSub, ↓reduceIte, List.drop_succ_cons, List.drop_zero, List.take_succ_cons, List.take_zero, Bool.false_eq_true, List.nil_append, List.cons_append, Bool.not_true, Bool.not_false, cond_true, cond_false, bne, lv_ret, lv_normal, res1, res2, lv2_some, res_var, res_cell, lvf_v, lvf_slc, res1c, lvo1_some, e_mm, mm_max, mm_min, cl_agg, cl_int, g_agg, e_callv1, cv1_fn, e_slice2, e_clrrow, e_callf2, pick_und, cells_agg, Option.map_some, Option.map_none]
          exact v_leave0 h0 h3 hT rfl _ (by first | exact .inr rfl | exact .inl rfl)
      · cases hd with
        | false =>
          rw [show doesT ⟨S, Q, p, o, u, false, ov⟩ 0 4 i = ⟨S, Q, i.n, 0, i.a, false, ov⟩ from by simp [doesT, headOff]]
          refine ⟨R, N, hR, hN, callW_own (c := c18) rfl rfl 0 ?_⟩
          rw [v_app, v_len]
          simp only [c18, start, List.replicate, c18_0, c18_1, c18_2, c18_3, c18_4, c18_5, c18_6, c18_7, c18_8, c18_9, c18_10, c18_11, c18_12, c18_13, c18_14, c18_15, c18_16, c18_17, c18_18, c18_19, c18_20, cl, v_bx, v_ld4, v_ld5, v_ld6, v_ld8, v_ld9, v_l0, v_l1, v_l2, v_l4, v_st6, v_st7, v_st8, v_st9, v_st10, v_clr, v_up1, v_up2, ap, x_region_ap, apR_t, e_clrmap, e_mapupd, pick_und, Int.reduceBEq, run_nil, run_cons, stp_plain, stp_guard, put_some, pass_eq, pick_tt, pick_ff, pick_tf, pick_ft, pick_u, reg_some, thn_normal, thn_exit, thn_ret, cnd_t, cnd_f, blk_normal, blk_ret, blk_exit, x_seq, x_region, x_cond, x_block, x_loop, x_ret, x_exit, x_skip, e_mov, e_pick, pk_t, pk_f, withH_some, e_box, e_load, e_store, stH_some, e_nil, e_bin, e_eqv, eqH_f, eqH_t, e_un, e_fa, e_ia, ia_eq, nat_eq, natV_nat, e_len, lnH_some, e_extract, ex_0, ex_1, e_call0, e_call1, e_call2, e_call3, pc0_eq, pc1_some, pc2_some, pc3_some, fin_some, g_var0, g_vars, g_loc0, g_locs, g_int, g_bool, g_str, g_sl, s_none, s_zero, s_succ, cl_nil, cl_str, cl_bool, cl_slc, cl_own, evFa, evNil, asEl, evBin, intBin, strBin, evUn, len_nil, len_slc, len_str, clr, List.length_nil, List.length_cons, List.getElem?_cons_zero, List.getElem?_cons_succ, Nat.reduceAdd, Nat.zero_add, Nat.add_zero, Nat.reduceLeDiff, Nat.reduceSub, ↓reduceIte, List.drop_succ_cons, List.drop_zero, List.take_succ_cons, List.take_zero, Bool.false_eq_true, List.nil_append, List.cons_append, Bool.not_true, Bool.not_false, cond_true, cond_false, bne, lv_ret, lv_normal, res1, res2, lv2_some, res_var, res_cell, lvf_v, lvf_slc, res1c, lvo1_some, e_mm, mm_max, mm_min, cl_agg, cl_int, g_agg, e_callv1, cv1_fn, e_slice2, e_clrrow, e_callf2, pick_und, cells_agg, Option.map_some, Option.map_none]
          exact v_leave0 h0 h3 hT rfl _ (by first | exact .inr rfl | exact .inl rfl)
        | true =>
          rw [show doesT ⟨S, Q, p, o, u, true, ov⟩ 0 4 i = ⟨S, Q, i.n, 0, i.a, true, ov⟩ from by simp [doesT, headOff]]
          refine ⟨R, N, hR, hN, callW_own (c := c18) rfl rfl 0 ?_⟩
          rw [v_app, v_len]
          simp only [c18, start, List.replicate, c18_0, c18_1, c18_2, c18_3, c18_4, c18_5, c18_6, c18_7, c18_8, c18_9, c18_10, c18_11, c18_12, c18_13, c18_14, c18_15, c18_16, c18_17, c18_18, c18_19, c18_20, cl, v_bx, v_ld4, v_ld5, v_ld6, v_ld8, v_ld9, v_l0, v_l1, v_l2, v_l4, v_st6, v_st7, v_st8, v_st9, v_st10, v_clr, v_up1, v_up2, ap, x_region_ap, apR_t, e_clrmap, e_mapupd, pick_und, Int.reduceBEq, run_nil, run_cons, stp_plain, stp_guard, put_some, pass_eq, pick_tt, pick_ff, pick_tf, pick_ft, pick_u, reg_some, thn_normal, thn_exit, thn_ret, cnd_t, cnd_f, blk_normal, blk_ret, blk_exit, x_seq, x_region, x_cond, x_block, x_loop, x_ret, x_exit, x_skip, e_mov, e_pick, pk_t, pk_f, withH_some, e_box, e_load, e_store, stH_some, e_nil, e_bin, e_eqv, eqH_f, eqH_t, e_un, e_fa, e_ia, ia_eq, nat_eq, natV_nat, e_len, lnH_some, e_extract, ex_0, ex_1, e_call0, e_call1, e_call2, e_call3, pc0_eq, pc1_some, pc2_some, pc3_some, fin_some, g_var0, g_vars, g_loc0, g_locs, g_int, g_bool, g_str, g_sl, s_none, s_zero, s_succ, cl_nil, cl_str, cl_bool, cl_slc, cl_own, evFa, evNil, asEl, evBin, intBin, strBin, evUn, len_nil, len_slc, len_str, clr, List.length_nil, List.length_cons, List.getElem?_cons_zero, List.getElem?_cons_succ, Nat.reduceAdd, Nat.zero_add, Nat.add_zero, Nat.reduceLeDiff, Nat.reduceSub, ↓reduceIte, List.drop_succ_cons, List.drop_zero, List.take_succ_cons, List.take_zero, Bool.false_eq_true, List.nil_append, List.cons_append, Bool.not_true, Bool.not_false, cond_true, cond_false, bne, lv_ret, lv_normal, res1, res2, lv2_some, res_var, res_cell, lvf_v, lvf_slc, res1c, lvo1_some, e_mm, mm_max, mm_min, cl_agg, cl_int, g_agg, e_callv1, cv1_fn, e_slice2, e_clrrow, e_callf2, pick_und, cells_agg, Option.map_some, Option.map_none]
          exact v_leave0 h0 h3 hT rfl _ (by first | exact .inr rfl | exact .inl rfl)
    · rcases hk5 with rfl | rfl | rfl | rfl | rfl
      · cases hz : (IntKind.i64.wrap (p - 1) == 0) <;> cases hd
        ·
          rw [show doesT ⟨S, Q, p, o, u, false, ov⟩ 1 0 i = ⟨S, (i.b :: Q), (IntKind.i64.wrap (p - 1)), o, u, false, ov⟩ from by simp [doesT, headOff]]
          refine ⟨R, (upd (.int .i64 i.b) (.v (.bool true)) N), hR, hN.add _, callW_own (c := c18) rfl rfl 0 ?_⟩
          rw [v_app, v_len]
          simp only [c18, start, List.replicate, c18_0, c18_1, c18_2, c18_3, c18_4, c18_5, c18_6, c18_7, c18_8, c18_9, c18_10, c18_11, c18_12, c18_13, c18_14, c18_15, c18_16, c18_17, c18_18, c18_19, c18_20, cl, v_bx, v_ld4, v_ld5, v_ld6, v_ld8, v_ld9, v_l0, v_l1, v_l2, v_l4, v_st6, v_st7, v_st8, v_st9, v_st10, v_clr, v_up1, v_up2, ap, x_region_ap, apR_t, e_clrmap, e_mapupd, pick_und, Int.reduceBEq, run_nil, run_cons, stp_plain, stp_guard, put_some, pass_eq, pick_tt, pick_ff, pick_tf, pick_ft, pick_u, reg_some, thn_normal, thn_exit, thn_ret, cnd_t, cnd_f, blk_normal, blk_ret, blk_exit, x_seq, x_region, x_cond, x_block, x_loop, x_ret, x_exit, x_skip, e_mov, e_pick, pk_t, pk_f, withH_some, e_box, e_load, e_store, stH_some, e_nil, e_bin, e_eqv, eqH_f, eqH_t, e_un, e_fa, e_ia, ia_eq, nat_eq, natV_nat, e_len, lnH_some, e_extract, ex_0, ex_1, e_call0, e_call1, e_call2, e_call3, pc0_eq, pc1_some, pc2_some, pc3_some, fin_some, g_var0, g_vars, g_loc0, g_locs, g_int, g_bool, g_str, g_sl, s_none, s_zero, s_succ, cl_nil, cl_str, cl_bool, cl_slc, cl_own, evFa, evNil, asEl, evBin, intBin, strBin, evUn, len_nil, len_slc, len_str, clr, List.length_nil, List.length_cons, List.getElem?_cons_zero, List.getElem?_cons_succ, Nat.reduceAdd, Nat.zero_add, Nat.add_zero, Nat.reduceLeDiff, Nat.reduceSub, ↓reduceIte, List.drop_succ_cons, List.drop_zero, List.take_succ_cons, List.take_zero, Bool.false_eq_true, List.nil_append, List.cons_append, Bool.not_true, Bool.not_false, cond_true, cond_false, bne, lv_ret, lv_normal, res1, res2, lv2_some, res_var, res_cell, lvf_v, lvf_slc, res1c, lvo1_some, e_mm, mm_max, mm_min, cl_agg, cl_int, g_agg, e_callv1, cv1_fn, e_slice2, e_clrrow, e_callf2, pick_und, cells_agg, Option.map_some, Option.map_none, hz]
          exact v_leave0 h0 h3 hT rfl _ (by first | exact .inr rfl | exact .inl rfl)
        ·
          rw [show doesT ⟨S, Q, p, o, u, true, ov⟩ 1 0 i = ⟨S, (i.b :: Q), (IntKind.i64.wrap (p - 1)), o, u, true, ov⟩ from by simp [doesT, headOff]]
          refine ⟨R, (upd (.int .i64 i.b) (.v (.bool true)) N), hR, hN.add _, callW_own (c := c18) rfl rfl 0 ?_⟩
          rw [v_app, v_len]
          simp only [c18, start, List.replicate, c18_0, c18_1, c18_2, c18_3, c18_4, c18_5, c18_6, c18_7, c18_8, c18_9, c18_10, c18_11, c18_12, c18_13, c18_14, c18_15, c18_16, c18_17, c18_18, c18_19, c18_20, cl, v_bx, v_ld4, v_ld5, v_ld6, v_ld8, v_ld9, v_l0, v_l1, v_l2, v_l4, v_st6, v_st7, v_st8, v_st9, v_st10, v_clr, v_up1, v_up2, ap, x_region_ap, apR_t, e_clrmap, e_mapupd, pick_und, Int.reduceBEq, run_nil, run_cons, stp_plain, stp_guard, put_some, pass_eq, pick_tt, pick_ff, pick_tf, pick_ft, pick_u, reg_some, thn_normal, thn_exit, thn_ret, cnd_t, cnd_f, blk_normal, blk_ret, blk_exit, x_seq, x_region, x_cond, x_block, x_loop, x_ret, x_exit, x_skip, e_mov, e_pick, pk_t, pk_f, withH_some, e_box, e_load, e_store, stH_some, e_nil, e_bin, e_eqv, eqH_f, eqH_t, e_un, e_fa, e_ia, ia_eq, nat_eq, natV_nat, e_len, lnH_some, e_extract, ex_0, ex_1, e_call0, e_call1, e_call2, e_call3, pc0_eq, pc1_some, pc2_some, pc3_some, fin_some, g_var0, g_vars, g_loc0, g_locs, g_int, g_bool, g_str, g_sl, s_none, s_zero, s_succ, cl_nil, cl_str, cl_bool, cl_slc, cl_own, evFa, evNil, asEl, evBin, intBin, strBin, evUn, len_nil, len_slc, len_str, clr, List.length_nil, List.length_cons, List.getElem?_cons_zero, List.getElem?_cons_succ, Nat.reduceAdd, Nat.zero_add, Nat.add_zero, Nat.reduceLeDiff, Nat.reduceSub, ↓reduceIte, List.drop_succ_cons, List.drop_zero, List.take_succ_cons, List.take_zero, Bool.false_eq_true, List.nil_append, List.cons_append, Bool.not_true, Bool.not_false, cond_true, cond_false, bne, lv_ret, lv_normal, res1, res2, lv2_some, res_var, res_cell, lvf_v, lvf_slc, res1c, lvo1_some, e_mm, mm_max, mm_min, cl_agg, cl_int, g_agg, e_callv1, cv1_fn, e_slice2, e_clrrow, e_callf2, pick_und, cells_agg, Option.map_some, Option.map_none, hz]
          exact v_leave0 h0 h3 hT rfl _ (by first | exact .inr rfl | exact .inl rfl)
        ·
          rw [show doesT ⟨S, Q, p, o, u, false, ov⟩ 1 0 i = ⟨S, (i.b :: Q), (IntKind.i64.wrap (p - 1)), o, u, false, ov⟩ from by simp [doesT, headOff]]
          refine ⟨R, (upd (.int .i64 i.b) (.v (.bool true)) N), hR, hN.add _, callW_own (c := c18) rfl rfl 0 ?_⟩
          rw [v_app, v_len]
          simp only [c18, start, List.replicate, c18_0, c18_1, c18_2, c18_3, c18_4, c18_5, c18_6, c18_7, c18_8, c18_9, c18_10, c18_11, c18_12, c18_13, c18_14, c18_15, c18_16, c18_17, c18_18, c18_19, c18_20, cl, v_bx, v_ld4, v_ld5, v_ld6, v_ld8, v_ld9, v_l0, v_l1, v_l2, v_l4, v_st6, v_st7, v_st8, v_st9, v_st10, v_clr, v_up1, v_up2, ap, x_region_ap, apR_t, e_clrmap, e_mapupd, pick_und, Int.reduceBEq, run_nil, run_cons, stp_plain, stp_guard, put_some, pass_eq, pick_tt, pick_ff, pick_tf, pick_ft, pick_u, reg_some, thn_normal, thn_exit, thn_ret, cnd_t, cnd_f, blk_normal, blk_ret, blk_exit, x_seq, x_region, x_cond, x_block, x_loop, x_ret, x_exit, x_skip, e_mov, e_pick, pk_t, pk_f, withH_some, e_box, e_load, e_store, stH_some, e_nil, e_bin, e_eqv, eqH_f, eqH_t, e_un, e_fa, e_ia, ia_eq, nat_eq, natV_nat, e_len, lnH_some, e_extract, ex_0, ex_1, e_call0, e_call1, e_call2, e_call3, pc0_eq, pc1_some, pc2_some, pc3_some, fin_some, g_var0, g_vars, g_loc0, g_locs, g_int, g_bool, g_str, g_sl, s_none, s_zero, s_succ, cl_nil, cl_str, cl_bool, cl_slc, cl_own, evFa, evNil, asEl, evBin, intBin, strBin, evUn, len_nil, len_slc, len_str, clr, List.length_nil, List.length_cons, List.getElem?_cons_zero, List.getElem?_cons_succ, Nat.reduceAdd, Nat.zero_add, Nat.add_zero, Nat.reduceLeDiff, Nat.reduceSub, ↓reduceIte, List.drop_succ_cons, List.drop_zero, List.take_succ_cons, List.take_zero, Bool.false_eq_true, List.nil_append, List.cons_append, Bool.not_true, Bool.not_false, cond_true, cond_false, bne, lv_ret, lv_normal, res1, res2, lv2_some, res_var, res_cell, lvf_v, lvf_slc, res1c, lvo1_some, e_mm, mm_max, mm_min, cl_agg, cl_int, g_agg, e_callv1, cv1_fn, e_slice2, e_clrrow, e_callf2, pick_und, cells_agg, Option.map_some, Option.map_none, hz]
          exact v_leave0 h0 h3 hT rfl _ (by first | exact .inr rfl | exact .inl rfl)
        ·
          rw [show doesT ⟨S, Q, p, o, u, true, ov⟩ 1 0 i = ⟨S, (i.b :: Q), (IntKind.i64.wrap (p - 1)), o, u, true, ov⟩ from by simp [doesT, headOff]]
          refine ⟨R, (upd (.int .i64 i.b) (.v (.bool true)) N), hR, hN.add _, callW_own (c := c18) rfl rfl 0 ?_⟩
          rw [v_app, v_len]
          simp only [c18, start, List.replicate, c18_0, c18_1, c18_2, c18_3, c18_4, c18_5, c18_6, c18_7, c18_8, c18_9, c18_10, c18_11, c18_12, c18_13, c18_14, c18_15, c18_16, c18_17, c18_18, c18_19, c18_20, cl, v_bx, v_ld4, v_ld5, v_ld6, v_ld8, v_ld9, v_l0, v_l1, v_l2, v_l4, v_st6, v_st7, v_st8, v_st9, v_st10, v_clr, v_up1, v_up2, ap, x_region_ap, apR_t, e_clrmap, e_mapupd, pick_und, Int.reduceBEq, run_nil, run_cons, stp_plain, stp_guard, put_some, pass_eq, pick_tt, pick_ff, pick_tf, pick_ft, pick_u, reg_some, thn_normal, thn_exit, thn_ret, cnd_t, cnd_f, blk_normal, blk_ret, blk_exit, x_seq, x_region, x_cond, x_block, x_loop, x_ret, x_exit, x_skip, e_mov, e_pick, pk_t, pk_f, withH_some, e_box, e_load, e_store, stH_some, e_nil, e_bin, e_eqv, eqH_f, eqH_t, e_un, e_fa, e_ia, ia_eq, nat_eq, natV_nat, e_len, lnH_some, e_extract, ex_0, ex_1, e_call0, e_call1, e_call2, e_call3, pc0_eq, pc1_some, pc2_some, pc3_some, fin_some, g_var0, g_vars, g_loc0, g_locs, g_int, g_bool, g_str, g_sl, s_none, s_zero, s_succ, cl_nil, cl_str, cl_bool, cl_slc, cl_own, evFa, evNil, asEl, evBin, intBin, strBin, evUn, len_nil, len_slc, len_str, clr, List.length_nil, List.length_cons, List.getElem?_cons_zero, List.getElem?_cons_succ, Nat.reduceAdd, Nat.zero_add, Nat.add_zero, Nat.reduceLeDiff, Nat.reduceSub, ↓reduceIte, List.drop_succ_cons, List.drop_zero, List.take_succ_cons, List.take_zero, Bool.false_eq_true, List.nil_append, List.cons_append, Bool.not_true, Bool.not_false, cond_true, cond_false, bne, lv_ret, lv_normal, res1, res2, lv2_some, res_var, res_cell, lvf_v, lvf_slc, res1c, lvo1_some, e_mm, mm_max, mm_min, cl_agg, cl_int, g_agg, e_callv1, cv1_fn, e_slice2, e_clrrow, e_callf2, pick_und, cells_agg, Option.map_some, Option.map_none, hz]
          exact v_leave0 h0 h3 hT rfl _ (by first | exact .inr rfl | exact .inl rfl)
      · cases hz : (IntKind.i64.wrap (p - 1) == 0) <;> cases hd
        ·
          rw [show doesT ⟨S, Q, p, o, u, false, ov⟩ 1 1 i = ⟨S, Q, (IntKind.i64.wrap (p - 1)), o, u, false, ov⟩ from by simp [doesT, headOff]]
          refine ⟨R, N, hR, hN, callW_own (c := c18) rfl rfl 0 ?_⟩
          rw [v_app, v_len]
          simp only [c18, start, List.replicate, c18_0, c18_1, c18_2, c18_3, c18_4, c18_5, c18_6, c18_7, c18_8, c18_9, c18_10, c18_11, c18_12, c18_13, c18_14, c18_15, c18_16, c18_17, c18_18, c18_19, c18_20, cl, v_bx, v_ld4, v_ld5, v_ld6, v_ld8, v_ld9, v_l0, v_l1, v_l2, v_l4, v_st6, v_st7, v_st8, v_st9, v_st10, v_clr, v_up1, v_up2, ap, x_region_ap, apR_t, e_clrmap, e_mapupd, pick_und, Int.reduceBEq, run_nil, run_cons, stp_plain, stp_guard, put_some, pass_eq, pick_tt, pick_ff, pick_tf, pick_ft, pick_u, reg_some, thn_normal, thn_exit, thn_ret, cnd_t, cnd_f, blk_normal, blk_ret, blk_exit, x_seq, x_region, x_cond, x_block, x_loop, x_ret, x_exit, x_skip, e_mov, e_pick, pk_t, pk_f, withH_some, e_box, e_load, e_store, stH_some, e_nil, e_bin, e_eqv, eqH_f, eqH_t, e_un, e_fa, e_ia, ia_eq, nat_eq, natV_nat, e_len, lnH_some, e_extract, ex_0, ex_1, e_call0, e_call1, e_call2, e_call3, pc0_eq, pc1_some, pc2_some, pc3_some, fin_some, g_var0, g_vars, g_loc0, g_locs, g_int, g_bool, g_str, g_sl, s_none, s_zero, s_succ, cl_nil, cl_str, cl_bool, cl_slc, cl_own, evFa, evNil, asEl, evBin, intBin, strBin, evUn, len_nil, len_slc, len_str, clr, List.length_nil, List.length_cons, List.getElem?_cons_zero, List.getElem?_cons_succ, Nat.reduceAdd, Nat.zero_add, Nat.add_zero, Nat.reduceLeDiff, Nat.reduceSub, ↓reduceIte, List.drop_succ_cons, List.drop_zero, List.take_succ_cons, List.take_zero, Bool.false_eq_true, List.nil_append, List.cons_append, Bool.not_true, Bool.not_false, cond_true, cond_false, bne, lv_ret, lv_normal, res1, res2, lv2_some, res_var, res_cell, lvf_v, lvf_slc, res1c, lvo1_some, e_mm, mm_max, mm_min, cl_agg, cl_int, g_agg, e_callv1, cv1_fn, e_slice2, e_clrrow, e_callf2, pick_und, cells_agg, Option.map_some, Option.map_none, hz]
          exact v_leave0 h0 h3 hT rfl _ (by first | exact .inr rfl | exact .inl rfl)
        ·
          rw [show doesT ⟨S, Q, p, o, u, true, ov⟩ 1 1 i = ⟨S, Q, (IntKind.i64.wrap (p - 1)), o, u, true, ov⟩ from by simp [doesT, headOff]]
          refine ⟨R, N, hR, hN, callW_own (c := c18) rfl rfl 0 ?_⟩
          rw [v_app, v_len]
          simp only [c18, start, List.replicate, c18_0, c18_1, c18_2, c18_3, c18_4, c18_5, c18_6, c18_7, c18_8, c18_9, c18_10, c18_11, c18_12, c18_13, c18_14, c18_15, c18_16, c18_17, c18_18, c18_19, c18_20, cl, v_bx, v_ld4, v_ld5, v_ld6, v_ld8, v_ld9, v_l0, v_l1, v_l2, v_l4, v_st6, v_st7, v_st8, v_st9, v_st10, v_clr, v_up1, v_up2, ap, x_region_ap, apR_t, e_clrmap, e_mapupd, pick_und, Int.reduceBEq, run_nil, run_cons, stp_plain, stp_guard, put_some, pass_eq, pick_tt, pick_ff, pick_tf, pick_ft, pick_u, reg_some, thn_normal, thn_exit, thn_ret, cnd_t, cnd_f, blk_normal, blk_ret, blk_exit, x_seq, x_region, x_cond, x_block, x_loop, x_ret, x_exit, x_skip, e_mov, e_pick, pk_t, pk_f, withH_some, e_box, e_load, e_store, stH_some, e_nil, e_bin, e_eqv, eqH_f, eqH_t, e_un, e_fa, e_ia, ia_eq, nat_eq, natV_nat, e_len, lnH_some, e_extract, ex_0, ex_1, e_call0, e_call1, e_call2, e_call3, pc0_eq, pc1_some, pc2_some, pc3_some, fin_some, g_var0, g_vars, g_loc0, g_locs, g_int, g_bool, g_str, g_sl, s_none, s_zero, s_succ, cl_nil, cl_str, cl_bool, cl_slc, cl_own, evFa, evNil, asEl, evBin, intBin, strBin, evUn, len_nil, len_slc, len_str, clr, List.length_nil, List.length_cons, List.getElem?_cons_zero, List.getElem?_cons_succ, Nat.reduceAdd, Nat.zero_add, Nat.add_zero, Nat.reduceLeDiff, Nat.reduceSub, ↓reduceIte, List.drop_succ_cons, List.drop_zero, List.take_succ_cons, List.take_zero, Bool.false_eq_true, List.nil_append, List.cons_append, Bool.not_true, Bool.not_false, cond_true, cond_false, bne, lv_ret, lv_normal, res1, res2, lv2_some, res_var, res_cell, lvf_v, lvf_slc, res1c, lvo1_some, e_mm, mm_max, mm_min, cl_agg, cl_int, g_agg, e_callv1, cv1_fn, e_slice2, e_clrrow, e_callf2, pick_und, cells_agg, Option.map_some, Option.map_none, hz]
          exact v_leave0 h0 h3 hT rfl _ (by first | exact .inr rfl | exact .inl rfl)
        ·
          rw [show doesT ⟨S, Q, p, o, u, false, ov⟩ 1 1 i = ⟨S, Q, (IntKind.i64.wrap (p - 1)), o, u, false, ov⟩ from by simp [doesT, headOff]]
          refine ⟨R, N, hR, hN, callW_own (c := c18) rfl rfl 0 ?_⟩
          rw [v_app, v_len]
          simp only [c18, start, List.replicate, c18_0, c18_1, c18_2, c18_3, c18_4, c18_5, c18_6, c18_7, c18_8, c18_9, c18_10, c18_11, c18_12, c18_13, c18_14, c18_15, c18_16, c18_17, c18_18, c18_19, c18_20, cl, v_bx, v_ld4, v_ld5, v_ld6, v_ld8, v_ld9, v_l0, v_l1, v_l2, v_l4, v_st6, v_st7, v_st8, v_st9, v_st10, v_clr, v_up1, v_up2, ap, x_region_ap, apR_t, e_clrmap, e_mapupd, pick_und, Int.reduceBEq, run_nil, run_cons, stp_plain, stp_guard, put_some, pass_eq, pick_tt, pick_ff, pick_tf, pick_ft, pick_u, reg_some, thn_normal, thn_exit, thn_ret, cnd_t, cnd_f, blk_normal, blk_ret, blk_exit, x_seq, x_region, x_cond, x_block, x_loop, x_ret, x_exit, x_skip, e_mov, e_pick, pk_t, pk_f, withH_some, e_box, e_load, e_store, stH_some, e_nil, e_bin, e_eqv, eqH_f, eqH_t, e_un, e_fa, e_ia, ia_eq, nat_eq, natV_nat, e_len, lnH_some, e_extract, ex_0, ex_1, e_call0, e_call1, e_call2, e_call3, pc0_eq, pc1_some, pc2_some, pc3_some, fin_some, g_var0, g_vars, g_loc0, g_locs, g_int, g_bool, g_str, g_sl, s_none, s_zero, s_succ, cl_nil, cl_str, cl_bool, cl_slc, cl_own, evFa, evNil, asEl, evBin, intBin, strBin, evUn, len_nil, len_slc, len_str, clr, List.length_nil, List.length_cons, List.getElem?_cons_zero, List.getElem?_cons_succ, Nat.reduceAdd, Nat.zero_add, Nat.add_zero, Nat.reduceLeDiff, Nat.reduceSub, ↓reduceIte, List.drop_succ_cons, List.drop_zero, List.take_succ_cons, List.take_zero, Bool.false_eq_true, List.nil_append, List.cons_append, Bool.not_true, Bool.not_false, cond_true, cond_false, bne, lv_ret, lv_normal, res1, res2, lv2_some, res_var, res_cell, lvf_v, lvf_slc, res1c, lvo1_some, e_mm, mm_max, mm_min, cl_agg, cl_int, g_agg, e_callv1, cv1_fn, e_slice2, e_clrrow, e_callf2, pick_und, cells_agg, Option.map_some, Option.map_none, hz]
          exact v_leave0 h0 h3 hT rfl _ (by first | exact .inr rfl | exact .inl rfl)
        ·
          rw [show doesT ⟨S, Q, p, o, u, true, ov⟩ 1 1 i = ⟨S, Q, (IntKind.i64.wrap (p - 1)), o, u, true, ov⟩ from by simp [doesT, headOff]]
          refine ⟨R, N, hR, hN, callW_own (c := c18) rfl rfl 0 ?_⟩
          rw [v_app, v_len]
          simp only [c18, start, List.replicate, c18_0, c18_1, c18_2, c18_3, c18_4, c18_5, c18_6, c18_7, c18_8, c18_9, c18_10, c18_11, c18_12, c18_13, c18_14, c18_15, c18_16, c18_17, c18_18, c18_19, c18_20, cl, v_bx, v_ld4, v_ld5, v_ld6, v_ld8, v_ld9, v_l0, v_l1, v_l2, v_l4, v_st6, v_st7, v_st8, v_st9, v_st10, v_clr, v_up1, v_up2, ap, x_region_ap, apR_t, e_clrmap, e_mapupd, pick_und, Int.reduceBEq, run_nil, run_cons, stp_plain, stp_guard, put_some, pass_eq, pick_tt, pick_ff, pick_tf, pick_ft, pick_u, reg_some, thn_normal, thn_exit, thn_ret, cnd_t, cnd_f, blk_normal, blk_ret, blk_exit, x_seq, x_region, x_cond, x_block, x_loop, x_ret, x_exit, x_skip, e_mov, e_pick, pk_t, pk_f, withH_some, e_box, e_load, e_store, stH_some, e_nil, e_bin, e_eqv, eqH_f, eqH_t, e_un, e_fa, e_ia, ia_eq, nat_eq, natV_nat, e_len, lnH_some, e_extract, ex_0, ex_1, e_call0, e_call1, e_call2, e_call3, pc0_eq, pc1_some, pc2_some, pc3_some, fin_some, g_var0, g_vars, g_loc0, g_locs, g_int, g_bool, g_str, g_sl, s_none, s_zero, s_succ, cl_nil, cl_str, cl_bool, cl_slc, cl_own, evFa, evNil, asEl, evBin, intBin, strBin, evUn, len_nil, len_slc, len_str, clr, List.length_nil, List.length_cons, List.getElem?_cons_zero, List.getElem?_cons_succ, Nat.reduceAdd, Nat.zero_add, Nat.add_zero, Nat.reduceLeDiff, Nat.reduceSub, ↓reduceIte, List.drop_succ_cons, List.drop_zero, List.take_succ_cons, List.take_zero, Bool.false_eq_true, List.nil_append, List.cons_append, Bool.not_true, Bool.not_false, cond_true, cond_false, bne, lv_ret, lv_normal, res1, res2, lv2_some, res_var, res_cell, lvf_v, lvf_slc, res1c, lvo1_some, e_mm, mm_max, mm_min, cl_agg, cl_int, g_agg, e_callv1, cv1_fn, e_slice2, e_clrrow, e_callf2, pick_und, cells_agg, Option.map_some, Option.map_none, hz]
          exact v_leave0 h0 h3 hT rfl _ (by first | exact .inr rfl | exact .inl rfl)
      · cases hz : (IntKind.i64.wrap (p - 1) == 0) <;> cases hd
        ·
          rw [show doesT ⟨S, Q, p, o, u, false, ov⟩ 1 2 i = ⟨S, Q, (IntKind.i64.wrap (p - 1)), o, u, false, ov⟩ from by simp [doesT, headOff]]
          refine ⟨R, N, hR, hN, callW_own (c := c18) rfl rfl 0 ?_⟩
          rw [v_app, v_len]
          simp only [c18, start, List.replicate, c18_0, c18_1, c18_2, c18_3, c18_4, c18_5, c18_6, c18_7, c18_8, c18_9, c18_10, c18_11, c18_12, c18_13, c18_14, c18_15, c18_16, c18_17, c18_18, c18_19, c18_20, cl, v_bx, v_ld4, v_ld5, v_ld6, v_ld8, v_ld9, v_l0, v_l1, v_l2, v_l4, v_st6, v_st7, v_st8, v_st9, v_st10, v_clr, v_up1, v_up2, ap, x_region_ap, apR_t, e_clrmap, e_mapupd, pick_und, Int.reduceBEq, run_nil, run_cons, stp_plain, stp_guard, put_some, pass_eq, pick_tt, pick_ff, pick_tf, pick_ft, pick_u, reg_some, thn_normal, thn_exit, thn_ret, cnd_t, cnd_f, blk_normal, blk_ret, blk_exit, x_seq, x_region, x_cond, x_block, x_loop, x_ret, x_exit, x_skip, e_mov, e_pick, pk_t, pk_f, withH_some, e_box, e_load, e_store, stH_some, e_nil, e_bin, e_eqv, eqH_f, eqH_t, e_un, e_fa, e_ia, ia_eq, nat_eq, natV_nat, e_len, lnH_some, e_extract, ex_0, ex_1, e_call0, e_call1, e_call2, e_call3, pc0_eq, pc1_some, pc2_some, pc3_some, fin_some, g_var0, g_vars, g_loc0, g_locs, g_int, g_bool, g_str, g_sl, s_none, s_zero, s_succ, cl_nil, cl_str, cl_bool, cl_slc, cl_own, evFa, evNil, asEl, evBin, intBin, strBin, evUn, len_nil, len_slc, len_str, clr, List.length_nil, List.length_cons, List.getElem?_cons_zero, List.getElem?_cons_succ, Nat.reduceAdd, Nat.zero_add, Nat.add_zero, Nat.reduceLeDiff, Nat.reduceSub, ↓reduceIte, List.drop_succ_cons, List.drop_zero, List.take_succ_cons, List.take_zero, Bool.false_eq_true, List.nil_append, List.cons_append, Bool.not_true, Bool.not_false, cond_true, cond_false, bne, lv_ret, lv_normal, res1, res2, lv2_some, res_var, res_cell, lvf_v, lvf_slc, res1c, lvo1_some, e_mm, mm_max, mm_min, cl_agg, cl_int, g_agg, e_callv1, cv1_fn, e_slice2, e_clrrow, e_callf2, pick_und, cells_agg, Option.map_some, Option.map_none, hz]
          exact v_leave0 h0 h3 hT rfl _ (by first | exact .inr rfl | exact .inl rfl)
        ·
          rw [show doesT ⟨S, Q, p, o, u, true, ov⟩ 1 2 i = ⟨S, Q, (IntKind.i64.wrap (p - 1)), o, u, true, ov⟩ from by simp [doesT, headOff]]
          refine ⟨R, N, hR, hN, callW_own (c := c18) rfl rfl 0 ?_⟩
          rw [v_app, v_len]
          simp only [c18, start, List.replicate, c18_0, c18_1, c18_2, c18_3, c18_4, c18_5, c18_6, c18_7, c18_8, c18_9, c18_10, c18_11, c18_12, c18_13, c18_14, c18_15, c18_16, c18_17, c18_18, c18_19, c18_20, cl, v_bx, v_ld4, v_ld5, v_ld6, v_ld8, v_ld9, v_l0, v_l1, v_l2, v_l4, v_st6, v_st7, v_st8, v_st9, v_st10, v_clr, v_up1, v_up2, ap, x_region_ap, apR_t, e_clrmap, e_mapupd, pick_und, Int.reduceBEq, run_nil, run_cons, stp_plain, stp_guard, put_some, pass_eq, pick_tt, pick_ff, pick_tf, pick_ft, pick_u, reg_some, thn_normal, thn_exit, thn_ret, cnd_t, cnd_f, blk_normal, blk_ret, blk_exit, x_seq, x_region, x_cond, x_block, x_loop, x_ret, x_exit, x_skip, e_mov, e_pick, pk_t, pk_f, withH_some, e_box, e_load, e_store, stH_some, e_nil, e_bin, e_eqv, eqH_f, eqH_t, e_un, e_fa, e_ia, ia_eq, nat_eq, natV_nat, e_len, lnH_some, e_extract, ex_0, ex_1, e_call0, e_call1, e_call2, e_call3, pc0_eq, pc1_some, pc2_some, pc3_some, fin_some, g_var0, g_vars, g_loc0, g_locs, g_int, g_bool, g_str, g_sl, s_none, s_zero, s_succ, cl_nil, cl_str, cl_bool, cl_slc, cl_own, evFa, evNil, asEl, evBin, intBin, strBin, evUn, len_nil, len_slc, len_str, clr, List.length_nil, List.length_cons, List.getElem?_cons_zero, List.getElem?_cons_succ, Nat.reduceAdd, Nat.zero_add, Nat.add_zero, Nat.reduceLeDiff, Nat.reduceSub, ↓reduceIte, List.drop_succ_cons, List.drop_zero, List.take_succ_cons, List.take_zero, Bool.false_eq_true, List.nil_append, List.cons_append, Bool.not_true, Bool.not_false, cond_true, cond_false, bne, lv_ret, lv_normal, res1, res2, lv2_some, res_var, res_cell, lvf_v, lvf_slc, res1c, lvo1_some, e_mm, mm_max, mm_min, cl_agg, cl_int, g_agg, e_callv1, cv1_fn, e_slice2, e_clrrow, e_callf2, pick_und, cells_agg, Option.map_some, Option.map_none, hz]
          exact v_leave0 h0 h3 hT rfl _ (by first | exact .inr rfl | exact .inl rfl)
        ·
          rw [show doesT ⟨S, Q, p, o, u, false, ov⟩ 1 2 i = ⟨S, Q, (IntKind.i64.wrap (p - 1)), o, u, false, ov⟩ from by simp [doesT, headOff]]
          refine ⟨R, N, hR, hN, callW_own (c := c18) rfl rfl 0 ?_⟩
          rw [v_app, v_len]
          simp only [c18, start, List.replicate, c18_0, c18_1, c18_2, c18_3, c18_4, c18_5, c18_6, c18_7, c18_8, c18_9, c18_10, c18_11, c18_12, c18_13, c18_14, c18_15, c18_16, c18_17, c18_18, c18_19, c18_20, cl, v_bx, v_ld4, v_ld5, v_ld6, v_ld8, v_ld9, v_l0, v_l1, v_l2, v_l4, v_st6, v_st7, v_st8, v_st9, v_st10, v_clr, v_up1, v_up2, ap, x_region_ap, apR_t, e_clrmap, e_mapupd, pick_und, Int.reduceBEq, run_nil, run_cons, stp_plain, stp_guard, put_some, pass_eq, pick_tt, pick_ff, pick_tf, pick_ft, pick_u, reg_some, thn_normal, thn_exit, thn_ret, cnd_t, cnd_f, blk_normal, blk_ret, blk_exit, x_seq, x_region, x_cond, x_block, x_loop, x_ret, x_exit, x_skip, e_mov, e_pick, pk_t, pk_f, withH_some, e_box, e_load, e_store, stH_some, e_nil, e_bin, e_eqv, eqH_f, eqH_t, e_un, e_fa, e_ia, ia_eq, nat_eq, natV_nat, e_len, lnH_some, e_extract, ex_0, ex_1, e_call0, e_call1, e_call2, e_call3, pc0_eq, pc1_some, pc2_some, pc3_some, fin_some, g_var0, g_vars, g_loc0, g_locs, g_int, g_bool, g_str, g_sl, s_none, s_zero, s_succ, cl_nil, cl_str, cl_bool, cl_slc, cl_own, evFa, evNil, asEl, evBin, intBin, strBin, evUn, len_nil, len_slc, len_str, clr, List.length_nil, List.length_cons, List.getElem?_cons_zero, List.getElem?_cons_succ, Nat.reduceAdd, Nat.zero_add, Nat.add_zero, Nat.reduceLeDiff, Nat.reduceSub, ↓reduceIte, List.drop_succ_cons, List.drop_zero, List.take_succ_cons, List.take_zero, Bool.false_eq_true, List.nil_append, List.cons_append, Bool.not_true, Bool.not_false, cond_true, cond_false, bne, lv_ret, lv_normal, res1, res2, lv2_some, res_var, res_cell, lvf_v, lvf_slc, res1c, lvo1_some, e_mm, mm_max, mm_min, cl_agg, cl_int, g_agg, e_callv1, cv1_fn, e_slice2, e_clrrow, e_callf2, pick_und, cells_agg, Option.map_some, Option.map_none, hz]
          exact v_leave0 h0 h3 hT rfl _ (by first | exact .inr rfl | exact .inl rfl)
        ·
          rw [show doesT ⟨S, Q, p, o, u, true, ov⟩ 1 2 i = ⟨S, Q, (IntKind.i64.wrap (p - 1)), o, u, true, ov⟩ from by simp [doesT, headOff]]
          refine ⟨R, N, hR, hN, callW_own (c := c18) rfl rfl 0 ?_⟩
          rw [v_app, v_len]
          simp only [c18, start, List.replicate, c18_0, c18_1, c18_2, c18_3, c18_4, c18_5, c18_6, c18_7, c18_8, c18_9, c18_10, c18_11, c18_12, c18_13, c18_14, c18_15, c18_16, c18_17, c18_18, c18_19, c18_20, cl, v_bx, v_ld4, v_ld5, v_ld6, v_ld8, v_ld9, v_l0, v_l1, v_l2, v_l4, v_st6, v_st7, v_st8, v_st9, v_st10, v_clr, v_up1, v_up2, ap, x_region_ap, apR_t, e_clrmap, e_mapupd, pick_und, Int.reduceBEq, run_nil, run_cons, stp_plain, stp_guard, put_some, pass_eq, pick_tt, pick_ff, pick_tf, pick_ft, pick_u, reg_some, thn_normal, thn_exit, thn_ret, cnd_t, cnd_f, blk_normal, blk_ret, blk_exit, x_seq, x_region, x_cond, x_block, x_loop, x_ret, x_exit, x_skip, e_mov, e_pick, pk_t, pk_f, withH_some, e_box, e_load, e_store, stH_some, e_nil, e_bin, e_eqv, eqH_f, eqH_t, e_un, e_fa, e_ia, ia_eq, nat_eq, natV_nat, e_len, lnH_some, e_extract, ex_0, ex_1, e_call0, e_call1, e_call2, e_call3, pc0_eq, pc1_some, pc2_some, pc3_some, fin_some, g_var0, g_vars, g_loc0, g_locs, g_int, g_bool, g_str, g_sl, s_none, s_zero, s_succ, cl_nil, cl_str, cl_bool, cl_slc, cl_own, evFa, evNil, asEl, evBin, intBin, strBin, evUn, len_nil, len_slc, len_str, clr, List.length_nil, List.length_cons, List.getElem?_cons_zero, List.getElem?_cons_succ, Nat.reduceAdd, Nat.zero_add, Nat.add_zero, Nat.reduceLeDiff, Nat.reduceSub, ↓reduceIte, List.drop_succ_cons, List.drop_zero, List.take_succ_cons, List.take_zero, Bool.false_eq_true, List.nil_append, List.cons_append, Bool.not_true, Bool.not_false, cond_true, cond_false, bne, lv_ret, lv_normal, res1, res2, lv2_some, res_var, res_cell, lvf_v, lvf_slc, res1c, lvo1_some, e_mm, mm_max, mm_min, cl_agg, cl_int, g_agg, e_callv1, cv1_fn, e_slice2, e_clrrow, e_callf2, pick_und, cells_agg, Option.map_some, Option.map_none, hz]
          exact v_leave0 h0 h3 hT rfl _ (by first | exact .inr rfl | exact .inl rfl)
      · cases hz : (IntKind.i64.wrap (p - 1) == 0) <;> cases hd
        ·
          rw [show doesT ⟨S, Q, p, o, u, false, ov⟩ 1 3 i = ⟨S, Q, (IntKind.i64.wrap (p - 1)), o, u, false, ov⟩ from by simp [doesT, headOff]]
          refine ⟨R, N, hR, hN, callW_own (c := c18) rfl rfl 0 ?_⟩
          rw [v_app, v_len]
          simp only [c18, start, List.replicate, c18_0, c18_1, c18_2, c18_3, c18_4, c18_5, c18_6, c18_7, c18_8, c18_9, c18_10, c18_11, c18_12, c18_13, c18_14, c18_15, c18_16, c18_17, c18_18, c18_19, c18_20, cl, v_bx, v_ld4, v_ld5, v_ld6, v_ld8, v_ld9, v_l0, v_l1, v_l2, v_l4, v_st6, v_st7, v_st8, v_st9, v_st10, v_clr, v_up1, v_up2, ap, x_region_ap, apR_t, e_clrmap, e_mapupd, pick_und, Int.reduceBEq, run_nil, run_cons, stp_plain, stp_guard, put_some, pass_eq, pick_tt, pick_ff, pick_tf, pick_ft, pick_u, reg_some, thn_normal, thn_exit, thn_ret, cnd_t, cnd_f, blk_normal, blk_ret, blk_exit, x_seq, x_region, x_cond, x_block, x_loop, x_ret, x_exit, x_skip, e_mov, e_pick, pk_t, pk_f, withH_some, e_box, e_load, e_store, stH_some, e_nil, e_bin, e_eqv, eqH_f, eqH_t, e_un, e_fa, e_ia, ia_eq, nat_eq, natV_nat, e_len, lnH_some, e_extract, ex_0, ex_1, e_call0, e_call1, e_call2, e_call3, pc0_eq, pc1_some, pc2_some, pc3_some, fin_some, g_var0, g_vars, g_loc0, g_locs, g_int, g_bool, g_str, g_sl, s_none, s_zero, s_succ, cl_nil, cl_str, cl_bool, cl_slc, cl_own, evFa, evNil, asEl, evBin, intBin, strBin, evUn, len_nil, len_slc, len_str, clr, List.length_nil, List.length_cons, List.getElem?_cons_zero, List.getElem?_cons_succ, Nat.reduceAdd, Nat.zero_add, Nat.add_zero, Nat.reduceLeDiff, Nat.reduceSub, ↓reduceIte, List.drop_succ_cons, List.drop_zero, List.take_succ_cons, List.take_zero, Bool.false_eq_true, List.nil_append, List.cons_append, Bool.not_true, Bool.not_false, cond_true, cond_false, bne, lv_ret, lv_normal, res1, res2, lv2_some, res_var, res_cell, lvf_v, lvf_slc, res1c, lvo1_some, e_mm, mm_max, mm_min, cl_agg, cl_int, g_agg, e_callv1, cv1_fn, e_slice2, e_clrrow, e_callf2, pick_und, cells_agg, Option.map_some, Option.map_none, hz]
          exact v_leave0 h0 h3 hT rfl _ (by first | exact .inr rfl | exact .inl rfl)
        ·
          rw [show doesT ⟨S, Q, p, o, u, true, ov⟩ 1 3 i = ⟨S, Q, (IntKind.i64.wrap (p - 1)), o, u, true, ov⟩ from by simp [doesT, headOff]]
          refine ⟨R, N, hR, hN, callW_own (c := c18) rfl rfl 0 ?_⟩
          rw [v_app, v_len]
          simp only [c18, start, List.replicate, c18_0, c18_1, c18_2, c18_3, c18_4, c18_5, c18_6, c18_7, c18_8, c18_9, c18_10, c18_11, c18_12, c18_13, c18_14, c18_15, c18_16, c18_17, c18_18, c18_19, c18_20, cl, v_bx, v_ld4, v_ld5, v_ld6, v_ld8, v_ld9, v_l0, v_l1, v_l2, v_l4, v_st6, v_st7, v_st8, v_st9, v_st10, v_clr, v_up1, v_up2, ap, x_region_ap, apR_t, e_clrmap, e_mapupd, pick_und, Int.reduceBEq, run_nil, run_cons, stp_plain, stp_guard, put_some, pass_eq, pick_tt, pick_ff, pick_tf, pick_ft, pick_u, reg_some, thn_normal, thn_exit, thn_ret, cnd_t, cnd_f, blk_normal, blk_ret, blk_exit, x_seq, x_region, x_cond, x_block, x_loop, x_ret, x_exit, x_skip, e_mov, e_pick, pk_t, pk_f, withH_some, e_box, e_load, e_store, stH_some, e_nil, e_bin, e_eqv, eqH_f, eqH_t, e_un, e_fa, e_ia, ia_eq, nat_eq, natV_nat, e_len, lnH_some, e_extract, ex_0, ex_1, e_call0, e_call1, e_call2, e_call3, pc0_eq, pc1_some, pc2_some, pc3_some, fin_some, g_var0, g_vars, g_loc0, g_locs, g_int, g_bool, g_str, g_sl, s_none, s_zero, s_succ, cl_nil, cl_str, cl_bool, cl_slc, cl_own, evFa, evNil, asEl, evBin, intBin, strBin, evUn, len_nil, len_slc, len_str, clr, List.length_nil, List.length_cons, List.getElem?_cons_zero, List.getElem?_cons_succ, Nat.reduceAdd, Nat.zero_add, Nat.add_zero, Nat.reduceLeDiff, Nat.reduceSub, ↓reduceIte, List.drop_succ_cons, List.drop_zero, List.take_succ_cons, List.take_zero, Bool.false_eq_true, List.nil_append, List.cons_append, Bool.not_true, Bool.not_false, cond_true, cond_false, bne, lv_ret, lv_normal, res1, res2, lv2_some, res_var, res_cell, lvf_v, lvf_slc, res1c, lvo1_some, e_mm, mm_max, mm_min, cl_agg, cl_int, g_agg, e_callv1, cv1_fn, e_slice2, e_clrrow, e_callf2, pick_und, cells_agg, Option.map_some, Option.map_none, hz]
          exact v_leave0 h0 h3 hT rfl _ (by first | exact .inr rfl | exact .inl rfl)
        ·
          rw [show doesT ⟨S, Q, p, o, u, false, ov⟩ 1 3 i = ⟨S, Q, (IntKind.i64.wrap (p - 1)), o, u, false, ov⟩ from by simp [doesT, headOff]]
          refine ⟨R, N, hR, hN, callW_own (c := c18) rfl rfl 0 ?_⟩
          rw [v_app, v_len]
          simp only [c18, start, List.replicate, c18_0, c18_1, c18_2, c18_3, c18_4, c18_5, c18_6, c18_7, c18_8, c18_9, c18_10, c18_11, c18_12, c18_13, c18_14, c18_15, c18_16, c18_17, c18_18, c18_19, c18_20, cl, v_bx, v_ld4, v_ld5, v_ld6, v_ld8, v_ld9, v_l0, v_l1, v_l2, v_l4, v_st6, v_st7, v_st8, v_st9, v_st10, v_clr, v_up1, v_up2, ap, x_region_ap, apR_t, e_clrmap, e_mapupd, pick_und, Int.reduceBEq, run_nil, run_cons, stp_plain, stp_guard, put_some, pass_eq, pick_tt, pick_ff, pick_tf, pick_ft, pick_u, reg_some, thn_normal, thn_exit, thn_ret, cnd_t, cnd_f, blk_normal, blk_ret, blk_exit, x_seq, x_region, x_cond, x_block, x_loop, x_ret, x_exit, x_skip, e_mov, e_pick, pk_t, pk_f, withH_some, e_box, e_load, e_store, stH_some, e_nil, e_bin, e_eqv, eqH_f, eqH_t, e_un, e_fa, e_ia, ia_eq, nat_eq, natV_nat, e_len, lnH_some, e_extract, ex_0, ex_1, e_call0, e_call1, e_call2, e_call3, pc0_eq, pc1_some, pc2_some, pc3_some, fin_some, g_var0, g_vars, g_loc0, g_locs, g_int, g_bool, g_str, g_sl, s_none, s_zero, s_succ, cl_nil, cl_str, cl_bool, cl_slc, cl_own, evFa, evNil, asEl, evBin, intBin, strBin, evUn, len_nil, len_slc, len_str, clr, List.length_nil, List.length_cons, List.getElem?_cons_zero, List.getElem?_cons_succ, Nat.reduceAdd, Nat.zero_add, Nat.add_zero, Nat.reduceLeDiff, Nat.reduceSub, ↓reduceIte, List.drop_succ_cons, List.drop_zero, List.take_succ_cons, List.take_zero, Bool.false_eq_true, List.nil_append, List.cons_append, Bool.not_true, Bool.not_false, cond_true, cond_false, bne, lv_ret, lv_normal, res1, res2, lv2_some, res_var, res_cell, lvf_v, lvf_slc, res1c, lvo1_some, e_mm, mm_max, mm_min, cl_agg, cl_int, g_agg, e_callv1, cv1_fn, e_slice2, e_clrrow, e_callf2, pick_und, cells_agg, Option.map_some, Option.map_none, hz]
          exact v_leave0 h0 h3 hT rfl _ (by first | exact .inr rfl | exact .inl rfl)
        ·
          rw [show doesT ⟨S, Q, p, o, u, true, ov⟩ 1 3 i = ⟨S, Q, (IntKind.i64.wrap (p - 1)), o, u, true, ov⟩ from by simp [doesT, headOff]]
          refine ⟨R, N, hR, hN, callW_own (c := c18) rfl rfl 0 ?_⟩
          rw [v_app, v_len]
          simp only [c18, start, List.replicate, c18_0, c18_1, c18_2, c18_3, c18_4, c18_5, c18_6, c18_7, c18_8, c18_9, c18_10, c18_11, c18_12, c18_13, c18_14, c18_15, c18_16, c18_17, c18_18, c18_19, c18_20, cl, v_bx, v_ld4, v_ld5, v_ld6, v_ld8, v_ld9, v_l0, v_l1, v_l2, v_l4, v_st6, v_st7, v_st8, v_st9, v_st10, v_clr, v_up1, v_up2, ap, x_region_ap, apR_t, e_clrmap, e_mapupd, pick_und, Int.reduceBEq, run_nil, run_cons, stp_plain, stp_guard, put_some, pass_eq, pick_tt, pick_ff, pick_tf, pick_ft, pick_u, reg_some, thn_normal, thn_exit, thn_ret, cnd_t, cnd_f, blk_normal, blk_ret, blk_exit, x_seq, x_region, x_cond, x_block, x_loop, x_ret, x_exit, x_skip, e_mov, e_pick, pk_t, pk_f, withH_some, e_box, e_load, e_store, stH_some, e_nil, e_bin, e_eqv, eqH_f, eqH_t, e_un, e_fa, e_ia, ia_eq, nat_eq, natV_nat, e_len, lnH_some, e_extract, ex_0, ex_1, e_call0, e_call1, e_call2, e_call3, pc0_eq, pc1_some, pc2_some, pc3_some, fin_some, g_var0, g_vars, g_loc0, g_locs, g_int, g_bool, g_str, g_sl, s_none, s_zero, s_succ, cl_nil, cl_str, cl_bool, cl_slc, cl_own, evFa, evNil, asEl, evBin, intBin, strBin, evUn, len_nil, len_slc, len_str, clr, List.length_nil, List.length_cons, List.getElem?_cons_zero, List.getElem?_cons_succ, Nat.reduceAdd, Nat.zero_add, Nat.add_zero, Nat.reduceLeDiff, Nat.reduceSub, ↓reduceIte, List.drop_succ_cons, List.drop_zero, List.take_succ_cons, List.take_zero, Bool.false_eq_true, List.nil_append, List.cons_append, Bool.not_true, Bool.not_false, cond_true, cond_false, bne, lv_ret, lv_normal, res1, res2, lv2_some, res_var, res_cell, lvf_v, lvf_slc, res1c, lvo1_some, e_mm, mm_max, mm_min, cl_agg, cl_int, g_agg, e_callv1, cv1_fn, e_slice2, e_clrrow, e_callf2, pick_und, cells_agg, Option.map_some, Option.map_none, hz]
          exact v_leave0 h0 h3 hT rfl _ (by first | exact .inr rfl | exact .inl rfl)
      · cases hz : (IntKind.i64.wrap (p - 1) == 0) <;> cases hd
        ·
          rw [show doesT ⟨S, Q, p, o, u, false, ov⟩ 1 4 i = ⟨(i.b :: S), Q, (IntKind.i64.wrap (p - 1)), o, u, false, ov⟩ from by simp [doesT, headOff]]
          refine ⟨(upd (.int .i64 i.b) (.v (.bool true)) R), N, hR.add _, hN, callW_own (c := c18) rfl rfl 0 ?_⟩
          rw [v_app, v_len]
          simp only [c18, start, List.replicate, c18_0, c18_1, c18_2, c18_3, c18_4, c18_5, c18_6, c18_7, c18_8, c18_9, c18_10, c18_11, c18_12, c18_13, c18_14, c18_15, c18_16, c18_17, c18_18, c18_19, c18_20, cl, v_bx, v_ld4, v_ld5, v_ld6, v_ld8, v_ld9, v_l0, v_l1, v_l2, v_l4, v_st6, v_st7, v_st8, v_st9, v_st10, v_clr, v_up1, v_up2, ap, x_region_ap, apR_t, e_clrmap, e_mapupd, pick_und, Int.reduceBEq, run_nil, run_cons, stp_plain, stp_guard, put_some, pass_eq, pick_tt, pick_ff, pick_tf, pick_ft, pick_u, reg_some, thn_normal, thn_exit, thn_ret, cnd_t, cnd_f, blk_normal, blk_ret, blk_exit, x_seq, x_region, x_cond, x_block, x_loop, x_ret, x_exit, x_skip, e_mov, e_pick, pk_t, pk_f, withH_some, e_box, e_load, e_store, stH_some, e_nil, e_bin, e_eqv, eqH_f, eqH_t, e_un, e_fa, e_ia, ia_eq, nat_eq, natV_nat, e_len, lnH_some, e_extract, ex_0, ex_1, e_call0, e_call1, e_call2, e_call3, pc0_eq, pc1_some, pc2_some, pc3_some, fin_some, g_var0, g_vars, g_loc0, g_locs, g_int, g_bool, g_str, g_sl, s_none, s_zero, s_succ, cl_nil, cl_str, cl_bool, cl_slc, cl_own, evFa, evNil, asEl, evBin, intBin, strBin, evUn, len_nil, len_slc, len_str, clr, List.length_nil, List.length_cons, List.getElem?_cons_zero, List.getElem?_cons_succ, Nat.reduceAdd, Nat.zero_add, Nat.add_zero, Nat.reduceLeDiff, Nat.reduceSub, ↓reduceIte, List.drop_succ_cons, List.drop_zero, List.take_succ_cons, List.take_zero, Bool.false_eq_true, List.nil_append, List.cons_append, Bool.not_true, Bool.not_false, cond_true, cond_false, bne, lv_ret, lv_normal, res1, res2, lv2_some, res_var, res_cell, lvf_v, lvf_slc, res1c, lvo1_some, e_mm, mm_max, mm_min, cl_agg, cl_int, g_agg, e_callv1, cv1_fn, e_slice2, e_clrrow, e_callf2, pick_und, cells_agg, Option.map_some, Option.map_none, hz]
          exact v_leave0 h0 h3 hT rfl _ (by first | exact .inr rfl | exact .inl rfl)
        ·
          rw [show doesT ⟨S, Q, p, o, u, true, ov⟩ 1 4 i = ⟨(i.b :: S), Q, (IntKind.i64.wrap (p - 1)), o, u, true, ov⟩ from by simp [doesT, headOff]]
          refine ⟨(upd (.int .i64 i.b) (.v (.bool true)) R), N, hR.add _, hN, callW_own (c := c18) rfl rfl 0 ?_⟩
          rw [v_app, v_len]
          simp only [c18, start, List.replicate, c18_0, c18_1, c18_2, c18_3, c18_4, c18_5, c18_6, c18_7, c18_8, c18_9, c18_10, c18_11, c18_12, c18_13, c18_14, c18_15, c18_16, c18_17, c18_18, c18_19, c18_20, cl, v_bx, v_ld4, v_ld5, v_ld6, v_ld8, v_ld9, v_l0, v_l1, v_l2, v_l4, v_st6, v_st7, v_st8, v_st9, v_st10, v_clr, v_up1, v_up2, ap, x_region_ap, apR_t, e_clrmap, e_mapupd, pick_und, Int.reduceBEq, run_nil, run_cons, stp_plain, stp_guard, put_some, pass_eq, pick_tt, pick_ff, pick_tf, pick_ft, pick_u, reg_some, thn_normal, thn_exit, thn_ret, cnd_t, cnd_f, blk_normal, blk_ret, blk_exit, x_seq, x_region, x_cond, x_block, x_loop, x_ret, x_exit, x_skip, e_mov, e_pick, pk_t, pk_f, withH_some, e_box, e_load, e_store, stH_some, e_nil, e_bin, e_eqv, eqH_f, eqH_t, e_un, e_fa, e_ia, ia_eq, nat_eq, natV_nat, e_len, lnH_some, e_extract, ex_0, ex_1, e_call0, e_call1, e_call2, e_call3, pc0_eq, pc1_some, pc2_some, pc3_some, fin_some, g_var0, g_vars, g_loc0, g_locs, g_int, g_bool, g_str, g_sl, s_none, s_zero, s_succ, cl_nil, cl_str, cl_bool, cl_slc, cl_own, evFa, evNil, asEl, evBin, intBin, strBin, evUn, len_nil, len_slc, len_str, clr, List.length_nil, List.length_cons, List.getElem?_cons_zero, List.getElem?_cons_succ, Nat.reduceAdd, Nat.zero_add, Nat.add_zero, Nat.reduceLeDiff, Nat.reduceSub, ↓reduceIte, List.drop_succ_cons, List.drop_zero, List.take_succ_cons, List.take_zero, Bool.false_eq_true, List.nil_append, List.cons_append, Bool.not_true, Bool.not_false, cond_true, cond_false, bne, lv_ret, lv_normal, res1, res2, lv2_some, res_var, res_cell, lvf_v, lvf_slc, res1c, lvo1_some, e_mm, mm_max, mm_min, cl_agg, cl_int, g_agg, e_callv1, cv1_fn, e_slice2, e_clrrow, e_callf2, pick_und, cells_agg, Option.map_some, Option.map_none, hz]
          exact v_leave0 h0 h3 hT rfl _ (by first | exact .inr rfl | exact .inl rfl)
        ·
          rw [show doesT ⟨S, Q, p, o, u, false, ov⟩ 1 4 i = ⟨(i.b :: S), Q, (IntKind.i64.wrap (p - 1)), o, u, false, ov⟩ from by simp [doesT, headOff]]
          refine ⟨(upd (.int .i64 i.b) (.v (.bool true)) R), N, hR.add _, hN, callW_own (c := c18) rfl rfl 0 ?_⟩
          rw [v_app, v_len]
          simp only [c18, start, List.replicate, c18_0, c18_1, c18_2, c18_3, c18_4, c18_5, c18_6, c18_7, c18_8, c18_9, c18_10, c18_11, c18_12, c18_13, c18_14, c18_15, c18_16, c18_17, c18_18, c18_19, c18_20, cl, v_bx, v_ld4, v_ld5, v_ld6, v_ld8, v_ld9, v_l0, v_l1, v_l2, v_l4, v_st6, v_st7, v_st8, v_st9, v_st10, v_clr, v_up1, v_up2, ap, x_region_ap, apR_t, e_clrmap, e_mapupd, pick_und, Int.reduceBEq, run_nil, run_cons, stp_plain, stp_guard, put_some, pass_eq, pick_tt, pick_ff, pick_tf, pick_ft, pick_u, reg_some, thn_normal, thn_exit, thn_ret, cnd_t, cnd_f, blk_normal, blk_ret, blk_exit, x_seq, x_region, x_cond, x_block, x_loop, x_ret, x_exit, x_skip, e_mov, e_pick, pk_t, pk_f, withH_some, e_box, e_load, e_store, stH_some, e_nil, e_bin, e_eqv, eqH_f, eqH_t, e_un, e_fa, e_ia, ia_eq, nat_eq, natV_nat, e_len, lnH_some, e_extract, ex_0, ex_1, e_call0, e_call1, e_call2, e_call3, pc0_eq, pc1_some, pc2_some, pc3_some, fin_some, g_var0, g_vars, g_loc0, g_locs, g_int, g_bool, g_str, g_sl, s_none, s_zero, s_succ, cl_nil, cl_str, cl_bool, cl_slc, cl_own, evFa, evNil, asEl, evBin, intBin, strBin, evUn, len_nil, len_slc, len_str, clr, List.length_nil, List.length_cons, List.getElem?_cons_zero, List.getElem?_cons_succ, Nat.reduceAdd, Nat.zero_add, Nat.add_zero, Nat.reduceLeDiff, Nat.reduceSub, ↓reduceIte, List.drop_succ_cons, List.drop_zero, List.take_succ_cons, List.take_zero, Bool.false_eq_true, List.nil_append, List.cons_append, Bool.not_true, Bool.not_false, cond_true, cond_false, bne, lv_ret, lv_normal, res1, res2, lv2_some, res_var, res_cell, lvf_v, lvf_slc, res1c, lvo1_some, e_mm, mm_max, mm_min, cl_agg, cl_int, g_agg, e_callv1, cv1_fn, e_slice2, e_clrrow, e_callf2, pick_und, cells_agg, Option.map_some, Option.map_none, hz]
          exact v_leave0 h0 h3 hT rfl _ (by first | exact .inr rfl | exact .inl rfl)
        ·
          rw [show doesT ⟨S, Q, p, o, u, true, ov⟩ 1 4 i = ⟨(i.b :: S), Q, (IntKind.i64.wrap (p - 1)), o, u, true, ov⟩ from by simp [doesT, headOff]]
          refine ⟨(upd (.int .i64 i.b) (.v (.bool true)) R), N, hR.add _, hN, callW_own (c := c18) rfl rfl 0 ?_⟩
          rw [v_app, v_len]
          simp only [c18, start, List.replicate, c18_0, c18_1, c18_2, c18_3, c18_4, c18_5, c18_6, c18_7, c18_8, c18_9, c18_10, c18_11, c18_12, c18_13, c18_14, c18_15, c18_16, c18_17, c18_18, c18_19, c18_20, cl, v_bx, v_ld4, v_ld5, v_ld6, v_ld8, v_ld9, v_l0, v_l1, v_l2, v_l4, v_st6, v_st7, v_st8, v_st9, v_st10, v_clr, v_up1, v_up2, ap, x_region_ap, apR_t, e_clrmap, e_mapupd, pick_und, Int.reduceBEq, run_nil, run_cons, stp_plain, stp_guard, put_some, pass_eq, pick_tt, pick_ff, pick_tf, pick_ft, pick_u, reg_some, thn_normal, thn_exit, thn_ret, cnd_t, cnd_f, blk_normal, blk_ret, blk_exit, x_seq, x_region, x_cond, x_block, x_loop, x_ret, x_exit, x_skip, e_mov, e_pick, pk_t, pk_f, withH_some, e_box, e_load, e_store, stH_some, e_nil, e_bin, e_eqv, eqH_f, eqH_t, e_un, e_fa, e_ia, ia_eq, nat_eq, natV_nat, e_len, lnH_some, e_extract, ex_0, ex_1, e_call0, e_call1, e_call2, e_call3, pc0_eq, pc1_some, pc2_some, pc3_some, fin_some, g_var0, g_vars, g_loc0, g_locs, g_int, g_bool, g_str, g_sl, s_none, s_zero, s_succ, cl_nil, cl_str, cl_bool, cl_slc, cl_own, evFa, evNil, asEl, evBin, intBin, strBin, evUn, len_nil, len_slc, len_str, clr, List.length_nil, List.length_cons, List.getElem?_cons_zero, List.getElem?_cons_succ, Nat.reduceAdd, Nat.zero_add, Nat.add_zero, Nat.reduceLeDiff, Nat.reduceSub, ↓reduceIte, List.drop_succ_cons, List.drop_zero, List.take_succ_cons, List.take_zero, Bool.false_eq_true, List.nil_append, List.cons_append, Bool.not_true, Bool.not_false, cond_true, cond_false, bne, lv_ret, lv_normal, res1, res2, lv2_some, res_var, res_cell, lvf_v, lvf_slc, res1c, lvo1_some, e_mm, mm_max, mm_min, cl_agg, cl_int, g_agg, e_callv1, cv1_fn, e_slice2, e_clrrow, e_callf2, pick_und, cells_agg, Option.map_some, Option.map_none, hz]
          exact v_leave0 h0 h3 hT rfl _ (by first | exact .inr rfl | exact .inl rfl)
    · rcases hk5 with rfl | rfl | rfl | rfl | rfl
      · cases hd with
        | false =>
          rw [show doesT ⟨S, Q, p, o, u, false, ov⟩ 2 0 i = ⟨(i.a :: S), (i.b :: Q), p, o, u, false, ov⟩ from by simp [doesT, headOff]]
          refine ⟨(upd (.int .i64 i.a) (.v (.bool true))  R), (upd (.int .i64 i.b) (.v (.bool true)) N), hR.add _, hN.add _, callW_own (c := c18) rfl rfl 0 ?_⟩
          rw [v_app, v_len]
          simp only [c18, start, List.replicate, c18_0, c18_1, c18_2, c18_3, c18_4, c18_5, c18_6, c18_7, c18_8, c18_9, c18_10, c18_11, c18_12, c18_13, c18_14, c18_15, c18_16, c18_17, c18_18, c18_19, c18_20, cl, v_bx, v_ld4, v_ld5, v_ld6, v_ld8, v_ld9, v_l0, v_l1, v_l2, v_l4, v_st6, v_st7, v_st8, v_st9, v_st10, v_clr, v_up1, v_up2, ap, x_region_ap, apR_t, e_clrmap, e_mapupd, pick_und, Int.reduceBEq, run_nil, run_cons, stp_plain, stp_guard, put_some, pass_eq, pick_tt, pick_ff, pick_tf, pick_ft, pick_u, reg_some, thn_normal, thn_exit, thn_ret, cnd_t, cnd_f, blk_normal, blk_ret, blk_exit, x_seq, x_region, x_cond, x_block, x_loop, x_ret, x_exit, x_skip, e_mov, e_pick, pk_t, pk_f, withH_some, e_box, e_load, e_store, stH_some, e_nil, e_bin, e_eqv, eqH_f, eqH_t, e_un, e_fa, e_ia, ia_eq, nat_eq, natV_nat, e_len, lnH_some, e_extract, ex_0, ex_1, e_call0, e_call1, e_call2, e_call3, pc0_eq, pc1_some, pc2_some, pc3_some, fin_some, g_var0, g_vars, g_loc0, g_locs, g_int, g_bool, g_str, g_sl, s_none, s_zero, s_succ, cl_nil, cl_str, cl_bool, cl_slc, cl_own, evFa, evNil, asEl, evBin, intBin, strBin, evUn, len_nil, len_slc, len_str, clr, List.length_nil, List.length_cons, List.getElem?_cons_zero, List.getElem?_cons_succ, Nat.reduceAdd, Nat.zero_add, Nat.add_zero, Nat.reduceLeDiff, Nat.reduceSub, ↓reduceIte, List.drop_succ_cons, List.drop_zero, List.take_succ_cons, List.take_zero, Bool.false_eq_true, List.nil_append, List.cons_append, Bool.not_true, Bool.not_false, cond_true, cond_false, bne, lv_ret, lv_normal, res1, res2, lv2_some, res_var, res_cell, lvf_v, lvf_slc, res1c, lvo1_some, e_mm, mm_max, mm_min, cl_agg, cl_int, g_agg, e_callv1, cv1_fn, e_slice2, e_clrrow, e_callf2, pick_und, cells_agg, Option.map_some, Option.map_none]
          exact v_leave0 h0 h3 hT rfl _ (by first | exact .inr rfl | exact .inl rfl)
        | true =>
          rw [show doesT ⟨S, Q, p, o, u, true, ov⟩ 2 0 i = ⟨(i.a :: []), (i.b :: Q), p, o, u, false, ov⟩ from by simp [doesT, headOff]]
          refine ⟨(upd (.int .i64 i.a) (.v (.bool true))  []), (upd (.int .i64 i.b) (.v (.bool true)) N), (Seen.nil _).add _, hN.add _, callW_own (c := c18) rfl rfl 0 ?_⟩
          rw [v_app, v_len]
          simp only [c18, start, List.replicate, c18_0, c18_1, c18_2, c18_3, c18_4, c18_5, c18_6, c18_7, c18_8, c18_9, c18_10, c18_11, c18_12, c18_13, c18_14, c18_15, c18_16, c18_17, c18_18, c18_19, c18_20, cl, v_bx, v_ld4, v_ld5, v_ld6, v_ld8, v_ld9, v_l0, v_l1, v_l2, v_l4, v_st6, v_st7, v_st8, v_st9, v_st10, v_clr, v_up1, v_up2, ap, x_region_ap, apR_t, e_clrmap, e_mapupd, pick_und, Int.reduceBEq, run_nil, run_cons, stp_plain, stp_guard, put_some, pass_eq, pick_tt, pick_ff, pick_tf, pick_ft, pick_u, reg_some, thn_normal, thn_exit, thn_ret, cnd_t, cnd_f, blk_normal, blk_ret, blk_exit, x_seq, x_region, x_cond, x_block, x_loop, x_ret, x_exit, x_skip, e_mov, e_pick, pk_t, pk_f, withH_some, e_box, e_load, e_store, stH_some, e_nil, e_bin, e_eqv, eqH_f, eqH_t, e_un, e_fa, e_ia, ia_eq, nat_eq, natV_nat, e_len, lnH_some, e_extract, ex_0, ex_1, e_call0, e_call1, e_call2, e_call3, pc0_eq, pc1_some, pc2_some, pc3_some, fin_some, g_var0, g_vars, g_loc0, g_locs, g_int, g_bool, g_str, g_sl, s_none, s_zero, s_succ, cl_nil, cl_str, cl_bool, cl_slc, cl_own, evFa, evNil, asEl, evBin, intBin, strBin, evUn, len_nil, len_slc, len_str, clr, List.length_nil, List.length_cons, List.getElem?_cons_zero, List.getElem?_cons_succ, Nat.reduceAdd, Nat.zero_add, Nat.add_zero, Nat.reduceLeDiff, Nat.reduceSub, ↓reduceIte, List.drop_succ_cons, List.drop_zero, List.take_succ_cons, List.take_zero, Bool.false_eq_true, List.nil_append, List.cons_append, Bool.not_true, Bool.not_false, cond_true, cond_false, bne, lv_ret, lv_normal, res1, res2, lv2_some, res_var, res_cell, lvf_v, lvf_slc, res1c, lvo1_some, e_mm, mm_max, mm_min, cl_agg, cl_int, g_agg, e_callv1, cv1_fn, e_slice2, e_clrrow, e_callf2, pick_und, cells_agg, Option.map_some, Option.map_none]
          exact v_leave0 h0 h3 hT rfl _ (by first | exact .inr rfl | exact .inl rfl)
      · cases hd with
        | false =>
          rw [show doesT ⟨S, Q, p, o, u, false, ov⟩ 2 1 i = ⟨(i.a :: S), Q, p, o, u, false, ov⟩ from by simp [doesT, headOff]]
          refine ⟨(upd (.int .i64 i.a) (.v (.bool true))  R), N, hR.add _, hN, callW_own (c := c18) rfl rfl 0 ?_⟩
          rw [v_app, v_len]
          simp only [c18, start, List.replicate, c18_0, c18_1, c18_2, c18_3, c18_4, c18_5, c18_6, c18_7, c18_8, c18_9, c18_10, c18_11, c18_12, c18_13, c18_14, c18_15, c18_16, c18_17, c18_18, c18_19, c18_20, cl, v_bx, v_ld4, v_ld5, v_ld6, v_ld8, v_ld9, v_l0, v_l1, v_l2, v_l4, v_st6, v_st7, v_st8, v_st9, v_st10, v_clr, v_up1, v_up2, ap, x_region_ap, apR_t, e_clrmap, e_mapupd, pick_und, Int.reduceBEq, run_nil, run_cons, stp_plain, stp_guard, put_some, pass_eq, pick_tt, pick_ff, pick_tf, pick_ft, pick_u, reg_some, thn_normal, thn_exit, thn_ret, cnd_t, cnd_f, blk_normal, blk_ret, blk_exit, x_seq, x_region, x_cond, x_block, x_loop, x_ret, x_exit, x_skip, e_mov, e_pick, pk_t, pk_f, withH_some, e_box, e_load, e_store, stH_some, e_nil, e_bin, e_eqv, eqH_f, eqH_t, e_un, e_fa, e_ia, ia_eq, nat_eq, natV_nat, e_len, lnH_some, e_extract, ex_0, ex_1, e_call0, e_call1, e_call2, e_call3, pc0_eq, pc1_some, pc2_some, pc3_some, fin_some, g_var0, g_vars, g_loc0, g_locs, g_int, g_bool, g_str, g_sl, s_none, s_zero, s_succ, cl_nil, cl_str, cl_bool, cl_slc, cl_own, evFa, evNil, asEl, evBin, intBin, strBin, evUn, len_nil, len_slc, len_str, clr, List.length_nil, List.length_cons, List.getElem?_cons_zero, List.getElem?_cons_succ, Nat.reduceAdd, Nat.zero_add, Nat.add_zero, Nat.reduceLeDiff, Nat.reduceSub, ↓reduceIte, List.drop_succ_cons, List.drop_zero, List.take_succ_cons, List.take_zero, Bool.false_eq_true, List.nil_append, List.cons_append, Bool.not_true, Bool.not_false, cond_true, cond_false, bne, lv_ret, lv_normal, res1, res2, lv2_some, res_var, res_cell, lvf_v, lvf_slc, res1c, lvo1_some, e_mm, mm_max, mm_min, cl_agg, cl_int, g_agg, e_callv1, cv1_fn, e_slice2, e_clrrow, e_callf2, pick_und, cells_agg, Option.map_some, Option.map_none]
          exact v_leave0 h0 h3 hT rfl _ (by first | exact .inr rfl | exact .inl rfl)
        | true =>
          rw [show doesT ⟨S, Q, p, o, u, true, ov⟩ 2 1 i = ⟨(i.a :: []), Q, p, o, u, false, ov⟩ from by simp [doesT, headOff]]
          refine ⟨(upd (.int .i64 i.a) (.v (.bool true))  []), N, (Seen.nil _).add _, hN, callW_own (c := c18) rfl rfl 0 ?_⟩
          rw [v_app, v_len]
          simp only [c18, start, List.replicate, c18_0, c18_1, c18_2, c18_3, c18_4, c18_5, c18_6, c18_7, c18_8, c18_9, c18_10, c18_11, c18_12, c18_13, c18_14, c18_15, c18_16, c18_17, c18_18, c18_19, c18_20, cl, v_bx, v_ld4, v_ld5, v_ld6, v_ld8, v_ld9, v_l0, v_l1, v_l2, v_l4, v_st6, v_st7, v_st8, v_st9, v_st10, v_clr, v_up1, v_up2, ap, x_region_ap, apR_t, e_clrmap, e_mapupd, pick_und, Int.reduceBEq, run_nil, run_cons, stp_plain, stp_guard, put_some, pass_eq, pick_tt, pick_ff, pick_tf, pick_ft, pick_u, reg_some, thn_normal, thn_exit, thn_ret, cnd_t, cnd_f, blk_normal, blk_ret, blk_exit, x_seq, x_region, x_cond, x_block, x_loop, x_ret, x_exit, x_skip, e_mov, e_pick, pk_t, pk_f, withH_some, e_box, e_load, e_store, stH_some, e_nil, e_bin, e_eqv, eqH_f, eqH_t, e_un, e_fa, e_ia, ia_eq, nat_eq, natV_nat, e_len, lnH_some, e_extract, ex_0, ex_1, e_call0, e_call1, e_call2, e_call3, pc0_eq, pc1_some, pc2_some, pc3_some, fin_some, g_var0, g_vars, g_loc0, g_locs, g_int, g_bool, g_str, g_sl, s_none, s_zero, s_succ, cl_nil, cl_str, cl_bool, cl_slc, cl_own, evFa, evNil, asEl, evBin, intBin, strBin, evUn, len_nil, len_slc, len_str, clr, List.length_nil, List.length_cons, List.getElem?_cons_zero, List.getElem?_cons_succ, Nat.reduceAdd, Nat.zero_add, Nat.add_zero, Nat.reduceLeDiff, Nat.reduceSub, ↓reduceIte, List.drop_succ_cons, List.drop_zero, List.take_succ_cons, List.take_zero, Bool.false_eq_true, List.nil_append, List.cons_append, Bool.not_true, Bool.not_false, cond_true, cond_false, bne, lv_ret, lv_normal, res1, res2, lv2_some, res_var, res_cell, lvf_v, lvf_slc, res1c, lvo1_some, e_mm, mm_max, mm_min, cl_agg, cl_int, g_agg, e_callv1, cv1_fn, e_slice2, e_clrrow, e_callf2, pick_und, cells_agg, Option.map_some, Option.map_none]
          exact v_leave0 h0 h3 hT rfl _ (by first | exact .inr rfl | exact .inl rfl)
      · cases hd with
        | false =>
          rw [show doesT ⟨S, Q, p, o, u, false, ov⟩ 2 2 i = ⟨(i.a :: S), Q, p, o, u, false, ov⟩ from by simp [doesT, headOff]]
          refine ⟨(upd (.int .i64 i.a) (.v (.bool true))  R), N, hR.add _, hN, callW_own (c := c18) rfl rfl 0 ?_⟩
          rw [v_app, v_len]
          simp only [c18, start, List.replicate, c18_0, c18_1, c18_2, c18_3, c18_4, c18_5, c18_6, c18_7, c18_8, c18_9, c18_10, c18_11, c18_12, c18_13, c18_14, c18_15, c18_16, c18_17, c18_18, c18_19, c18_20, cl, v_bx, v_ld4, v_ld5, v_ld6, v_ld8, v_ld9, v_l0, v_l1, v_l2, v_l4, v_st6, v_st7, v_st8, v_st9, v_st10, v_clr, v_up1, v_up2, ap, x_region_ap, apR_t, e_clrmap, e_mapupd, pick_und, Int.reduceBEq, run_nil, run_cons, stp_plain, stp_guard, put_some, pass_eq, pick_tt, pick_ff, pick_tf, pick_ft, pick_u, reg_some, thn_normal, thn_exit, thn_ret, cnd_t, cnd_f, blk_normal, blk_ret, blk_exit, x_seq, x_region, x_cond, x_block, x_loop, x_ret, x_exit, x_skip, e_mov, e_pick, pk_t, pk_f, withH_some, e_box, e_load, e_store, stH_some, e_nil, e_bin, e_eqv, eqH_f, eqH_t, e_un, e_fa, e_ia, ia_eq, nat_eq, natV_nat, e_len, lnH_some, e_extract, ex_0, ex_1, e_call0, e_call1, e_call2, e_call3, pc0_eq, pc1_some, pc2_some, pc3_some, fin_some, g_var0, g_vars, g_loc0, g_locs, g_int, g_bool, g_str, g_sl, s_none, s_zero, s_succ, cl_nil, cl_str, cl_bool, cl_slc, cl_own, evFa, evNil, asEl, evBin, intBin, strBin, evUn, len_nil, len_slc, len_str, clr, List.length_nil, List.length_cons, List.getElem?_cons_zero, List.getElem?_cons_succ, Nat.reduceAdd, Nat.zero_add, Nat.add_zero, Nat.reduceLeDiff, Nat.reduceSub, ↓reduceIte, List.drop_succ_cons, List.drop_zero, List.take_succ_cons, List.take_zero, Bool.false_eq_true, List.nil_append, List.cons_append, Bool.not_true, Bool.not_false, cond_true, cond_false, bne, lv_ret, lv_normal, res1, res2, lv2_some, res_var, res_cell, lvf_v, lvf_slc, res1c, lvo1_some, e_mm, mm_max, mm_min, cl_agg, cl_int, g_agg, e_callv1, cv1_fn, e_slice2, e_clrrow, e_callf2, pick_und, cells_agg, Option.map_some, Option.map_none]
          exact v_leave0 h0 h3 hT rfl _ (by first | exact .inr rfl | exact .inl rfl)
        | true =>
          rw [show doesT ⟨S, Q, p, o, u, true, ov⟩ 2 2 i = ⟨(i.a :: []), Q, p, o, u, false, ov⟩ from by simp [doesT, headOff]]
          refine ⟨(upd (.int .i64 i.a) (.v (.bool true))  []), N, (Seen.nil _).add _, hN, callW_own (c := c18) rfl rfl 0 ?_⟩
          rw [v_app, v_len]
          simp only [c18, start, List.replicate, c18_0, c18_1, c18_2, c18_3, c18_4, c18_5, c18_6, c18_7, c18_8, c18_9, c18_10, c18_11, c18_12, c18_13, c18_14, c18_15, c18_16, c18_17, c18_18, c18_19, c18_20, cl, v_bx, v_ld4, v_ld5, v_ld6, v_ld8, v_ld9, v_l0, v_l1, v_l2, v_l4, v_st6, v_st7, v_st8, v_st9, v_st10, v_clr, v_up1, v_up2, ap, x_region_ap, apR_t, e_clrmap, e_mapupd, pick_und, Int.reduceBEq, run_nil, run_cons, stp_plain, stp_guard, put_some, pass_eq, pick_tt, pick_ff, pick_tf, pick_ft, pick_u, reg_some, thn_normal, thn_exit, thn_ret, cnd_t, cnd_f, blk_normal, blk_ret, blk_exit, x_seq, x_region, x_cond, x_block, x_loop, x_ret, x_exit, x_skip, e_mov, e_pick, pk_t, pk_f, withH_some, e_box, e_load, e_store, stH_some, e_nil, e_bin, e_eqv, eqH_f, eqH_t, e_un, e_fa, e_ia, ia_eq, nat_eq, natV_nat, e_len, lnH_some, e_extract, ex_0, ex_1, e_call0, e_call1, e_call2, e_call3, pc0_eq, pc1_some, pc2_some, pc3_some, fin_some, g_var0, g_vars, g_loc0, g_locs, g_int, g_bool, g_str, g_sl, s_none, s_zero, s_succ, cl_nil, cl_str, cl_bool, cl_slc, cl_own, evFa, evNil, asEl, evBin, intBin, strBin, evUn, len_nil, len_slc, len_str, clr, List.length_nil, List.length_cons, List.getElem?_cons_zero, List.getElem?_cons_succ, Nat.reduceAdd, Nat.zero_add, Nat.add_zero, Nat.reduceLeDiff, Nat.reduceSub, ↓reduceIte, List.drop_succ_cons, List.drop_zero, List.take_succ_cons, List.take_zero, Bool.false_eq_true, List.nil_append, List.cons_append, Bool.not_true, Bool.not_false, cond_true, cond_false, bne, lv_ret, lv_normal, res1, res2, lv2_some, res_var, res_cell, lvf_v, lvf_slc, res1c, lvo1_some, e_mm, mm_max, mm_min, cl_agg, cl_int, g_agg, e_callv1, cv1_fn, e_slice2, e_clrrow, e_callf2, pick_und, cells_agg, Option.map_some, Option.map_none]
          exact v_leave0 h0 h3 hT rfl _ (by first | exact .inr rfl | exact .inl rfl)
      · cases hd with
        | false =>
          rw [show doesT ⟨S, Q, p, o, u, false, ov⟩ 2 3 i = ⟨(i.a :: S), Q, p, o, u, false, ov⟩ from by simp [doesT, headOff]]
          refine ⟨(upd (.int .i64 i.a) (.v (.bool true))  R), N, hR.add _, hN, callW_own (c := c18) rfl rfl 0 ?_⟩
          rw [v_app, v_len]
          simp only [c18, start, List.replicate, c18_0, c18_1, c18_2, c18_3, c18_4, c18_5, c18_6, c18_7, c18_8, c18_9, c18_10, c18_11, c18_12, c18_13, c18_14, c18_15, c18_16, c18_17, c18_18, c18_19, c18_20, cl, v_bx, v_ld4, v_ld5, v_ld6, v_ld8, v_ld9, v_l0, v_l1, v_l2, v_l4, v_st6, v_st7, v_st8, v_st9, v_st10, v_clr, v_up1, v_up2, ap, x_region_ap, apR_t, e_clrmap, e_mapupd, pick_und, Int.reduceBEq, run_nil, run_cons, stp_plain, stp_guard, put_some, pass_eq, pick_tt, pick_ff, pick_tf, pick_ft, pick_u, reg_some, thn_normal, thn_exit, thn_ret, cnd_t, cnd_f, blk_normal, blk_ret, blk_exit, x_seq, x_region, x_cond, x_block, x_loop, x_ret, x_exit, x_skip, e_mov, e_pick, pk_t, pk_f, withH_some, e_box, e_load, e_store, stH_some, e_nil, e_bin, e_eqv, eqH_f, eqH_t, e_un, e_fa, e_ia, ia_eq, nat_eq, natV_nat, e_len, lnH_some, e_extract, ex_0, ex_1, e_call0, e_call1, e_call2, e_call3, pc0_eq, pc1_some, pc2_some, pc3_some, fin_some, g_var0, g_vars, g_loc0, g_locs, g_int, g_bool, g_str, g_sl, s_none, s_zero, s_succ, cl_nil, cl_str, cl_bool, cl_slc, cl_own, evFa, evNil, asEl, evBin, intBin, strBin, evUn, len_nil, len_slc, len_str, clr, List.length_nil, List.length_cons, List.getElem?_cons_zero, List.getElem?_cons_succ, Nat.reduceAdd, Nat.zero_add, Nat.add_zero, Nat.reduceLeDiff, Nat.reduceSub, ↓reduceIte, List.drop_succ_cons, List.drop_zero, List.take_succ_cons, List.take_zero, Bool.false_eq_true, List.nil_append, List.cons_append, Bool.not_true, Bool.not_false, cond_true, cond_false, bne, lv_ret, lv_normal, res1, res2, lv2_some, res_var, res_cell, lvf_v, lvf_slc, res1c, lvo1_some, e_mm, mm_max, mm_min, cl_agg, cl_int, g_agg, e_callv1, cv1_fn, e_slice2, e_clrrow, e_callf2, pick_und, cells_agg, Option.map_some, Option.map_none]
          exact v_leave0 h0 h3 hT rfl _ (by first | exact .inr rfl | exact .inl rfl)
        | true =>
          rw [show doesT ⟨S, Q, p, o, u, true, ov⟩ 2 3 i = ⟨(i.a :: []), Q, p, o, u, false, ov⟩ from by simp [doesT, headOff]]
          refine ⟨(upd (.int .i64 i.a) (.v (.bool true))  []), N, (Seen.nil _).add _, hN, callW_own (c := c18) rfl rfl 0 ?_⟩
          rw [v_app, v_len]
          simp only [c18, start, List.replicate, c18_0, c18_1, c18_2, c18_3, c18_4, c18_5, c18_6, c18_7, c18_8, c18_9, c18_10, c18_11, c18_12, c18_13, c18_14, c18_15, c18_16, c18_17, c18_18, c18_19, c18_20, cl, v_bx, v_ld4, v_ld5, v_ld6, v_ld8, v_ld9, v_l0, v_l1, v_l2, v_l4, v_st6, v_st7, v_st8, v_st9, v_st10, v_clr, v_up1, v_up2, ap, x_region_ap, apR_t, e_clrmap, e_mapupd, pick_und, Int.reduceBEq, run_nil, run_cons, stp_plain, stp_guard, put_some, pass_eq, pick_tt, pick_ff, pick_tf, pick_ft, pick_u, reg_some, thn_normal, thn_exit, thn_ret, cnd_t, cnd_f, blk_normal, blk_ret, blk_exit, x_seq, x_region, x_cond, x_block, x_loop, x_ret, x_exit, x_skip, e_mov, e_pick, pk_t, pk_f, withH_some, e_box, e_load, e_store, stH_some, e_nil, e_bin, e_eqv, eqH_f, eqH_t, e_un, e_fa, e_ia, ia_eq, nat_eq, natV_nat, e_len, lnH_some, e_extract, ex_0, ex_1, e_call0, e_call1, e_call2, e_call3, pc0_eq, pc1_some, pc2_some, pc3_some, fin_some, g_var0, g_vars, g_loc0, g_locs, g_int, g_bool, g_str, g_sl, s_none, s_zero, s_succ, cl_nil, cl_str, cl_bool, cl_slc, cl_own, evFa, evNil, asEl, evBin, intBin, strBin, evUn, len_nil, len_slc, len_str, clr, List.length_nil, List.length_cons, List.getElem?_cons_zero, List.getElem?_cons_succ, Nat.reduceAdd, Nat.zero_add, Nat.add_zero, Nat.reduceLeDiff, Nat.reduceSub, ↓reduceIte, List.drop_succ_cons, List.drop_zero, List.take_succ_cons, List.take_zero, Bool.false_eq_true, List.nil_append, List.cons_append, Bool.not_true, Bool.not_false, cond_true, cond_false, bne, lv_ret, lv_normal, res1, res2, lv2_some, res_var, res_cell, lvf_v, lvf_slc, res1c, lvo1_some, e_mm, mm_max, mm_min, cl_agg, cl_int, g_agg, e_callv1, cv1_fn, e_slice2, e_clrrow, e_callf2, pick_und, cells_agg, Option.map_some, Option.map_none]
          exact v_leave0 h0 h3 hT rfl _ (by first | exact .inr rfl | exact .inl rfl)
      · cases hd with
        | false =>
          rw [show doesT ⟨S, Q, p, o, u, false, ov⟩ 2 4 i = ⟨S, Q, i.n, 2, i.a, false, ov⟩ from by simp [doesT, headOff]]
          refine ⟨R, N, hR, hN, callW_own (c := c18) rfl rfl 0 ?_⟩
          rw [v_app, v_len]
          simp only [c18, start, List.replicate, c18_0, c18_1, c18_2, c18_3, c18_4, c18_5, c18_6, c18_7, c18_8, c18_9, c18_10, c18_11, c18_12, c18_13, c18_14, c18_15, c18_16, c18_17, c18_18, c18_19, c18_20, cl, v_bx, v_ld4, v_ld5, v_ld6, v_ld8, v_ld9, v_l0, v_l1, v_l2, v_l4, v_st6, v_st7, v_st8, v_st9, v_st10, v_clr, v_up1, v_up2, ap, x_region_ap, apR_t, e_clrmap, e_mapupd, pick_und, Int.reduceBEq, run_nil, run_cons, stp_plain, stp_guard, put_some, pass_eq, pick_tt, pick_ff, pick_tf, pick_ft, pick_u, reg_some, thn_normal, thn_exit, thn_ret, cnd_t, cnd_f, blk_normal, blk_ret, blk_exit, x_seq, x_region, x_cond, x_block, x_loop, x_ret, x_exit, x_skip, e_mov, e_pick, pk_t, pk_f, withH_some, e_box, e_load, e_store, stH_some, e_nil, e_bin, e_eqv, eqH_f, eqH_t, e_un, e_fa, e_ia, ia_eq, nat_eq, natV_nat, e_len, lnH_some, e_extract, ex_0, ex_1, e_call0, e_call1, e_call2, e_call3, pc0_eq, pc1_some, pc2_some, pc3_some, fin_some, g_var0, g_vars, g_loc0, g_locs, g_int, g_bool, g_str, g_sl, s_none, s_zero, s_succ, cl_nil, cl_str, cl_bool, cl_slc, cl_own, evFa, evNil, asEl, evBin, intBin, strBin, evUn, len_nil, len_slc, len_str, clr, List.length_nil, List.length_cons, List.getElem?_cons_zero, List.getElem?_cons_succ, Nat.reduceAdd, Nat.zero_add, Nat.add_zero, Nat.reduceLeDiff, Nat.reduceSub, ↓reduceIte, List.drop_succ_cons, List.drop_zero, List.take_succ_cons, List.take_zero, Bool.false_eq_true, List.nil_append, List.cons_append, Bool.not_true, Bool.not_false, cond_true, cond_false, bne, lv_ret, lv_normal, res1, res2, lv2_some, res_var, res_cell, lvf_v, lvf_slc, res1c, lvo1_some, e_mm, mm_max, mm_min, cl_agg, cl_int, g_agg, e_callv1, cv1_fn, e_slice2, e_clrrow, e_callf2, pick_und, cells_agg, Option.map_some, Option.map_none]
          exact v_leave0 h0 h3 hT rfl _ (by first | exact .inr rfl | exact .inl rfl)
        | true =>
          rw [show doesT ⟨S, Q, p, o, u, true, ov⟩ 2 4 i = ⟨[], Q, i.n, 2, i.a, false, ov⟩ from by simp [doesT, headOff]]
          refine ⟨[], N, (Seen.nil _), hN, callW_own (c := c18) rfl rfl 0 ?_⟩
          rw [v_app, v_len]
          simp only [c18, start, List.replicate, c18_0, c18_1, c18_2, c18_3, c18_4, c18_5, c18_6, c18_7, c18_8, c18_9, c18_10, c18_11, c18_12, c18_13, c18_14, c18_15, c18_16, c18_17, c18_18, c18_19, c18_20, cl, v_bx, v_ld4, v_ld5, v_ld6, v_ld8, v_ld9, v_l0, v_l1, v_l2, v_l4, v_st6, v_st7, v_st8, v_st9, v_st10, v_clr, v_up1, v_up2, ap, x_region_ap, apR_t, e_clrmap, e_mapupd, pick_und, Int.reduceBEq, run_nil, run_cons, stp_plain, stp_guard, put_some, pass_eq, pick_tt, pick_ff, pick_tf, pick_ft, pick_u, reg_some, thn_normal, thn_exit, thn_ret, cnd_t, cnd_f, blk_normal, blk_ret, blk_exit, x_seq, x_region, x_cond, x_block, x_loop, x_ret, x_exit, x_skip, e_mov, e_pick, pk_t, pk_f, withH_some, e_box, e_load, e_store, stH_some, e_nil, e_bin, e_eqv, eqH_f, eqH_t, e_un, e_fa, e_ia, ia_eq, nat_eq, natV_nat, e_len, lnH_some, e_extract, ex_0, ex_1, e_call0, e_call1, e_call2, e_call3, pc0_eq, pc1_some, pc2_some, pc3_some, fin_some, g_var0, g_vars, g_loc0, g_locs, g_int, g_bool, g_str, g_sl, s_none, s_zero, s_succ, cl_nil, cl_str, cl_bool, cl_slc, cl_own, evFa, evNil, asEl, evBin, intBin, strBin, evUn, len_nil, len_slc, len_str, clr, List.length_nil, List.length_cons, List.getElem?_cons_zero, List.getElem?_cons_succ, Nat.reduceAdd, Nat.zero_add, Nat.add_zero, Nat.reduceLeDiff, Nat.reduceSub, ↓reduceIte, List.drop_succ_cons, List.drop_zero, List.take_succ_cons, List.take_zero, Bool.false_eq_true, List.nil_append, List.cons_append, Bool.not_true, Bool.not_false, cond_true, cond_false, bne, lv_ret, lv_normal, res1, res2, lv2_some, res_var, res_cell, lvf_v, lvf_slc, res1c, lvo1_some, e_mm, mm_max, mm_min, cl_agg, cl_int, g_agg, e_callv1, cv1_fn, e_slice2, e_clrrow, e_callf2, pick_und, cells_agg, Option.map_some, Option.map_none]
          exact v_leave0 h0 h3 hT rfl _ (by first | exact .inr rfl | exact .inl rfl)
    · rcases hk5 with rfl | rfl | rfl | rfl | rfl
      · by_cases hz' : IntKind.i64.wrap (p - 1) = 0
        · have hz : (IntKind.i64.wrap (p - 1) == 0) = true := by simp [hz']
          cases hd with
          | false =>
            rw [show doesT ⟨S, Q, p, o, u, false, ov⟩ 3 0 i = ⟨(u :: S), (i.b :: Q), (IntKind.i64.wrap (p - 1)), o, u, false, ov⟩ from by simp [doesT, headOff, hz']]
            refine ⟨(upd (.int .i64 u) (.v (.bool true)) R), (upd (.int .i64 i.b) (.v (.bool true)) N), hR.add _, hN.add _, callW_own (c := c18) rfl rfl 0 ?_⟩
            rw [v_app, v_len]
            simp only [c18, start, List.replicate, c18_0, c18_1, c18_2, c18_3, c18_4, c18_5, c18_6, c18_7, c18_8, c18_9, c18_10, c18_11, c18_12, c18_13, c18_14, c18_15, c18_16, c18_17, c18_18, c18_19, c18_20, cl, v_bx, v_ld4, v_ld5, v_ld6, v_ld8, v_ld9, v_l0, v_l1, v_l2, v_l4, v_st6, v_st7, v_st8, v_st9, v_st10, v_clr, v_up1, v_up2, ap, x_region_ap, apR_t, e_clrmap, e_mapupd, pick_und, Int.reduceBEq, run_nil, run_cons, stp_plain, stp_guard, put_some, pass_eq, pick_tt, pick_ff, pick_tf, pick_ft, pick_u, reg_some, thn_normal, thn_exit, thn_ret, cnd_t, cnd_f, blk_normal, blk_ret, blk_exit, x_seq, x_region, x_cond, x_block, x_loop, x_ret, x_exit, x_skip, e_mov, e_pick, pk_t, pk_f, withH_some, e_box, e_load, e_store, stH_some, e_nil, e_bin, e_eqv, eqH_f, eqH_t, e_un, e_fa, e_ia, ia_eq, nat_eq, natV_nat, e_len, lnH_some, e_extract, ex_0, ex_1, e_call0, e_call1, e_call2, e_call3, pc0_eq, pc1_some, pc2_some, pc3_some, fin_some, g_var0, g_vars, g_loc0, g_locs, g_int, g_bool, g_str, g_sl, s_none, s_zero, s_succ, cl_nil, cl_str, cl_bool, cl_slc, cl_own, evFa, evNil, asEl, evBin, intBin, strBin, evUn, len_nil, len_slc, len_str, clr, List.length_nil, List.length_cons, List.getElem?_cons_zero, List.getElem?_cons_succ, Nat.reduceAdd, Nat.zero_add, Nat.add_zero, Nat.reduceLeDiff, Nat.reduceSub, ↓reduceIte, List.drop_succ_cons, List.drop_zero, List.take_succ_cons, List.take_zero, Bool.false_eq_true, List.nil_append, List.cons_append, Bool.not_true, Bool.not_false, cond_true, cond_false, bne, lv_ret, lv_normal, res1, res2, lv2_some, res_var, res_cell, lvf_v, lvf_slc, res1c, lvo1_some, e_mm, mm_max, mm_min, cl_agg, cl_int, g_agg, e_callv1, cv1_fn, e_slice2, e_clrrow, e_callf2, pick_und, cells_agg, Option.map_some, Option.map_none, hz]
            exact v_leave0 h0 h3 hT rfl _ (by first | exact .inr rfl | exact .inl rfl)
          | true =>
            rw [show doesT ⟨S, Q, p, o, u, true, ov⟩ 3 0 i = ⟨(u :: S), (i.b :: Q), (IntKind.i64.wrap (p - 1)), o, u, true, ov⟩ from by simp [doesT, headOff, hz']]
            refine ⟨(upd (.int .i64 u) (.v (.bool true)) R), (upd (.int .i64 i.b) (.v (.bool true)) N), hR.add _, hN.add _, callW_own (c := c18) rfl rfl 0 ?_⟩
            rw [v_app, v_len]
            simp only [c18, start, List.replicate, c18_0, c18_1, c18_2, c18_3, c18_4, c18_5, c18_6, c18_7, c18_8, c18_9, c18_10, c18_11, c18_12, c18_13, c18_14, c18_15, c18_16, c18_17, c18_18, c18_19, c18_20, cl, v_bx, v_ld4, v_ld5, v_ld6, v_ld8, v_ld9, v_l0, v_l1, v_l2, v_l4, v_st6, v_st7, v_st8, v_st9, v_st10, v_clr, v_up1, v_up2, ap, x_region_ap, apR_t, e_clrmap, e_mapupd, pick_und, Int.reduceBEq, run_nil, run_cons, stp_plain, stp_guard, put_some, pass_eq, pick_tt, pick_ff, pick_tf, pick_ft, pick_u, reg_some, thn_normal, thn_exit, thn_ret, cnd_t, cnd_f, blk_normal, blk_ret, blk_exit, x_seq, x_region, x_cond, x_block, x_loop, x_ret, x_exit, x_skip, e_mov, e_pick, pk_t, pk_f, withH_some, e_box, e_load, e_store, stH_some, e_nil, e_bin, e_eqv, eqH_f, eqH_t, e_un, e_fa, e_ia, ia_eq, nat_eq, natV_nat, e_len, lnH_some, e_extract, ex_0, ex_1, e_call0, e_call1, e_call2, e_call3, pc0_eq, pc1_some, pc2_some, pc3_some, fin_some, g_var0, g_vars, g_loc0, g_locs, g_int, g_bool, g_str, g_sl, s_none, s_zero, s_succ, cl_nil, cl_str, cl_bool, cl_slc, cl_own, evFa, evNil, asEl, evBin, intBin, strBin, evUn, len_nil, len_slc, len_str, clr, List.length_nil, List.length_cons, List.getElem?_cons_zero, List.getElem?_cons_succ, Nat.reduceAdd, Nat.zero_add, Nat.add_zero, Nat.reduceLeDiff, Nat.reduceSub, ↓reduceIte, List.drop_succ_cons, List.drop_zero, List.take_succ_cons, List.take_zero, Bool.false_eq_true, List.nil_append, List.cons_append, Bool.not_true, Bool.not_false, cond_true, cond_false, bne, lv_ret, lv_normal, res1, res2, lv2_some, res_var, res_cell, lvf_v, lvf_slc, res1c, lvo1_some, e_mm, mm_max, mm_min, cl_agg, cl_int, g_agg, e_callv1, cv1_fn, e_slice2, e_clrrow, e_callf2, pick_und, cells_agg, Option.map_some, Option.map_none, hz]
            exact v_leave0 h0 h3 hT rfl _ (by first | exact .inr rfl | exact .inl rfl)
        · have hz : (IntKind.i64.wrap (p - 1) == 0) = false := by simp [hz']
          cases hd with
          | false =>
            rw [show doesT ⟨S, Q, p, o, u, false, ov⟩ 3 0 i = ⟨S, (i.b :: Q), (IntKind.i64.wrap (p - 1)), o, u, false, ov⟩ from by simp [doesT, headOff, hz']]
            refine ⟨R, (upd (.int .i64 i.b) (.v (.bool true)) N), hR, hN.add _, callW_own (c := c18) rfl rfl 0 ?_⟩
            rw [v_app, v_len]
            simp only [c18, start, List.replicate, c18_0, c18_1, c18_2, c18_3, c18_4, c18_5, c18_6, c18_7, c18_8, c18_9, c18_10, c18_11, c18_12, c18_13, c18_14, c18_15, c18_16, c18_17, c18_18, c18_19, c18_20, cl, v_bx, v_ld4, v_ld5, v_ld6, v_ld8, v_ld9, v_l0, v_l1, v_l2, v_l4, v_st6, v_st7, v_st8, v_st9, v_st10, v_clr, v_up1, v_up2, ap, x_region_ap, apR_t, e_clrmap, e_mapupd, pick_und, Int.reduceBEq, run_nil, run_cons, stp_plain, stp_guard, put_some, pass_eq, pick_tt, pick_ff, pick_tf, pick_ft, pick_u, reg_some, thn_normal, thn_exit, thn_ret, cnd_t, cnd_f, blk_normal, blk_ret, blk_exit, x_seq, x_region, x_cond, x_block, x_loop, x_ret, x_exit, x_skip, e_mov, e_pick, pk_t, pk_f, withH_some, e_box, e_load, e_store, stH_some, e_nil, e_bin, e_eqv, eqH_f, eqH_t, e_un, e_fa, e_ia, ia_eq, nat_eq, natV_nat, e_len, lnH_some, e_extract, ex_0, ex_1, e_call0, e_call1, e_call2, e_call3, pc0_eq, pc1_some, pc2_some, pc3_some, fin_some, g_var0, g_vars, g_loc0, g_locs, g_int, g_bool, g_str, g_sl, s_none, s_zero, s_succ, cl_nil, cl_str, cl_bool, cl_slc, cl_own, evFa, evNil, asEl, evBin, intBin, strBin, evUn, len_nil, len_slc, len_str, clr, List.length_nil, List.length_cons, List.getElem?_cons_zero, List.getElem?_cons_succ, Nat.reduceAdd, Nat.zero_add, Nat.add_zero, Nat.reduceLeDiff, Nat.reduceSub, ↓reduceIte, List.drop_succ_cons, List.drop_zero, List.take_succ_cons, List.take_zero, Bool.false_eq_true, List.nil_append, List.cons_append, Bool.not_true, Bool.not_false, cond_true, cond_false, bne, lv_ret, lv_normal, res1, res2, lv2_some, res_var, res_cell, lvf_v, lvf_slc, res1c, lvo1_some, e_mm, mm_max, mm_min, cl_agg, cl_int, g_agg, e_callv1, cv1_fn, e_slice2, e_clrrow, e_callf2, pick_und, cells_agg, Option.map_some, Option.map_none, hz]
            exact v_leave0 h0 h3 hT rfl _ (by first | exact .inr rfl | exact .inl rfl)
          | true =>
            rw [show doesT ⟨S, Q, p, o, u, true, ov⟩ 3 0 i = ⟨S, (i.b :: Q), (IntKind.i64.wrap (p - 1)), o, u, true, ov⟩ from by simp [doesT, headOff, hz']]
            refine ⟨R, (upd (.int .i64 i.b) (.v (.bool true)) N), hR, hN.add _, callW_own (c := c18) rfl rfl 0 ?_⟩
            rw [v_app, v_len]
            simp only [c18, start, List.replicate, c18_0, c18_1, c18_2, c18_3, c18_4, c18_5, c18_6, c18_7, c18_8, c18_9, c18_10, c18_11, c18_12, c18_13, c18_14, c18_15, c18_16, c18_17, c18_18, c18_19, c18_20, cl, v_bx, v_ld4, v_ld5, v_ld6, v_ld8, v_ld9, v_l0, v_l1, v_l2, v_l4, v_st6, v_st7, v_st8, v_st9, v_st10, v_clr, v_up1, v_up2, ap, x_region_ap, apR_t, e_clrmap, e_mapupd, pick_und, Int.reduceBEq, run_nil, run_cons, stp_plain, stp_guard, put_some, pass_eq, pick_tt, pick_ff, pick_tf, pick_ft, pick_u, reg_some, thn_normal, thn_exit, thn_ret, cnd_t, cnd_f, blk_normal, blk_ret, blk_exit, x_seq, x_region, x_cond, x_block, x_loop, x_ret, x_exit, x_skip, e_mov, e_pick, pk_t, pk_f, withH_some, e_box, e_load, e_store, stH_some, e_nil, e_bin, e_eqv, eqH_f, eqH_t, e_un, e_fa, e_ia, ia_eq, nat_eq, natV_nat, e_len, lnH_some, e_extract, ex_0, ex_1, e_call0, e_call1, e_call2, e_call3, pc0_eq, pc1_some, pc2_some, pc3_some, fin_some, g_var0, g_vars, g_loc0, g_locs, g_int, g_bool, g_str, g_sl, s_none, s_zero, s_succ, cl_nil, cl_str, cl_bool, cl_slc, cl_own, evFa, evNil, asEl, evBin, intBin, strBin, evUn, len_nil, len_slc, len_str, clr, List.length_nil, List.length_cons, List.getElem?_cons_zero, List.getElem?_cons_succ, Nat.reduceAdd, Nat.zero_add, Nat.add_zero, Nat.reduceLeDiff, Nat.reduceSub, ↓reduceIte, List.drop_succ_cons, List.drop_zero, List.take_succ_cons, List.take_zero, Bool.false_eq_true, List.nil_append, List.cons_append, Bool.not_true, Bool.not_false, cond_true, cond_false, bne, lv_ret, lv_normal, res1, res2, lv2_some, res_var, res_cell, lvf_v, lvf_slc, res1c, lvo1_some, e_mm, mm_max, mm_min, cl_agg, cl_int, g_agg, e_callv1, cv1_fn, e_slice2, e_clrrow, e_callf2, pick_und, cells_agg, Option.map_some, Option.map_none, hz]
            exact v_leave0 h0 h3 hT rfl _ (by first | exact .inr rfl | exact .inl rfl)
      · by_cases hz' : IntKind.i64.wrap (p - 1) = 0
        · have hz : (IntKind.i64.wrap (p - 1) == 0) = true := by simp [hz']
          cases hd with
          | false =>
            rw [show doesT ⟨S, Q, p, o, u, false, ov⟩ 3 1 i = ⟨(u :: S), Q, (IntKind.i64.wrap (p - 1)), o, u, false, ov⟩ from by simp [doesT, headOff, hz']]
            refine ⟨(upd (.int .i64 u) (.v (.bool true)) R), N, hR.add _, hN, callW_own (c := c18) rfl rfl 0 ?_⟩
            rw [v_app, v_len]
            simp only [c18, start, List.replicate, c18_0, c18_1, c18_2, c18_3, c18_4, c18_5, c18_6, c18_7, c18_8, c18_9, c18_10, c18_11, c18_12, c18_13, c18_14, c18_15, c18_16, c18_17, c18_18, c18_19, c18_20, cl, v_bx, v_ld4, v_ld5, v_ld6, v_ld8, v_ld9, v_l0, v_l1, v_l2, v_l4, v_st6, v_st7, v_st8, v_st9, v_st10, v_clr, v_up1, v_up2, ap, x_region_ap, apR_t, e_clrmap, e_mapupd, pick_und, Int.reduceBEq, run_nil, run_cons, stp_plain, stp_guard, put_some, pass_eq, pick_tt, pick_ff, pick_tf, pick_ft, pick_u, reg_some, thn_normal, thn_exit, thn_ret, cnd_t, cnd_f, blk_normal, blk_ret, blk_exit, x_seq, x_region, x_cond, x_block, x_loop, x_ret, x_exit, x_skip, e_mov, e_pick, pk_t, pk_f, withH_some, e_box, e_load, e_store, stH_some, e_nil, e_bin, e_eqv, eqH_f, eqH_t, e_un, e_fa, e_ia, ia_eq, nat_eq, natV_nat, e_len, lnH_some, e_extract, ex_0, ex_1, e_call0, e_call1, e_call2, e_call3, pc0_eq, pc1_some, pc2_some, pc3_some, fin_some, g_var0, g_vars, g_loc0, g_locs, g_int, g_bool, g_str, g_sl, s_none, s_zero, s_succ, cl_nil, cl_str, cl_bool, cl_slc, cl_own, evFa, evNil, asEl, evBin, intBin, strBin, evUn, len_nil, len_slc, len_str, clr, List.length_nil, List.length_cons, List.getElem?_cons_zero, List.getElem?_cons_succ, Nat.reduceAdd, Nat.zero_add, Nat.add_zero, Nat.reduceLeDiff, Nat.reduceSub, ↓reduceIte, List.drop_succ_cons, List.drop_zero, List.take_succ_cons, List.take_zero, Bool.false_eq_true, List.nil_append, List.cons_append, Bool.not_true, Bool.not_false, cond_true, cond_false, bne, lv_ret, lv_normal, res1, res2, lv2_some, res_var, res_cell, lvf_v, lvf_slc, res1c, lvo1_some, e_mm, mm_max, mm_min, cl_agg, cl_int, g_agg, e_callv1, cv1_fn, e_slice2, e_clrrow, e_callf2, pick_und, cells_agg, Option.map_some, Option.map_none, hz]
            exact v_leave0 h0 h3 hT rfl _ (by first | exact .inr rfl | exact .inl rfl)
          | true =>
            rw [show doesT ⟨S, Q, p, o, u, true, ov⟩ 3 1 i = ⟨(u :: S), Q, (IntKind.i64.wrap (p - 1)), o, u, true, ov⟩ from by simp [doesT, headOff, hz']]
            refine ⟨(upd (.int .i64 u) (.v (.bool true)) R), N, hR.add _, hN, callW_own (c := c18) rfl rfl 0 ?_⟩
            rw [v_app, v_len]
            simp only [c18, start, List.replicate, c18_0, c18_1, c18_2, c18_3, c18_4, c18_5, c18_6, c18_7, c18_8, c18_9, c18_10, c18_11, c18_12, c18_13, c18_14, c18_15, c18_16, c18_17, c18_18, c18_19, c18_20, cl, v_bx, v_ld4, v_ld5, v_ld6, v_ld8, v_ld9, v_l0, v_l1, v_l2, v_l4, v_st6, v_st7, v_st8, v_st9, v_st10, v_clr, v_up1, v_up2, ap, x_region_ap, apR_t, e_clrmap, e_mapupd, pick_und, Int.reduceBEq, run_nil, run_cons, stp_plain, stp_guard, put_some, pass_eq, pick_tt, pick_ff, pick_tf, pick_ft, pick_u, reg_some, thn_normal, thn_exit, thn_ret, cnd_t, cnd_f, blk_normal, blk_ret, blk_exit, x_seq, x_region, x_cond, x_block, x_loop, x_ret, x_exit, x_skip, e_mov, e_pick, pk_t, pk_f, withH_some, e_box, e_load, e_store, stH_some, e_nil, e_bin, e_eqv, eqH_f, eqH_t, e_un, e_fa, e_ia, ia_eq, nat_eq, natV_nat, e_len, lnH_some, e_extract, ex_0, ex_1, e_call0, e_call1, e_call2, e_call3, pc0_eq, pc1_some, pc2_some, pc3_some, fin_some, g_var0, g_vars, g_loc0, g_locs, g_int, g_bool, g_str, g_sl, s_none, s_zero, s_succ, cl_nil, cl_str, cl_bool, cl_slc, cl_own, evFa, evNil, asEl, evBin, intBin, strBin, evUn, len_nil, len_slc, len_str, clr, List.length_nil, List.length_cons, List.getElem?_cons_zero, List.getElem?_cons_succ, Nat.reduceAdd, Nat.zero_add, Nat.add_zero, Nat.reduceLeDiff, Nat.reduceSub, ↓reduceIte, List.drop_succ_cons, List.drop_zero, List.take_succ_cons, List.take_zero, Bool.false_eq_true, List.nil_append, List.cons_append, Bool.not_true, Bool.not_false, cond_true, cond_false, bne, lv_ret, lv_normal, res1, res2, lv2_some, res_var, res_cell, lvf_v, lvf_slc, res1c, lvo1_some, e_mm, mm_max, mm_min, cl_agg, cl_int, g_agg, e_callv1, cv1_fn, e_slice2, e_clrrow, e_callf2, pick_und, cells_agg, Option.map_some, Option.map_none, hz]
            exact v_leave0 h0 h3 hT rfl _ (by first | exact .inr rfl | exact .inl rfl)
        · have hz : (IntKind.i64.wrap (p - 1) == 0) = false := by simp [hz']
          cases hd with
          | false =>
            rw [show doesT ⟨S, Q, p, o, u, false, ov⟩ 3 1 i = ⟨S, Q, (IntKind.i64.wrap (p - 1)), o, u, false, ov⟩ from by simp [doesT, headOff, hz']]
            refine ⟨R, N, hR, hN, callW_own (c := c18) rfl rfl 0 ?_⟩
            rw [v_app, v_len]
            simp only [c18, start, List.replicate, c18_0, c18_1, c18_2, c18_3, c18_4, c18_5, c18_6, c18_7, c18_8, c18_9, c18_10, c18_11, c18_12, c18_13, c18_14, c18_15, c18_16, c18_17, c18_18, c18_19, c18_20, cl, v_bx, v_ld4, v_ld5, v_ld6, v_ld8, v_ld9, v_l0, v_l1, v_l2, v_l4, v_st6, v_st7, v_st8, v_st9, v_st10, v_clr, v_up1, v_up2, ap, x_region_ap, apR_t, e_clrmap, e_mapupd, pick_und, Int.reduceBEq, run_nil, run_cons, stp_plain, stp_guard, put_some, pass_eq, pick_tt, pick_ff, pick_tf, pick_ft, pick_u, reg_some, thn_normal, thn_exit, thn_ret, cnd_t, cnd_f, blk_normal, blk_ret, blk_exit, x_seq, x_region, x_cond, x_block, x_loop, x_ret, x_exit, x_skip, e_mov, e_pick, pk_t, pk_f, withH_some, e_box, e_load, e_store, stH_some, e_nil, e_bin, e_eqv, eqH_f, eqH_t, e_un, e_fa, e_ia, ia_eq, nat_eq, natV_nat, e_len, lnH_some, e_extract, ex_0, ex_1, e_call0, e_call1, e_call2, e_call3, pc0_eq, pc1_some, pc2_some, pc3_some, fin_some, g_var0, g_vars, g_loc0, g_locs, g_int, g_bool, g_str, g_sl, s_none, s_zero, s_succ, cl_nil, cl_str, cl_bool, cl_slc, cl_own, evFa, evNil, asEl, evBin, intBin, strBin, evUn, len_nil, len_slc, len_str, clr, List.length_nil, List.length_cons, List.getElem?_cons_zero, List.getElem?_cons_succ, Nat.reduceAdd, Nat.zero_add, Nat.add_zero, Nat.reduceLeDiff, Nat.reduceSub, ↓reduceIte, List.drop_succ_cons, List.drop_zero, List.take_succ_cons, List.take_zero, Bool.false_eq_true, List.nil_append, List.cons_append, Bool.not_true, Bool.not_false, cond_true, cond_false, bne, lv_ret, lv_normal, res1, res2, lv2_some, res_var, res_cell, lvf_v, lvf_slc, res1c, lvo1_some, e_mm, mm_max, mm_min, cl_agg, cl_int, g_agg, e_callv1, cv1_fn, e_slice2, e_clrrow, e_callf2, pick_und, cells_agg, Option.map_some, Option.map_none, hz]
            exact v_leave0 h0 h3 hT rfl _ (by first | exact .inr rfl | exact .inl rfl)
          | true =>
            rw [show doesT ⟨S, Q, p, o, u, true, ov⟩ 3 1 i = ⟨S, Q, (IntKind.i64.wrap (p - 1)), o, u, true, ov⟩ from by simp [doesT, headOff, hz']]
            refine ⟨R, N, hR, hN, callW_own (c := c18) rfl rfl 0 ?_⟩
            rw [v_app, v_len]
            simp only [c18, start, List.replicate, c18_0, c18_1, c18_2, c18_3, c18_4, c18_5, c18_6, c18_7, c18_8, c18_9, c18_10, c18_11, c18_12, c18_13, c18_14, c18_15, c18_16, c18_17, c18_18, c18_19, c18_20, cl, v_bx, v_ld4, v_ld5, v_ld6, v_ld8, v_ld9, v_l0, v_l1, v_l2, v_l4, v_st6, v_st7, v_st8, v_st9, v_st10, v_clr, v_up1, v_up2, ap, x_region_ap, apR_t, e_clrmap, e_mapupd, pick_und, Int.reduceBEq, run_nil, run_cons, stp_plain, stp_guard, put_some, pass_eq, pick_tt, pick_ff, pick_tf, pick_ft, pick_u, reg_some, thn_normal, thn_exit, thn_ret, cnd_t, cnd_f, blk_normal, blk_ret, blk_exit, x_seq, x_region, x_cond, x_block, x_loop, x_ret, x_exit, x_skip, e_mov, e_pick, pk_t, pk_f, withH_some, e_box, e_load, e_store, stH_some, e_nil, e_bin, e_eqv, eqH_f, eqH_t, e_un, e_fa, e_ia, ia_eq, nat_eq, natV_nat, e_len, lnH_some, e_extract, ex_0, ex_1, e_call0, e_call1, e_call2, e_call3, pc0_eq, pc1_some, pc2_some, pc3_some, fin_some, g_var0, g_vars, g_loc0, g_locs, g_int, g_bool, g_str, g_sl, s_none, s_zero, s_succ, cl_nil, cl_str, cl_bool, cl_slc, cl_own, evFa, evNil, asEl, evBin, intBin, strBin, evUn, len_nil, len_slc, len_str, clr, List.length_nil, List.length_cons, List.getElem?_cons_zero, List.getElem?_cons_succ, Nat.reduceAdd, Nat.zero_add, Nat.add_zero, Nat.reduceLeDiff, Nat.reduceSub, ↓reduceIte, List.drop_succ_cons, List.drop_zero, List.take_succ_cons, List.take_zero, Bool.false_eq_true, List.nil_append, List.cons_append, Bool.not_true, Bool.not_false, cond_true, cond_false, bne, lv_ret, lv_normal, res1, res2, lv2_some, res_var, res_cell, lvf_v, lvf_slc, res1c, lvo1_some, e_mm, mm_max, mm_min, cl_agg, cl_int, g_agg, e_callv1, cv1_fn, e_slice2, e_clrrow, e_callf2, pick_und, cells_agg, Option.map_some, Option.map_none, hz]
            exact v_leave0 h0 h3 hT rfl _ (by first | exact .inr rfl | exact .inl rfl)
      · by_cases hz' : IntKind.i64.wrap (p - 1) = 0
        · have hz : (IntKind.i64.wrap (p - 1) == 0) = true := by simp [hz']
          cases hd with
          | false =>
            rw [show doesT ⟨S, Q, p, o, u, false, ov⟩ 3 2 i = ⟨(u :: S), Q, (IntKind.i64.wrap (p - 1)), o, u, false, ov⟩ from by simp [doesT, headOff, hz']]
            refine ⟨(upd (.int .i64 u) (.v (.bool true)) R), N, hR.add _, hN, callW_own (c := c18) rfl rfl 0 ?_⟩
            rw [v_app, v_len]
            simp only [c18, start, List.replicate, c18_0, c18_1, c18_2, c18_3, c18_4, c18_5, c18_6, c18_7, c18_8, c18_9, c18_10, c18_11, c18_12, c18_13, c18_14, c18_15, c18_16, c18_17, c18_18, c18_19, c18_20, cl, v_bx, v_ld4, v_ld5, v_ld6, v_ld8, v_ld9, v_l0, v_l1, v_l2, v_l4, v_st6, v_st7, v_st8, v_st9, v_st10, v_clr, v_up1, v_up2, ap, x_region_ap, apR_t, e_clrmap, e_mapupd, pick_und, Int.reduceBEq, run_nil, run_cons, stp_plain, stp_guard, put_some, pass_eq, pick_tt, pick_ff, pick_tf, pick_ft, pick_u, reg_some, thn_normal, thn_exit, thn_ret, cnd_t, cnd_f, blk_normal, blk_ret, blk_exit, x_seq, x_region, x_cond, x_block, x_loop, x_ret, x_exit, x_skip, e_mov, e_pick, pk_t, pk_f, withH_some, e_box, e_load, e_store, stH_some, e_nil, e_bin, e_eqv, eqH_f, eqH_t, e_un, e_fa, e_ia, ia_eq, nat_eq, natV_nat, e_len, lnH_some, e_extract, ex_0, ex_1, e_call0, e_call1, e_call2, e_call3, pc0_eq, pc1_some, pc2_some, pc3_some, fin_some, g_var0, g_vars, g_loc0, g_locs, g_int, g_bool, g_str, g_sl, s_none, s_zero, s_succ, cl_nil, cl_str, cl_bool, cl_slc, cl_own, evFa, evNil, asEl, evBin, intBin, strBin, evUn, len_nil, len_slc, len_str, clr, List.length_nil, List.length_cons, List.getElem?_cons_zero, List.getElem?_cons_succ, Nat.reduceAdd, Nat.zero_add, Nat.add_zero, Nat.reduceLeDiff, Nat.reduceSub, ↓reduceIte, List.drop_succ_cons, List.drop_zero, List.take_succ_cons, List.take_zero, Bool.false_eq_true, List.nil_append, List.cons_append, Bool.not_true, Bool.not_false, cond_true, cond_false, bne, lv_ret, lv_normal, res1, res2, lv2_some, res_var, res_cell, lvf_v, lvf_slc, res1c, lvo1_some, e_mm, mm_max, mm_min, cl_agg, cl_int, g_agg, e_callv1, cv1_fn, e_slice2, e_clrrow, e_callf2, pick_und, cells_agg, Option.map_some, Option.map_none, hz]
            exact v_leave0 h0 h3 hT rfl _ (by first | exact .inr rfl | exact .inl rfl)
          | true =>
            rw [show doesT ⟨S, Q, p, o, u, true, ov⟩ 3 2 i = ⟨(u :: S), Q, (IntKind.i64.wrap (p - 1)), o, u, true, ov⟩ from by simp [doesT, headOff, hz']]
            refine ⟨(upd (.int .i64 u) (.v (.bool true)) R), N, hR.add _, hN, callW_own (c := c18) rfl rfl 0 ?_⟩
            rw [v_app, v_len]
            simp only [c18, start, List.replicate, c18_0, c18_1, c18_2, c18_3, c18_4, c18_5, c18_6, c18_7, c18_8, c18_9, c18_10, c18_11, c18_12, c18_13, c18_14, c18_15, c18_16, c18_17, c18_18, c18_19, c18_20, cl, v_bx, v_ld4, v_ld5, v_ld6, v_ld8, v_ld9, v_l0, v_l1, v_l2, v_l4, v_st6, v_st7, v_st8, v_st9, v_st10, v_clr, v_up1, v_up2, ap, x_region_ap, apR_t, e_clrmap, e_mapupd, pick_und, Int.reduceBEq, run_nil, run_cons, stp_plain, stp_guard, put_some, pass_eq, pick_tt, pick_ff, pick_tf, pick_ft, pick_u, reg_some, thn_normal, thn_exit, thn_ret, cnd_t, cnd_f, blk_normal, blk_ret, blk_exit, x_seq, x_region, x_cond, x_block, x_loop, x_ret, x_exit, x_skip, e_mov, e_pick, pk_t, pk_f, withH_some, e_box, e_load, e_store, stH_some, e_nil, e_bin, e_eqv, eqH_f, eqH_t, e_un, e_fa, e_ia, ia_eq, nat_eq, natV_nat, e_len, lnH_some, e_extract, ex_0, ex_1, e_call0, e_call1, e_call2, e_call3, pc0_eq, pc1_some, pc2_some, pc3_some, fin_some, g_var0, g_vars, g_loc0, g_locs, g_int, g_bool, g_str, g_sl, s_none, s_zero, s_succ, cl_nil, cl_str, cl_bool, cl_slc, cl_own, evFa, evNil, asEl, evBin, intBin, strBin, evUn, len_nil, len_slc, len_str, clr, List.length_nil, List.length_cons, List.getElem?_cons_zero, List.getElem?_cons_succ, Nat.reduceAdd, Nat.zero_add, Nat.add_zero, Nat.reduceLeDiff, Nat.reduceSub, ↓reduceIte, List.drop_succ_cons, List.drop_zero, List.take_succ_cons, List.take_zero, Bool.false_eq_true, List.nil_append, List.cons_append, Bool.not_true, Bool.not_false, cond_true, cond_false, bne, lv_ret, lv_normal, res1, res2, lv2_some, res_var, res_cell, lvf_v, lvf_slc, res1c, lvo1_some, e_mm, mm_max, mm_min, cl_agg, cl_int, g_agg, e_callv1, cv1_fn, e_slice2, e_clrrow, e_callf2, pick_und, cells_agg, Option.map_some, Option.map_none, hz]
            exact v_leave0 h0 h3 hT rfl _ (by first | exact .inr rfl | exact .inl rfl)
        · have hz : (IntKind.i64.wrap (p - 1) == 0) = false := by simp [hz']
          cases hd with
          | false =>
            rw [show doesT ⟨S, Q, p, o, u, false, ov⟩ 3 2 i = ⟨S, Q, (IntKind.i64.wrap (p - 1)), o, u, false, ov⟩ from by simp [doesT, headOff, hz']]
            refine ⟨R, N, hR, hN, callW_own (c := c18) rfl rfl 0 ?_⟩
            rw [v_app, v_len]
            simp only [c18, start, List.replicate, c18_0, c18_1, c18_2, c18_3, c18_4, c18_5, c18_6, c18_7, c18_8, c18_9, c18_10, c18_11, c18_12, c18_13, c18_14, c18_15, c18_16, c18_17, c18_18, c18_19, c18_20, cl, v_bx, v_ld4, v_ld5, v_ld6, v_ld8, v_ld9, v_l0, v_l1, v_l2, v_l4, v_st6, v_st7, v_st8, v_st9, v_st10, v_clr, v_up1, v_up2, ap, x_region_ap, apR_t, e_clrmap, e_mapupd, pick_und, Int.reduceBEq, run_nil, run_cons, stp_plain, stp_guard, put_some, pass_eq, pick_tt, pick_ff, pick_tf, pick_ft, pick_u, reg_some, thn_normal, thn_exit, thn_ret, cnd_t, cnd_f, blk_normal, blk_ret, blk_exit, x_seq, x_region, x_cond, x_block, x_loop, x_ret, x_exit, x_skip, e_mov, e_pick, pk_t, pk_f, withH_some, e_box, e_load, e_store, stH_some, e_nil, e_bin, e_eqv, eqH_f, eqH_t, e_un, e_fa, e_ia, ia_eq, nat_eq, natV_nat, e_len, lnH_some, e_extract, ex_0, ex_1, e_call0, e_call1, e_call2, e_call3, pc0_eq, pc1_some, pc2_some, pc3_some, fin_some, g_var0, g_vars, g_loc0, g_locs, g_int, g_bool, g_str, g_sl, s_none, s_zero, s_succ, cl_nil, cl_str, cl_bool, cl_slc, cl_own, evFa, evNil, asEl, evBin, intBin, strBin, evUn, len_nil, len_slc, len_str, clr, List.length_nil, List.length_cons, List.getElem?_cons_zero, List.getElem?_cons_succ, Nat.reduceAdd, Nat.zero_add, Nat.add_zero, Nat.reduceLeDiff, Nat.reduceSub, ↓reduceIte, List.drop_succ_cons, List.drop_zero, List.take_succ_cons, List.take_zero, Bool.false_eq_true, List.nil_append, List.cons_append, Bool.not_true, Bool.not_false, cond_true, cond_false, bne, lv_ret, lv_normal, res1, res2, lv2_some, res_var, res_cell, lvf_v, lvf_slc, res1c, lvo1_some, e_mm, mm_max, mm_min, cl_agg, cl_int, g_agg, e_callv1, cv1_fn, e_slice2, e_clrrow, e_callf2, pick_und, cells_agg, Option.map_some, Option.map_none, hz]
            exact v_leave0 h0 h3 hT rfl _ (by first | exact .inr rfl | exact .inl rfl)
          | true =>
            rw [show doesT ⟨S, Q, p, o, u, true, ov⟩ 3 2 i = ⟨S, Q, (IntKind.i64.wrap (p - 1)), o, u, true, ov⟩ from by simp [doesT, headOff, hz']]
            refine ⟨R, N, hR, hN, callW_own (c := c18) rfl rfl 0 ?_⟩
            rw [v_app, v_len]
            simp only [c18, start, List.replicate, c18_0, c18_1, c18_2, c18_3, c18_4, c18_5, c18_6, c18_7, c18_8, c18_9, c18_10, c18_11, c18_12, c18_13, c18_14, c18_15, c18_16, c18_17, c18_18, c18_19, c18_20, cl, v_bx, v_ld4, v_ld5, v_ld6, v_ld8, v_ld9, v_l0, v_l1, v_l2, v_l4, v_st6, v_st7, v_st8, v_st9, v_st10, v_clr, v_up1, v_up2, ap, x_region_ap, apR_t, e_clrmap, e_mapupd, pick_und, Int.reduceBEq, run_nil, run_cons, stp_plain, stp_guard, put_some, pass_eq, pick_tt, pick_ff, pick_tf, pick_ft, pick_u, reg_some, thn_normal, thn_exit, thn_ret, cnd_t, cnd_f, blk_normal, blk_ret, blk_exit, x_seq, x_region, x_cond, x_block, x_loop, x_ret, x_exit, x_skip, e_mov, e_pick, pk_t, pk_f, withH_some, e_box, e_load, e_store, stH_some, e_nil, e_bin, e_eqv, eqH_f, eqH_t, e_un, e_fa, e_ia, ia_eq, nat_eq, natV_nat, e_len, lnH_some, e_extract, ex_0, ex_1, e_call0, e_call1, e_call2, e_call3, pc0_eq, pc1_some, pc2_some, pc3_some, fin_some, g_var0, g_vars, g_loc0, g_locs, g_int, g_bool, g_str, g_sl, s_none, s_zero, s_succ, cl_nil, cl_str, cl_bool, cl_slc, cl_own, evFa, evNil, asEl, evBin, intBin, strBin, evUn, len_nil, len_slc, len_str, clr, List.length_nil, List.length_cons, List.getElem?_cons_zero, List.getElem?_cons_succ, Nat.reduceAdd, Nat.zero_add, Nat.add_zero, Nat.reduceLeDiff, Nat.reduceSub, ↓reduceIte, List.drop_succ_cons, List.drop_zero, List.take_succ_cons, List.take_zero, Bool.false_eq_true, List.nil_append, List.cons_append, Bool.not_true, Bool.not_false, cond_true, cond_false, bne, lv_ret, lv_normal, res1, res2, lv2_some, res_var, res_cell, lvf_v, lvf_slc, res1c, lvo1_some, e_mm, mm_max, mm_min, cl_agg, cl_int, g_agg, e_callv1, cv1_fn, e_slice2, e_clrrow, e_callf2, pick_und, cells_agg, Option.map_some, Option.map_none, hz]
            exact v_leave0 h0 h3 hT rfl _ (by first | exact .inr rfl | exact .inl rfl)
      · by_cases hz' : IntKind.i64.wrap (p - 1) = 0
        · have hz : (IntKind.i64.wrap (p - 1) == 0) = true := by simp [hz']
          cases hd with
          | false =>
            rw [show doesT ⟨S, Q, p, o, u, false, ov⟩ 3 3 i = ⟨(u :: S), Q, (IntKind.i64.wrap (p - 1)), o, u, false, ov⟩ from by simp [doesT, headOff, hz']]
            refine ⟨(upd (.int .i64 u) (.v (.bool true)) R), N, hR.add _, hN, callW_own (c := c18) rfl rfl 0 ?_⟩
            rw [v_app, v_len]
            simp only [c18, start, List.replicate, c18_0, c18_1, c18_2, c18_3, c18_4, c18_5, c18_6, c18_7, c18_8, c18_9, c18_10, c18_11, c18_12, c18_13, c18_14, c18_15, c18_16, c18_17, c18_18, c18_19, c18_20, cl, v_bx, v_ld4, v_ld5, v_ld6, v_ld8, v_ld9, v_l0, v_l1, v_l2, v_l4, v_st6, v_st7, v_st8, v_st9, v_st10, v_clr, v_up1, v_up2, ap, x_region_ap, apR_t, e_clrmap, e_mapupd, pick_und, Int.reduceBEq, run_nil, run_cons, stp_plain, stp_guard, put_some, pass_eq, pick_tt, pick_ff, pick_tf, pick_ft, pick_u, reg_some, thn_normal, thn_exit, thn_ret, cnd_t, cnd_f, blk_normal, blk_ret, blk_exit, x_seq, x_region, x_cond, x_block, x_loop, x_ret, x_exit, x_skip, e_mov, e_pick, pk_t, pk_f, withH_some, e_box, e_load, e_store, stH_some, e_nil, e_bin, e_eqv, eqH_f, eqH_t, e_un, e_fa, e_ia, ia_eq, nat_eq, natV_nat, e_len, lnH_some, e_extract, ex_0, ex_1, e_call0, e_call1, e_call2, e_call3, pc0_eq, pc1_some, pc2_some, pc3_some, fin_some, g_var0, g_vars, g_loc0, g_locs, g_int, g_bool, g_str, g_sl, s_none, s_zero, s_succ, cl_nil, cl_str, cl_bool, cl_slc, cl_own, evFa, evNil, asEl, evBin, intBin, strBin, evUn, len_nil, len_slc, len_str, clr, List.length_nil, List.length_cons, List.getElem?_cons_zero, List.getElem?_cons_succ, Nat.reduceAdd, Nat.zero_add, Nat.add_zero, Nat.reduceLeDiff, Nat.reduceSub, ↓reduceIte, List.drop_succ_cons, List.drop_zero, List.take_succ_cons, List.take_zero, Bool.false_eq_true, List.nil_append, List.cons_append, Bool.not_true, Bool.not_false, cond_true, cond_false, bne, lv_ret, lv_normal, res1, res2, lv2_some, res_var, res_cell, lvf_v, lvf_slc, res1c, lvo1_some, e_mm, mm_max, mm_min, cl_agg, cl_int, g_agg, e_callv1, cv1_fn, e_slice2, e_clrrow, e_callf2, pick_und, cells_agg, Option.map_some, Option.map_none, hz]
            exact v_leave0 h0 h3 hT rfl _ (by first | exact .inr rfl | exact .inl rfl)
          | true =>
            rw [show doesT ⟨S, Q, p, o, u, true, ov⟩ 3 3 i = ⟨(u :: S), Q, (IntKind.i64.wrap (p - 1)), o, u, true, ov⟩ from by simp [doesT, headOff, hz']]
            refine ⟨(upd (.int .i64 u) (.v (.bool true)) R), N, hR.add _, hN, callW_own (c := c18) rfl rfl 0 ?_⟩
            rw [v_app, v_len]
            simp only [c18, start, List.replicate, c18_0, c18_1, c18_2, c18_3, c18_4, c18_5, c18_6, c18_7, c18_8, c18_9, c18_10, c18_11, c18_12, c18_13, c18_14, c18_15, c18_16, c18_17, c18_18, c18_19, c18_20, cl, v_bx, v_ld4, v_ld5, v_ld6, v_ld8, v_ld9, v_l0, v_l1, v_l2, v_l4, v_st6, v_st7, v_st8, v_st9, v_st10, v_clr, v_up1, v_up2, ap, x_region_ap, apR_t, e_clrmap, e_mapupd, pick_und, Int.reduceBEq, run_nil, run_cons, stp_plain, stp_guard, put_some, pass_eq, pick_tt, pick_ff, pick_tf, pick_ft, pick_u, reg_some, thn_normal, thn_exit, thn_ret, cnd_t, cnd_f, blk_normal, blk_ret, blk_exit, x_seq, x_region, x_cond, x_block, x_loop, x_ret, x_exit, x_skip, e_mov, e_pick, pk_t, pk_f, withH_some, e_box, e_load, e_store, stH_some, e_nil, e_bin, e_eqv, eqH_f, eqH_t, e_un, e_fa, e_ia, ia_eq, nat_eq, natV_nat, e_len, lnH_some, e_extract, ex_0, ex_1, e_call0, e_call1, e_call2, e_call3, pc0_eq, pc1_some, pc2_some, pc3_some, fin_some, g_var0, g_vars, g_loc0, g_locs, g_int, g_bool, g_str, g_sl, s_none, s_zero, s_succ, cl_nil, cl_str, cl_bool, cl_slc, cl_own, evFa, evNil, asEl, evBin, intBin, strBin, evUn, len_nil, len_slc, len_str, clr, List.length_nil, List.length_cons, List.getElem?_cons_zero, List.getElem?_cons_succ, Nat.reduceAdd, Nat.zero_add, Nat.add_zero, Nat.reduceLeDiff, Nat.reduceSub, ↓reduceIte, List.drop_succ_cons, List.drop_zero, List.take_succ_cons, List.take_zero, Bool.false_eq_true, List.nil_append, List.cons_append, Bool.not_true, Bool.not_false, cond_true, cond_false, bne, lv_ret, lv_normal, res1, res2, lv2_some, res_var, res_cell, lvf_v, lvf_slc, res1c, lvo1_some, e_mm, mm_max, mm_min, cl_agg, cl_int, g_agg, e_callv1, cv1_fn, e_slice2, e_clrrow, e_callf2, pick_und, cells_agg, Option.map_some, Option.map_none, hz]
            exact v_leave0 h0 h3 hT rfl _ (by first | exact .inr rfl | exact .inl rfl)
        · have hz : (IntKind.i64.wrap (p - 1) == 0) = false := by simp [hz']
          cases hd with
          | false =>
            rw [show doesT ⟨S, Q, p, o, u, false, ov⟩ 3 3 i = ⟨S, Q, (IntKind.i64.wrap (p - 1)), o, u, false, ov⟩ from by simp [doesT, headOff, hz']]
            refine ⟨R, N, hR, hN, callW_own (c := c18) rfl rfl 0 ?_⟩
            rw [v_app, v_len]
            simp only [c18, start, List.replicate, c18_0, c18_1, c18_2, c18_3, c18_4, c18_5, c18_6, c18_7, c18_8, c18_9, c18_10, c18_11, c18_12, c18_13, c18_14, c18_15, c18_16, c18_17, c18_18, c18_19, c18_20, cl, v_bx, v_ld4, v_ld5, v_ld6, v_ld8, v_ld9, v_l0, v_l1, v_l2, v_l4, v_st6, v_st7, v_st8, v_st9, v_st10, v_clr, v_up1, v_up2, ap, x_region_ap, apR_t, e_clrmap, e_mapupd, pick_und, Int.reduceBEq, run_nil, run_cons, stp_plain, stp_guard, put_some, pass_eq, pick_tt, pick_ff, pick_tf, pick_ft, pick_u, reg_some, thn_normal, thn_exit, thn_ret, cnd_t, cnd_f, blk_normal, blk_ret, blk_exit, x_seq, x_region, x_cond, x_block, x_loop, x_ret, x_exit, x_skip, e_mov, e_pick, pk_t, pk_f, withH_some, e_box, e_load, e_store, stH_some, e_nil, e_bin, e_eqv, eqH_f, eqH_t, e_un, e_fa, e_ia, ia_eq, nat_eq, natV_nat, e_len, lnH_some, e_extract, ex_0, ex_1, e_call0, e_call1, e_call2, e_call3, pc0_eq, pc1_some, pc2_some, pc3_some, fin_some, g_var0, g_vars, g_loc0, g_locs, g_int, g_bool, g_str, g_sl, s_none, s_zero, s_succ, cl_nil, cl_str, cl_bool, cl_slc, cl_own, evFa, evNil, asEl, evBin, intBin, strBin, evUn, len_nil, len_slc, len_str, clr, List.length_nil, List.length_cons, List.getElem?_cons_zero, List.getElem?_cons_succ, Nat.reduceAdd, Nat.zero_add, Nat.add_zero, Nat.reduceLeDiff, Nat.reduceSub, ↓reduceIte, List.drop_succ_cons, List.drop_zero, List.take_succ_cons, List.take_zero, Bool.false_eq_true, List.nil_append, List.cons_append, Bool.not_true, Bool.not_false, cond_true, cond_false, bne, lv_ret, lv_normal, res1, res2, lv2_some, res_var, res_cell, lvf_v, lvf_slc, res1c, lvo1_some, e_mm, mm_max, mm_min, cl_agg, cl_int, g_agg, e_callv1, cv1_fn, e_slice2, e_clrrow, e_callf2, pick_und, cells_agg, Option.map_some, Option.map_none, hz]
            exact v_leave0 h0 h3 hT rfl _ (by first | exact .inr rfl | exact .inl rfl)
          | true =>
            rw [show doesT ⟨S, Q, p, o, u, true, ov⟩ 3 3 i = ⟨S, Q, (IntKind.i64.wrap (p - 1)), o, u, true, ov⟩ from by simp [doesT, headOff, hz']]
            refine ⟨R, N, hR, hN, callW_own (c := c18) rfl rfl 0 ?_⟩
            rw [v_app, v_len]
            simp only [c18, start, List.replicate, c18_0, c18_1, c18_2, c18_3, c18_4, c18_5, c18_6, c18_7, c18_8, c18_9, c18_10, c18_11, c18_12, c18_13, c18_14, c18_15, c18_16, c18_17, c18_18, c18_19, c18_20, cl, v_bx, v_ld4, v_ld5, v_ld6, v_ld8, v_ld9, v_l0, v_l1, v_l2, v_l4, v_st6, v_st7, v_st8, v_st9, v_st10, v_clr, v_up1, v_up2, ap, x_region_ap, apR_t, e_clrmap, e_mapupd, pick_und, Int.reduceBEq, run_nil, run_cons, stp_plain, stp_guard, put_some, pass_eq, pick_tt, pick_ff, pick_tf, pick_ft, pick_u, reg_some, thn_normal, thn_exit, thn_ret, cnd_t, cnd_f, blk_normal, blk_ret, blk_exit, x_seq, x_region, x_cond, x_block, x_loop, x_ret, x_exit, x_skip, e_mov, e_pick, pk_t, pk_f, withH_some, e_box, e_load, e_store, stH_some, e_nil, e_bin, e_eqv, eqH_f, eqH_t, e_un, e_fa, e_ia, ia_eq, nat_eq, natV_nat, e_len, lnH_some, e_extract, ex_0, ex_1, e_call0, e_call1, e_call2, e_call3, pc0_eq, pc1_some, pc2_some, pc3_some, fin_some, g_var0, g_vars, g_loc0, g_locs, g_int, g_bool, g_str, g_sl, s_none, s_zero, s_succ, cl_nil, cl_str, cl_bool, cl_slc, cl_own, evFa, evNil, asEl, evBin, intBin, strBin, evUn, len_nil, len_slc, len_str, clr, List.length_nil, List.length_cons, List.getElem?_cons_zero, List.getElem?_cons_succ, Nat.reduceAdd, Nat.zero_add, Nat.add_zero, Nat.reduceLeDiff, Nat.reduceSub, ↓reduceIte, List.drop_succ_cons, List.drop_zero, List.take_succ_cons, List.take_zero, Bool.false_eq_true, List.nil_append, List.cons_append, Bool.not_true, Bool.not_false, cond_true, cond_false, bne, lv_ret, lv_normal, res1, res2, lv2_some, res_var, res_cell, lvf_v, lvf_slc, res1c, lvo1_some, e_mm, mm_max, mm_min, cl_agg, cl_int, g_agg, e_callv1, cv1_fn, e_slice2, e_clrrow, e_callf2, pick_und, cells_agg, Option.map_some, Option.map_none, hz]
            exact v_leave0 h0 h3 hT rfl _ (by first | exact .inr rfl | exact .inl rfl)
      · by_cases hz' : IntKind.i64.wrap (p - 1) = 0
        · have hz : (IntKind.i64.wrap (p - 1) == 0) = true := by simp [hz']
          cases hd with
          | false =>
            rw [show doesT ⟨S, Q, p, o, u, false, ov⟩ 3 4 i = ⟨(u :: S), Q, (IntKind.i64.wrap (p - 1)), o, u, false, ov⟩ from by simp [doesT, headOff, hz']]
            refine ⟨(upd (.int .i64 u) (.v (.bool true)) R), N, hR.add _, hN, callW_own (c := c18) rfl rfl 0 ?_⟩
            rw [v_app, v_len]
            simp only [c18, start, List.replicate, c18_0, c18_1, c18_2, c18_3, c18_4, c18_5, c18_6, c18_7, c18_8, c18_9, c18_10, c18_11, c18_12, c18_13, c18_14, c18_15, c18_16, c18_17, c18_18, c18_19, c18_20, cl, v_bx, v_ld4, v_ld5, v_ld6, v_ld8, v_ld9, v_l0, v_l1, v_l2, v_l4, v_st6, v_st7, v_st8, v_st9, v_st10, v_clr, v_up1, v_up2, ap, x_region_ap, apR_t, e_clrmap, e_mapupd, pick_und, Int.reduceBEq, run_nil, run_cons, stp_plain, stp_guard, put_some, pass_eq, pick_tt, pick_ff, pick_tf, pick_ft, pick_u, reg_some, thn_normal, thn_exit, thn_ret, cnd_t, cnd_f, blk_normal, blk_ret, blk_exit, x_seq, x_region, x_cond, x_block, x_loop, x_ret, x_exit, x_skip, e_mov, e_pick, pk_t, pk_f, withH_some, e_box, e_load, e_store, stH_some, e_nil, e_bin, e_eqv, eqH_f, eqH_t, e_un, e_fa, e_ia, ia_eq, nat_eq, natV_nat, e_len, lnH_some, e_extract, ex_0, ex_1, e_call0, e_call1, e_call2, e_call3, pc0_eq, pc1_some, pc2_some, pc3_some, fin_some, g_var0, g_vars, g_loc0, g_locs, g_int, g_bool, g_str, g_sl, s_none, s_zero, s_succ, cl_nil, cl_str, cl_bool, cl_slc, cl_own, evFa, evNil, asEl, evBin, intBin, strBin, evUn, len_nil, len_slc, len_str, clr, List.length_nil, List.length_cons, List.getElem?_cons_zero, List.getElem?_cons_succ, Nat.reduceAdd, Nat.zero_add, Nat.add_zero, Nat.reduceLeDiff, Nat.reduceSub, ↓reduceIte, List.drop_succ_cons, List.drop_zero, List.take_succ_cons, List.take_zero, Bool.false_eq_true, List.nil_append, List.cons_append, Bool.not_true, Bool.not_false, cond_true, cond_false, bne, lv_ret, lv_normal, res1, res2, lv2_some, res_var, res_cell, lvf_v, lvf_slc, res1c, lvo1_some, e_mm, mm_max, mm_min, cl_agg, cl_int, g_agg, e_callv1, cv1_fn, e_slice2, e_clrrow, e_callf2, pick_und, cells_agg, Option.map_some, Option.map_none, hz]
            exact v_leave0 h0 h3 hT rfl _ (by first | exact .inr rfl | exact .inl rfl)
          | true =>
            rw [show doesT ⟨S, Q, p, o, u, true, ov⟩ 3 4 i = ⟨(u :: S), Q, (IntKind.i64.wrap (p - 1)), o, u, true, ov⟩ from by simp [doesT, headOff, hz']]
            refine ⟨(upd (.int .i64 u) (.v (.bool true)) R), N, hR.add _, hN, callW_own (c := c18) rfl rfl 0 ?_⟩
            rw [v_app, v_len]
            simp only [c18, start, List.replicate, c18_0, c18_1, c18_2, c18_3, c18_4, c18_5, c18_6, c18_7, c18_8, c18_9, c18_10, c18_11, c18_12, c18_13, c18_14, c18_15, c18_16, c18_17, c18_18, c18_19, c18_20, cl, v_bx, v_ld4, v_ld5, v_ld6, v_ld8, v_ld9, v_l0, v_l1, v_l2, v_l4, v_st6, v_st7, v_st8, v_st9, v_st10, v_clr, v_up1, v_up2, ap, x_region_ap, apR_t, e_clrmap, e_mapupd, pick_und, Int.reduceBEq, run_nil, run_cons, stp_plain, stp_guard, put_some, pass_eq, pick_tt, pick_ff, pick_tf, pick_ft, pick_u, reg_some, thn_normal, thn_exit, thn_ret, cnd_t, cnd_f, blk_normal, blk_ret, blk_exit, x_seq, x_region, x_cond, x_block, x_loop, x_ret, x_exit, x_skip, e_mov, e_pick, pk_t, pk_f, withH_some, e_box, e_load, e_store, stH_some, e_nil, e_bin, e_eqv, eqH_f, eqH_t, e_un, e_fa, e_ia, ia_eq, nat_eq, natV_nat, e_len, lnH_some, e_extract, ex_0, ex_1, e_call0, e_call1, e_call2, e_call3, pc0_eq, pc1_some, pc2_some, pc3_some, fin_some, g_var0, g_vars, g_loc0, g_locs, g_int, g_bool, g_str, g_sl, s_none, s_zero, s_succ, cl_nil, cl_str, cl_bool, cl_slc, cl_own, evFa, evNil, asEl, evBin, intBin, strBin, evUn, len_nil, len_slc, len_str, clr, List.length_nil, List.length_cons, List.getElem?_cons_zero, List.getElem?_cons_succ, Nat.reduceAdd, Nat.zero_add, Nat.add_zero, Nat.reduceLeDiff, Nat.reduceSub, ↓reduceIte, List.drop_succ_cons, List.drop_zero, List.take_succ_cons, List.take_zero, Bool.false_eq_true, List.nil_append, List.cons_append, Bool.not_true, Bool.not_false, cond_true, cond_false, bne, lv_ret, lv_normal, res1, res2, lv2_some, res_var, res_cell, lvf_v, lvf_slc, res1c, lvo1_some, e_mm, mm_max, mm_min, cl_agg, cl_int, g_agg, e_callv1, cv1_fn, e_slice2, e_clrrow, e_callf2, pick_und, cells_agg, Option.map_some, Option.map_none, hz]
            exact v_leave0 h0 h3 hT rfl _ (by first | exact .inr rfl | exact .inl rfl)
        · have hz : (IntKind.i64.wrap (p - 1) == 0) = false := by simp [hz']
          cases hd with
          | false =>
            rw [show doesT ⟨S, Q, p, o, u, false, ov⟩ 3 4 i = ⟨S, Q, (IntKind.i64.wrap (p - 1)), o, u, false, ov⟩ from by simp [doesT, headOff, hz']]
            refine ⟨R, N, hR, hN, callW_own (c := c18) rfl rfl 0 ?_⟩
            rw [v_app, v_len]
            simp only [c18, start, List.replicate, c18_0, c18_1, c18_2, c18_3, c18_4, c18_5, c18_6, c18_7, c18_8, c18_9, c18_10, c18_11, c18_12, c18_13, c18_14, c18_15, c18_16, c18_17, c18_18, c18_19, c18_20, cl, v_bx, v_ld4, v_ld5, v_ld6, v_ld8, v_ld9, v_l0, v_l1, v_l2, v_l4, v_st6, v_st7, v_st8, v_st9, v_st10, v_clr, v_up1, v_up2, ap, x_region_ap, apR_t, e_clrmap, e_mapupd, pick_und, Int.reduceBEq, run_nil, run_cons, stp_plain, stp_guard, put_some, pass_eq, pick_tt, pick_ff, pick_tf, pick_ft, pick_u, reg_some, thn_normal, thn_exit, thn_ret, cnd_t, cnd_f, blk_normal, blk_ret, blk_exit, x_seq, x_region, x_cond, x_block, x_loop, x_ret, x_exit, x_skip, e_mov, e_pick, pk_t, pk_f, withH_some, e_box, e_load, e_store, stH_some, e_nil, e_bin, e_eqv, eqH_f, eqH_t, e_un, e_fa, e_ia, ia_eq, nat_eq, natV_nat, e_len, lnH_some, e_extract, ex_0, ex_1, e_call0, e_call1, e_call2, e_call3, pc0_eq, pc1_some, pc2_some, pc3_some, fin_some, g_var0, g_vars, g_loc0, g_locs, g_int, g_bool, g_str, g_sl, s_none, s_zero, s_succ, cl_nil, cl_str, cl_bool, cl_slc, cl_own, evFa, evNil, asEl, evBin, intBin, strBin, evUn, len_nil, len_slc, len_str, clr, List.length_nil, List.length_cons, List.getElem?_cons_zero, List.getElem?_cons_succ, Nat.reduceAdd, Nat.zero_add, Nat.add_zero, Nat.reduceLeDiff, Nat.reduceSub, ↓reduceIte, List.drop_succ_cons, List.drop_zero, List.take_succ_cons, List.take_zero, Bool.false_eq_true, List.nil_append, List.cons_append, Bool.not_true, Bool.not_false, cond_true, cond_false, bne, lv_ret, lv_normal, res1, res2, lv2_some, res_var, res_cell, lvf_v, lvf_slc, res1c, lvo1_some, e_mm, mm_max, mm_min, cl_agg, cl_int, g_agg, e_callv1, cv1_fn, e_slice2, e_clrrow, e_callf2, pick_und, cells_agg, Option.map_some, Option.map_none, hz]
            exact v_leave0 h0 h3 hT rfl _ (by first | exact .inr rfl | exact .inl rfl)
          | true =>
            rw [show doesT ⟨S, Q, p, o, u, true, ov⟩ 3 4 i = ⟨S, Q, (IntKind.i64.wrap (p - 1)), o, u, true, ov⟩ from by simp [doesT, headOff, hz']]
            refine ⟨R, N, hR, hN, callW_own (c := c18) rfl rfl 0 ?_⟩
            rw [v_app, v_len]
            simp only [c18, start, List.replicate, c18_0, c18_1, c18_2, c18_3, c18_4, c18_5, c18_6, c18_7, c18_8, c18_9, c18_10, c18_11, c18_12, c18_13, c18_14, c18_15, c18_16, c18_17, c18_18, c18_19, c18_20, cl, v_bx, v_ld4, v_ld5, v_ld6, v_ld8, v_ld9, v_l0, v_l1, v_l2, v_l4, v_st6, v_st7, v_st8, v_st9, v_st10, v_clr, v_up1, v_up2, ap, x_region_ap, apR_t, e_clrmap, e_mapupd, pick_und, Int.reduceBEq, run_nil, run_cons, stp_plain, stp_guard, put_some, pass_eq, pick_tt, pick_ff, pick_tf, pick_ft, pick_u, reg_some, thn_normal, thn_exit, thn_ret, cnd_t, cnd_f, blk_normal, blk_ret, blk_exit, x_seq, x_region, x_cond, x_block, x_loop, x_ret, x_exit, x_skip, e_mov, e_pick, pk_t, pk_f, withH_some, e_box, e_load, e_store, stH_some, e_nil, e_bin, e_eqv, eqH_f, eqH_t, e_un, e_fa, e_ia, ia_eq, nat_eq, natV_nat, e_len, lnH_some, e_extract, ex_0, ex_1, e_call0, e_call1, e_call2, e_call3, pc0_eq, pc1_some, pc2_some, pc3_some, fin_some, g_var0, g_vars, g_loc0, g_locs, g_int, g_bool, g_str, g_sl, s_none, s_zero, s_succ, cl_nil, cl_str, cl_bool, cl_slc, cl_own, evFa, evNil, asEl, evBin, intBin, strBin, evUn, len_nil, len_slc, len_str, clr, List.length_nil, List.length_cons, List.getElem?_cons_zero, List.getElem?_cons_succ, Nat.reduceAdd, Nat.zero_add, Nat.add_zero, Nat.reduceLeDiff, Nat.reduceSub, ↓reduceIte, List.drop_succ_cons, List.drop_zero, List.take_succ_cons, List.take_zero, Bool.false_eq_true, List.nil_append, List.cons_append, Bool.not_true, Bool.not_false, cond_true, cond_false, bne, lv_ret, lv_normal, res1, res2, lv2_some, res_var, res_cell, lvf_v, lvf_slc, res1c, lvo1_some, e_mm, mm_max, mm_min, cl_agg, cl_int, g_agg, e_callv1, cv1_fn, e_slice2, e_clrrow, e_callf2, pick_und, cells_agg, Option.map_some, Option.map_none, hz]
            exact v_leave0 h0 h3 hT rfl _ (by first | exact .inr rfl | exact .inl rfl)
end
end Go.AE.YtchiacliefahdaaDoor
end

/-! Check, with all that it calls. -/
section
set_option linter.unusedVariables false
set_option linter.unusedSimpArgs false
namespace Go.AE.YtchiacliefahdaaDoor
open Go Go.AE Go.Proofs.YtchiacliefahdaaDoor

/-- whether a text may be an atom's -/
def charT (s : ByteArray) : Bool := decide ((s.size : Int) ≤ 255) && Lib.validD s.data.toList
theorem char_ok (s : ByteArray) : callW F 14 [.v (.string s)] [] = some (.v (.bool (charT s)), []) := by
  refine callW_pure (c := c14) rfl rfl 0 ?_
  have ln : ∀ h : List AO, evLen h .string (.v (.string s)) = some s.size := fun _ => rfl
  cases h1 : decide ((s.size : Int) ≤ 255) with
  | false => simp only [charT, c14, start, List.replicate, c14_0, c14_1, ln, h1, pick_und, Bool.false_and, run_nil, run_cons, stp_plain, stp_guard, put_some, pass_eq, pick_tt, pick_ff, pick_tf, pick_ft, pick_u, reg_some, thn_normal, thn_exit, thn_ret, cnd_t, cnd_f, blk_normal, blk_ret, blk_exit, x_seq, x_region, x_cond, x_block, x_loop, x_ret, x_exit, x_skip, e_mov, e_pick, pk_t, pk_f, withH_some, e_box, e_load, e_store, stH_some, e_nil, e_bin, e_eqv, eqH_f, eqH_t, e_un, e_fa, e_ia, ia_eq, nat_eq, natV_nat, e_len, lnH_some, e_extract, ex_0, ex_1, e_call0, e_call1, e_call2, e_call3, pc0_eq, pc1_some, pc2_some, pc3_some, fin_some, g_var0, g_vars, g_loc0, g_locs, g_int, g_bool, g_str, g_sl, s_none, s_zero, s_succ, cl_nil, cl_str, cl_bool, cl_slc, cl_own, evFa, evNil, asEl, evBin, intBin, strBin, evUn, len_nil, len_slc, len_str, clr, List.length_nil, List.length_cons, List.getElem?_cons_zero, List.getElem?_cons_succ, Nat.reduceAdd, Nat.zero_add, Nat.add_zero, Nat.reduceLeDiff, Nat.reduceSub, ↓reduceIte, List.drop_succ_cons, List.drop_zero, List.take_succ_cons, List.take_zero, Bool.false_eq_true, List.nil_append, List.cons_append, Bool.not_true, Bool.not_false, cond_true, cond_false, bne, lv_ret, lv_normal, res1, res2, lv2_some, res_var, res_cell, lvf_v, lvf_slc, res1c, lvo1_some, e_mm, mm_max, mm_min, cl_agg, cl_int, g_agg, e_callv1, cv1_fn, e_slice2, e_clrrow, e_callf2, pick_und, cells_agg, Option.map_some, Option.map_none]
  | true =>
    have hs : s.size ≤ 9223372036854775807 := by simp at h1; omega
    have hv : callW F 34 [.v (.string s)] [] = some (.v (.bool (Lib.validD s.data.toList)), []) := by
      refine callW_iff.2 ⟨1, ?_⟩
      have : F 34 = some (.oracle validG) := rfl
      simp only [callN, this, validG, if_pos hs]
    have sn : ∀ h : List AO, (AV.v (.string s)).snap1 h = some (.v (.string s)) := fun _ => rfl
    simp only [charT, c14, start, List.replicate, c14_0, c14_1, ln, h1, hv, sn, pick_und, Bool.true_and, run_nil, run_cons, stp_plain, stp_guard, put_some, pass_eq, pick_tt, pick_ff, pick_tf, pick_ft, pick_u, reg_some, thn_normal, thn_exit, thn_ret, cnd_t, cnd_f, blk_normal, blk_ret, blk_exit, x_seq, x_region, x_cond, x_block, x_loop, x_ret, x_exit, x_skip, e_mov, e_pick, pk_t, pk_f, withH_some, e_box, e_load, e_store, stH_some, e_nil, e_bin, e_eqv, eqH_f, eqH_t, e_un, e_fa, e_ia, ia_eq, nat_eq, natV_nat, e_len, lnH_some, e_extract, ex_0, ex_1, e_call0, e_call1, e_call2, e_call3, pc0_eq, pc1_some, pc2_some, pc3_some, fin_some, g_var0, g_vars, g_loc0, g_locs, g_int, g_bool, g_str, g_sl, s_none, s_zero, s_succ, cl_nil, cl_str, cl_bool, cl_slc, cl_own, evFa, evNil, asEl, evBin, intBin, strBin, evUn, len_nil, len_slc, len_str, clr, List.length_nil, List.length_cons, List.getElem?_cons_zero, List.getElem?_cons_succ, Nat.reduceAdd, Nat.zero_add, Nat.add_zero, Nat.reduceLeDiff, Nat.reduceSub, ↓reduceIte, List.drop_succ_cons, List.drop_zero, List.take_succ_cons, List.take_zero, Bool.false_eq_true, List.nil_append, List.cons_append, Bool.not_true, Bool.not_false, cond_true, cond_false, bne, lv_ret, lv_normal, res1, res2, lv2_some, res_var, res_cell, lvf_v, lvf_slc, res1c, lvo1_some, e_mm, mm_max, mm_min, cl_agg, cl_int, g_agg, e_callv1, cv1_fn, e_slice2, e_clrrow, e_callf2, pick_und, cells_agg, Option.map_some, Option.map_none]
theorem rowT_bd (op : Int) : (0 ≤ (rowT op).1 ∧ (rowT op).1 ≤ 4) ∧ (0 ≤ (rowT op).2.1 ∧ (rowT op).2.1 ≤ 4) := by
  unfold rowT
  split
  · exact ⟨⟨by decide, by decide⟩, by decide, by decide⟩
  · split
    · refine ⟨⟨?_, ?_⟩, ?_, ?_⟩ <;> dsimp only <;> omega
    · refine ⟨⟨?_, ?_⟩, ?_, ?_⟩ <;> dsimp only <;> omega
/-- one instruction: no, or what is known behind it -/
def stepT (vs : Int) (s : VS) (i : In) : Option VS :=
  if (rowT i.op).2.2 && (!s.over && (charT i.nm && (standsT s.regs s.parts s.of s.head (rowT i.op).1 (rowT i.op).2.1 i && wholeT s.regs s.known vs s.head (rowT i.op).1 (rowT i.op).2.1 i))) then some (doesT s (rowT i.op).1 (rowT i.op).2.1 i) else none
def runT (vs : Int) : Nat → VS → List In → Int × Int
  | n, s, [] => if s.over then (0, 0) else (n, 150)
  | n, s, i :: l => match stepT vs s i with
    | none => (n, 150)
    | some s' => runT vs (n + 1) s' l
def upTo (n : Nat) : List Int := ((List.range n).map fun (i : Nat) => (i : Int)).reverse
theorem upTo_succ (n : Nat) : upTo (n + 1) = (n : Int) :: upTo n := by simp [upTo, List.range_succ]
def beginT (ar : Int) : VS := ⟨upTo ar.toNat, [], 0, 0, 0, true, false⟩
def okT (nm : ByteArray) (ar vs : Int) : Bool := !(decide (ar < 0) || (decide (ar > 16) || (decide (vs < 0) || !(charT nm))))
def checkT (nm : ByteArray) (ar vs : Int) (l : List In) : Int × Int := if okT nm ar vs then runT vs 0 (beginT ar) l else (0, 150)

def K9a : List Bool := [false, true, false, false, true, false, false, false, false, false, false, false, true, true, false, false, false, false, false, false, false]
def V9a (ar j : Int) (x5 x14 : AV) : List AV := [.junk, .ptr 0 0, .junk, .junk, .ptr 3 0, x5, .junk, .junk, .junk, .junk, .junk, .junk, .v (.int .i64 ar), .v (.int .i64 j), x14, .junk, .junk, .junk, .junk, .junk, .junk]
def K9b : List Bool := [false, true, false, false, true, false, false, false, false, false, false, false, false, false, false, true, true, true, false, false, false]
def V9b (c : AV) (len n : Int) : List AV := [.junk, .ptr 0 0, .junk, .junk, .ptr 3 0, .junk, .junk, .junk, .junk, .junk, .junk, .junk, .junk, .junk, .junk, c, .v (.int .i64 len), .v (.int .i64 n), .junk, .junk, .junk]
section
variable {c0 c3 : AV} {c1 c2 : Int}
theorem regs_loop {K n : Nat} (hn : n ≤ 16) (hK : n < K) {p o u : Int} {hd ov : Bool} (v : List AV) (hv : clr K9a v = V9a n 0 .junk .junk) :
    ∃ x5 R, Seen .i64 R (upTo n) ∧ loopN (exec (callW F) K c9_9) K9a K v (vH c0 c1 c2 c3 [] [] p o u hd ov []) = some (.exit 0, V9a n n x5 (.v (.bool false)), vH c0 c1 c2 c3 R [] p o u hd ov []) := by
  obtain ⟨e, v', h', g1, g2, g3⟩ := loop_rule0 (call := callW F) (K := K) (b := c9_9) (keep := K9a) (fun j v h' => v = V9a n j .junk .junk ∧ ∃ R, Seen .i64 R (upTo j) ∧ h' = vH c0 c1 c2 c3 R [] p o u hd ov [])
    (fun e v h' => e = .exit 0 ∧ (∃ x5, v = V9a n n x5 (.v (.bool false))) ∧ ∃ R, Seen .i64 R (upTo n) ∧ h' = vH c0 c1 c2 c3 R [] p o u hd ov []) n (m := K) (v := v) (h := vH c0 c1 c2 c3 [] [] p o u hd ov []) hK ⟨hv, [], Seen.nil _, rfl⟩ (by
      rintro j v h' hj ⟨rfl, R, hR, rfl⟩
      by_cases hjn : j < n
      · have hlt := lt_t hjn
        have hw := wrap_succ hjn (by have : maxLen = 9223372036854775807 := rfl; omega)
        refine ⟨.normal, V9a n ((j + 1 : Nat) : Int) (.v (.int .i64 j)) (.v (.bool true)), _, ?_, hjn, rfl, _, (by rw [upTo_succ]; exact hR.add _), rfl⟩
        simp only [V9a, c9_9, c9_5, c9_6, c9_7, c9_8, hlt, hw, v_ld4, v_up1, e_mapupd, run_nil, run_cons, stp_plain, stp_guard, put_some, pass_eq, pick_tt, pick_ff, pick_tf, pick_ft, pick_u, reg_some, thn_normal, thn_exit, thn_ret, cnd_t, cnd_f, blk_normal, blk_ret, blk_exit, x_seq, x_region, x_cond, x_block, x_loop, x_ret, x_exit, x_skip, e_mov, e_pick, pk_t, pk_f, withH_some, e_box, e_load, e_store, stH_some, e_nil, e_bin, e_eqv, eqH_f, eqH_t, e_un, e_fa, e_ia, ia_eq, nat_eq, natV_nat, e_len, lnH_some, e_extract, ex_0, ex_1, e_call0, e_call1, e_call2, e_call3, pc0_eq, pc1_some, pc2_some, pc3_some, fin_some, g_var0, g_vars, g_loc0, g_locs, g_int, g_bool, g_str, g_sl, s_none, s_zero, s_succ, cl_nil, cl_str, cl_bool, cl_slc, cl_own, evFa, evNil, asEl, evBin, intBin, strBin, evUn, len_nil, len_slc, len_str, clr, List.length_nil, List.length_cons, List.getElem?_cons_zero, List.getElem?_cons_succ, Nat.reduceAdd, Nat.zero_add, Nat.add_zero, Nat.reduceLeDiff, Nat.reduceSub, ↓reduceIte, List.drop_succ_cons, List.drop_zero, List.take_succ_cons, List.take_zero, Bool.false_eq_true, List.nil_append, List.cons_append, Bool.not_true, Bool.not_false, cond_true, cond_false, bne, lv_ret, lv_normal, res1, res2, lv2_some, res_var, res_cell, lvf_v, lvf_slc, res1c, lvo1_some, e_mm, mm_max, mm_min, cl_agg, cl_int, g_agg, e_callv1, cv1_fn, e_slice2, e_clrrow, e_callf2, pick_und, cells_agg, Option.map_some, Option.map_none]
      · have hje : j = n := by omega
        subst hje
        have hlt := lt_f (n := j)
        refine ⟨.exit 0, V9a j j .junk (.v (.bool false)), _, ?_, rfl, ⟨_, rfl⟩, R, hR, rfl⟩
        simp only [V9a, c9_9, c9_5, hlt, run_nil, run_cons, stp_plain, stp_guard, put_some, pass_eq, pick_tt, pick_ff, pick_tf, pick_ft, pick_u, reg_some, thn_normal, thn_exit, thn_ret, cnd_t, cnd_f, blk_normal, blk_ret, blk_exit, x_seq, x_region, x_cond, x_block, x_loop, x_ret, x_exit, x_skip, e_mov, e_pick, pk_t, pk_f, withH_some, e_box, e_load, e_store, stH_some, e_nil, e_bin, e_eqv, eqH_f, eqH_t, e_un, e_fa, e_ia, ia_eq, nat_eq, natV_nat, e_len, lnH_some, e_extract, ex_0, ex_1, e_call0, e_call1, e_call2, e_call3, pc0_eq, pc1_some, pc2_some, pc3_some, fin_some, g_var0, g_vars, g_loc0, g_locs, g_int, g_bool, g_str, g_sl, s_none, s_zero, s_succ, cl_nil, cl_str, cl_bool, cl_slc, cl_own, evFa, evNil, asEl, evBin, intBin, strBin, evUn, len_nil, len_slc, len_str, clr, List.length_nil, List.length_cons, List.getElem?_cons_zero, List.getElem?_cons_succ, Nat.reduceAdd, Nat.zero_add, Nat.add_zero, Nat.reduceLeDiff, Nat.reduceSub, ↓reduceIte, List.drop_succ_cons, List.drop_zero, List.take_succ_cons, List.take_zero, Bool.false_eq_true, List.nil_append, List.cons_append, Bool.not_true, Bool.not_false, cond_true, cond_false, bne, lv_ret, lv_normal, res1, res2, lv2_some, res_var, res_cell, lvf_v, lvf_slc, res1c, lvo1_some, e_mm, mm_max, mm_min, cl_agg, cl_int, g_agg, e_callv1, cv1_fn, e_slice2, e_clrrow, e_callf2, pick_und, cells_agg, Option.map_some, Option.map_none])
  obtain ⟨rfl, ⟨x5, rfl⟩, R, hR, rfl⟩ := g3
  exact ⟨x5, R, hR, g1⟩
theorem all_box {T : List AO} {i : In} (hT : T.all (AO.below 0) = true) : (T ++ [AO.box (inC i)]).all (AO.below 0) = true := by
  rw [List.all_append, hT]; rfl
theorem check_loop (h0 : c0.below1 0 = true) (h3 : c3.below1 0 = true) {K : Nat} {c : AV} {l : List In} {es : List AV} (hs : Sl 5 c es) (hes : AllR IsIn es l) (hm : l.length ≤ maxLen) (hK : l.length < K) {R N : List (Value × AV)} {s : VS} (hR : Seen .i64 R s.regs) (hN : Seen .i64 N s.known) (v : List AV) (hv : clr K9b v = V9b c l.length 0) :
    ∃ e v' h', loopN (exec (callW F) K c9_18) K9b K v (vS c0 c1 c2 c3 R N s []) = some (e, v', h') ∧
      ((e = .ret ∧ getO v' [] (.var 2) = .v (.int .i64 (runT c2 0 s l).1) ∧ getO v' [] (.var 3) = .v (.int .i64 (runT c2 0 s l).2)) ∨
       (e = .exit 2 ∧ (∃ x18, v' = [.junk, .ptr 0 0, .junk, .junk, .ptr 3 0, .junk, .junk, .junk, .junk, .junk, .junk, .junk, .junk, .junk, .junk, c, .v (.int .i64 l.length), .v (.int .i64 l.length), x18, .junk, .junk]) ∧ ∃ R N s' T, h' = vS c0 c1 c2 c3 R N s' T ∧ runT c2 0 s l = if s'.over then (0, 0) else ((l.length : Int), 150))) := by
  obtain ⟨e, v', h', g1, g2, g3⟩ := loop_rule0 (call := callW F) (K := K) (b := c9_18) (keep := K9b) (fun n v h' => v = V9b c l.length n ∧ ∃ R N s' T, Seen .i64 R s'.regs ∧ Seen .i64 N s'.known ∧ T.all (AO.below 0) = true ∧ h' = vS c0 c1 c2 c3 R N s' T ∧ runT c2 0 s l = runT c2 n s' (l.drop n))
    (fun e v' h' => (e = .ret ∧ getO v' [] (.var 2) = .v (.int .i64 (runT c2 0 s l).1) ∧ getO v' [] (.var 3) = .v (.int .i64 (runT c2 0 s l).2)) ∨
       (e = .exit 2 ∧ (∃ x18, v' = [.junk, .ptr 0 0, .junk, .junk, .ptr 3 0, .junk, .junk, .junk, .junk, .junk, .junk, .junk, .junk, .junk, .junk, c, .v (.int .i64 l.length), .v (.int .i64 l.length), x18, .junk, .junk]) ∧ ∃ R N s' T, h' = vS c0 c1 c2 c3 R N s' T ∧ runT c2 0 s l = if s'.over then (0, 0) else ((l.length : Int), 150))) l.length (m := K) (v := v) (h := vS c0 c1 c2 c3 R N s []) hK ⟨hv, R, N, s, [], hR, hN, rfl, rfl, by simp⟩ (by
      rintro n v h' hn ⟨rfl, R, N, s', T, hR, hN, hT, rfl, hrun⟩
      by_cases hnl : n < l.length
      · have hlt := lt_t hnl
        have hw := wrap_succ hnl hm
        have hd : l.drop n = l[n] :: l.drop (n + 1) := List.drop_eq_getElem_cons hnl
        obtain ⟨x, hx⟩ : ∃ x, l[n]? = some x := ⟨_, List.getElem?_eq_getElem hnl⟩
        have hxe : l[n] = x := by rw [List.getElem?_eq_getElem hnl] at hx; exact Option.some.inj hx
        rw [hd, hxe] at hrun
        obtain ⟨e, he, hin⟩ := hes.get' hx
        have hei := hin.eq
        subst hei
        have q1 := fun h : List AO => hs.ia he h
        have q3 : ∀ h : List AO, evLoad h true 5 (.ip (inV x).cells) = some (inV x) := fun _ => rfl
        have z : (ofVal (.agg #[(.int .i64 0), (.int .i64 0), (.int .i64 0), (.string ⟨#[]⟩), (.int .i64 0)])).cl = some [.v (.int .i64 0), .v (.int .i64 0), .v (.int .i64 0), .v (.string ⟨#[]⟩), .v (.int .i64 0)] := by kernel_rfl
        have st := v_sti (c0 := c0) (c1 := c1) (c2 := c2) (c3 := c3) (R := R) (N := N) (p := s'.parts) (o := s'.of) (u := s'.under) (hd := s'.head) (ov := s'.over) (T := T) (i := x) (z := [.v (.int .i64 0), .v (.int .i64 0), .v (.int .i64 0), .v (.string ⟨#[]⟩), .v (.int .i64 0)]) rfl
        have hrow := row_ok x.op
        obtain ⟨hr, hk⟩ := rowT_bd x.op
        have hch := char_ok x.nm
        have sx : ∀ h : List AO, (AV.v (.string x.nm)).snap1 h = some (.v (.string x.nm)) := fun _ => rfl
        have so : ∀ h : List AO, (AV.v (.int .i64 x.op)).snap1 h = some (.v (.int .i64 x.op)) := fun _ => rfl
        have hT' := all_box (i := x) hT
        have hst := stands_ok (c0 := c0) (c1 := c1) (c2 := c2) (c3 := c3) (R := R) (N := N) (p := s'.parts) (o := s'.of) (u := s'.under) (hd := s'.head) (ov := s'.over) (k := (rowT x.op).2.1) h0 h3 hT' hR hr x
        have hwh := whole_ok (c0 := c0) (c1 := c1) (c2 := c2) (c3 := c3) (R := R) (N := N) (p := s'.parts) (o := s'.of) (u := s'.under) (hd := s'.head) (ov := s'.over) h0 h3 hT' hR hN hr hk x
        obtain ⟨R', N', hR', hN', hdo⟩ := does_ok (c0 := c0) (c1 := c1) (c2 := c2) (c3 := c3) h0 h3 hT' hR hN hr hk x
        have hstep : stepT c2 s' x = if (rowT x.op).2.2 && (!s'.over && (charT x.nm && (standsT s'.regs s'.parts s'.of s'.head (rowT x.op).1 (rowT x.op).2.1 x && wholeT s'.regs s'.known c2 s'.head (rowT x.op).1 (rowT x.op).2.1 x))) then some (doesT s' (rowT x.op).1 (rowT x.op).2.1 x) else none := rfl
        have hrun2 : runT c2 n s' (x :: l.drop (n + 1)) = match stepT c2 s' x with
          | none => ((n : Int), 150)
          | some s' => runT c2 (n + 1) s' (l.drop (n + 1)) := rfl
        have fa : ∀ (vars env : List AV), callW F 16 = callW F 16 := fun _ _ => rfl
        simp only [vS] at hdo ⊢
        generalize rowT x.op = rw at *
        obtain ⟨r, k, is⟩ := rw
        dsimp only at *
        have no : stepT c2 s' x = none → runT c2 0 s l = ((n : Int), 150) := fun h => by rw [hrun, hrun2, h]
        simp only [rowV] at hrow
        generalize hst0 : standsT s'.regs s'.parts s'.of s'.head r k x = bst at *
        generalize hwh0 : wholeT s'.regs s'.known c2 s'.head r k x = bwh at *
        generalize hch0 : charT x.nm = bch at *
        have ap := fun T => v_ld10 (c0 := c0) (c1 := c1) (c2 := c2) (c3 := c3) (R := R) (N := N) (p := s'.parts) (o := s'.of) (u := s'.under) (hd := s'.head) (ov := s'.over) (T := T)
        generalize hov : s'.over = ov at *
        by_cases good : (is && (!ov && (bch && (bst && bwh)))) = true
        · rw [if_pos good] at hstep
          simp only [Bool.and_eq_true, Bool.not_eq_true'] at good
          obtain ⟨rfl, rfl, rfl, rfl, rfl⟩ := good
          refine ⟨.normal, [.junk, .ptr 0 0, .junk, .junk, .ptr 3 0, .junk, .v (.int .i64 n), .ptr (T.length + 4) 0, .v (.int .i64 r), .v (.int .i64 k), .v (.bool true), .junk, .junk, .junk, .junk, c, .v (.int .i64 l.length), .v (.int .i64 ((n + 1 : Nat) : Int)), .v (.bool true), .v (.bool false), .junk], _, ?_, hnl, rfl, R', N', _, _, hR', hN', hT', rfl, by rw [hrun, hrun2, hstep]⟩
          simp only [V9b, c9_18, c9_11, c9_12, c9_13, c9_14, c9_16, c9_17, hlt, hw, q1, q3, z, v_bx, st, v_l0, v_l3, v_la, hrow, hch, sx, so, ap, hst, hwh, hdo, ex_2, e_callh, List.map_cons, List.map_nil, run_nil, run_cons, stp_plain, stp_guard, put_some, pass_eq, pick_tt, pick_ff, pick_tf, pick_ft, pick_u, reg_some, thn_normal, thn_exit, thn_ret, cnd_t, cnd_f, blk_normal, blk_ret, blk_exit, x_seq, x_region, x_cond, x_block, x_loop, x_ret, x_exit, x_skip, e_mov, e_pick, pk_t, pk_f, withH_some, e_box, e_load, e_store, stH_some, e_nil, e_bin, e_eqv, eqH_f, eqH_t, e_un, e_fa, e_ia, ia_eq, nat_eq, natV_nat, e_len, lnH_some, e_extract, ex_0, ex_1, e_call0, e_call1, e_call2, e_call3, pc0_eq, pc1_some, pc2_some, pc3_some, fin_some, g_var0, g_vars, g_loc0, g_locs, g_int, g_bool, g_str, g_sl, s_none, s_zero, s_succ, cl_nil, cl_str, cl_bool, cl_slc, cl_own, evFa, evNil, asEl, evBin, intBin, strBin, evUn, len_nil, len_slc, len_str, clr, List.length_nil, List.length_cons, List.getElem?_cons_zero, List.getElem?_cons_succ, Nat.reduceAdd, Nat.zero_add, Nat.add_zero, Nat.reduceLeDiff, Nat.reduceSub, ↓reduceIte, List.drop_succ_cons, List.drop_zero, List.take_succ_cons, List.take_zero, Bool.false_eq_true, List.nil_append, List.cons_append, Bool.not_true, Bool.not_false, cond_true, cond_false, bne, lv_ret, lv_normal, res1, res2, lv2_some, res_var, res_cell, lvf_v, lvf_slc, res1c, lvo1_some, e_mm, mm_max, mm_min, cl_agg, cl_int, g_agg, e_callv1, cv1_fn, e_slice2, e_clrrow, e_callf2, pick_und, cells_agg, Option.map_some, Option.map_none]
        · rw [if_neg good] at hstep
          have hno := no hstep
          simp only [Bool.not_eq_true] at good
          cases is with
          | false =>
            refine ⟨.ret, [.junk, .ptr 0 0, .v (.int .i64 n), .v (.int .i64 150), .ptr 3 0, .junk, .v (.int .i64 n), .ptr (T.length + 4) 0, .v (.int .i64 r), .v (.int .i64 k), .v (.bool false), .junk, .junk, .junk, .junk, c, .v (.int .i64 l.length), .v (.int .i64 n), .v (.bool true), .v (.bool true), .junk], vH c0 c1 c2 c3 R N s'.parts s'.of s'.under s'.head ov (T ++ [.box (inC x)]), ?_, .inl ⟨rfl, by rw [hno]; rfl, by rw [hno]; rfl⟩⟩
            simp only [V9b, c9_18, c9_11, c9_12, c9_13, c9_14, c9_15, hlt, hw, q1, q3, z, v_bx, st, v_l0, v_l3, v_la, hrow, hch, sx, so, ap, hst, hwh, ex_2, pick_und, e_callh, List.map_cons, List.map_nil, run_nil, run_cons, stp_plain, stp_guard, put_some, pass_eq, pick_tt, pick_ff, pick_tf, pick_ft, pick_u, reg_some, thn_normal, thn_exit, thn_ret, cnd_t, cnd_f, blk_normal, blk_ret, blk_exit, x_seq, x_region, x_cond, x_block, x_loop, x_ret, x_exit, x_skip, e_mov, e_pick, pk_t, pk_f, withH_some, e_box, e_load, e_store, stH_some, e_nil, e_bin, e_eqv, eqH_f, eqH_t, e_un, e_fa, e_ia, ia_eq, nat_eq, natV_nat, e_len, lnH_some, e_extract, ex_0, ex_1, e_call0, e_call1, e_call2, e_call3, pc0_eq, pc1_some, pc2_some, pc3_some, fin_some, g_var0, g_vars, g_loc0, g_locs, g_int, g_bool, g_str, g_sl, s_none, s_zero, s_succ, cl_nil, cl_str, cl_bool, cl_slc, cl_own, evFa, evNil, asEl, evBin, intBin, strBin, evUn, len_nil, len_slc, len_str, clr, List.length_nil, List.length_cons, List.getElem?_cons_zero, List.getElem?_cons_succ, Nat.reduceAdd, Nat.zero_add, Nat.add_zero, Nat.reduceLeDiff, Nat.reduceSub, ↓reduceIte, List.drop_succ_cons, List.drop_zero, List.take_succ_cons, List.take_zero, Bool.false_eq_true, List.nil_append, List.cons_append, Bool.not_true, Bool.not_false, cond_true, cond_false, bne, lv_ret, lv_normal, res1, res2, lv2_some, res_var, res_cell, lvf_v, lvf_slc, res1c, lvo1_some, e_mm, mm_max, mm_min, cl_agg, cl_int, g_agg, e_callv1, cv1_fn, e_slice2, e_clrrow, e_callf2, pick_und, cells_agg, Option.map_some, Option.map_none]
          | true =>
            cases ov with
            | true =>
              refine ⟨.ret, [.junk, .ptr 0 0, .v (.int .i64 n), .v (.int .i64 150), .ptr 3 0, .junk, .v (.int .i64 n), .ptr (T.length + 4) 0, .v (.int .i64 r), .v (.int .i64 k), .v (.bool true), .junk, .junk, .junk, .junk, c, .v (.int .i64 l.length), .v (.int .i64 n), .v (.bool true), .v (.bool true), .junk], vH c0 c1 c2 c3 R N s'.parts s'.of s'.under s'.head true (T ++ [.box (inC x)]), ?_, .inl ⟨rfl, by rw [hno]; rfl, by rw [hno]; rfl⟩⟩
              simp only [V9b, c9_18, c9_11, c9_12, c9_13, c9_14, c9_15, hlt, hw, q1, q3, z, v_bx, st, v_l0, v_l3, v_la, hrow, hch, sx, so, ap, hst, hwh, ex_2, pick_und, e_callh, List.map_cons, List.map_nil, run_nil, run_cons, stp_plain, stp_guard, put_some, pass_eq, pick_tt, pick_ff, pick_tf, pick_ft, pick_u, reg_some, thn_normal, thn_exit, thn_ret, cnd_t, cnd_f, blk_normal, blk_ret, blk_exit, x_seq, x_region, x_cond, x_block, x_loop, x_ret, x_exit, x_skip, e_mov, e_pick, pk_t, pk_f, withH_some, e_box, e_load, e_store, stH_some, e_nil, e_bin, e_eqv, eqH_f, eqH_t, e_un, e_fa, e_ia, ia_eq, nat_eq, natV_nat, e_len, lnH_some, e_extract, ex_0, ex_1, e_call0, e_call1, e_call2, e_call3, pc0_eq, pc1_some, pc2_some, pc3_some, fin_some, g_var0, g_vars, g_loc0, g_locs, g_int, g_bool, g_str, g_sl, s_none, s_zero, s_succ, cl_nil, cl_str, cl_bool, cl_slc, cl_own, evFa, evNil, asEl, evBin, intBin, strBin, evUn, len_nil, len_slc, len_str, clr, List.length_nil, List.length_cons, List.getElem?_cons_zero, List.getElem?_cons_succ, Nat.reduceAdd, Nat.zero_add, Nat.add_zero, Nat.reduceLeDiff, Nat.reduceSub, ↓reduceIte, List.drop_succ_cons, List.drop_zero, List.take_succ_cons, List.take_zero, Bool.false_eq_true, List.nil_append, List.cons_append, Bool.not_true, Bool.not_false, cond_true, cond_false, bne, lv_ret, lv_normal, res1, res2, lv2_some, res_var, res_cell, lvf_v, lvf_slc, res1c, lvo1_some, e_mm, mm_max, mm_min, cl_agg, cl_int, g_agg, e_callv1, cv1_fn, e_slice2, e_clrrow, e_callf2, pick_und, cells_agg, Option.map_some, Option.map_none]
            | false =>
              cases bch with
              | false =>
                refine ⟨.ret, [.junk, .ptr 0 0, .v (.int .i64 n), .v (.int .i64 150), .ptr 3 0, .junk, .v (.int .i64 n), .ptr (T.length + 4) 0, .v (.int .i64 r), .v (.int .i64 k), .v (.bool true), .junk, .junk, .junk, .junk, c, .v (.int .i64 l.length), .v (.int .i64 n), .v (.bool true), .v (.bool true), .junk], vH c0 c1 c2 c3 R N s'.parts s'.of s'.under s'.head false (T ++ [.box (inC x)]), ?_, .inl ⟨rfl, by rw [hno]; rfl, by rw [hno]; rfl⟩⟩
                simp only [V9b, c9_18, c9_11, c9_12, c9_13, c9_14, c9_15, hlt, hw, q1, q3, z, v_bx, st, v_l0, v_l3, v_la, hrow, hch, sx, so, ap, hst, hwh, ex_2, pick_und, e_callh, List.map_cons, List.map_nil, run_nil, run_cons, stp_plain, stp_guard, put_some, pass_eq, pick_tt, pick_ff, pick_tf, pick_ft, pick_u, reg_some, thn_normal, thn_exit, thn_ret, cnd_t, cnd_f, blk_normal, blk_ret, blk_exit, x_seq, x_region, x_cond, x_block, x_loop, x_ret, x_exit, x_skip, e_mov, e_pick, pk_t, pk_f, withH_some, e_box, e_load, e_store, stH_some, e_nil, e_bin, e_eqv, eqH_f, eqH_t, e_un, e_fa, e_ia, ia_eq, nat_eq, natV_nat, e_len, lnH_some, e_extract, ex_0, ex_1, e_call0, e_call1, e_call2, e_call3, pc0_eq, pc1_some, pc2_some, pc3_some, fin_some, g_var0, g_vars, g_loc0, g_locs, g_int, g_bool, g_str, g_sl, s_none, s_zero, s_succ, cl_nil, cl_str, cl_bool, cl_slc, cl_own, evFa, evNil, asEl, evBin, intBin, strBin, evUn, len_nil, len_slc, len_str, clr, List.length_nil, List.length_cons, List.getElem?_cons_zero, List.getElem?_cons_succ, Nat.reduceAdd, Nat.zero_add, Nat.add_zero, Nat.reduceLeDiff, Nat.reduceSub, ↓reduceIte, List.drop_succ_cons, List.drop_zero, List.take_succ_cons, List.take_zero, Bool.false_eq_true, List.nil_append, List.cons_append, Bool.not_true, Bool.not_false, cond_true, cond_false, bne, lv_ret, lv_normal, res1, res2, lv2_some, res_var, res_cell, lvf_v, lvf_slc, res1c, lvo1_some, e_mm, mm_max, mm_min, cl_agg, cl_int, g_agg, e_callv1, cv1_fn, e_slice2, e_clrrow, e_callf2, pick_und, cells_agg, Option.map_some, Option.map_none]
              | true =>
                cases bst with
                | false =>
                  refine ⟨.ret, [.junk, .ptr 0 0, .v (.int .i64 n), .v (.int .i64 150), .ptr 3 0, .junk, .v (.int .i64 n), .ptr (T.length + 4) 0, .v (.int .i64 r), .v (.int .i64 k), .v (.bool true), .junk, .junk, .junk, .junk, c, .v (.int .i64 l.length), .v (.int .i64 n), .v (.bool true), .v (.bool true), .junk], vH c0 c1 c2 c3 R N s'.parts s'.of s'.under s'.head false (T ++ [.box (inC x)]), ?_, .inl ⟨rfl, by rw [hno]; rfl, by rw [hno]; rfl⟩⟩
                  simp only [V9b, c9_18, c9_11, c9_12, c9_13, c9_14, c9_15, hlt, hw, q1, q3, z, v_bx, st, v_l0, v_l3, v_la, hrow, hch, sx, so, ap, hst, hwh, ex_2, pick_und, e_callh, List.map_cons, List.map_nil, run_nil, run_cons, stp_plain, stp_guard, put_some, pass_eq, pick_tt, pick_ff, pick_tf, pick_ft, pick_u, reg_some, thn_normal, thn_exit, thn_ret, cnd_t, cnd_f, blk_normal, blk_ret, blk_exit, x_seq, x_region, x_cond, x_block, x_loop, x_ret, x_exit, x_skip, e_mov, e_pick, pk_t, pk_f, withH_some, e_box, e_load, e_store, stH_some, e_nil, e_bin, e_eqv, eqH_f, eqH_t, e_un, e_fa, e_ia, ia_eq, nat_eq, natV_nat, e_len, lnH_some, e_extract, ex_0, ex_1, e_call0, e_call1, e_call2, e_call3, pc0_eq, pc1_some, pc2_some, pc3_some, fin_some, g_var0, g_vars, g_loc0, g_locs, g_int, g_bool, g_str, g_sl, s_none, s_zero, s_succ, cl_nil, cl_str, cl_bool, cl_slc, cl_own, evFa, evNil, asEl, evBin, intBin, strBin, evUn, len_nil, len_slc, len_str, clr, List.length_nil, List.length_cons, List.getElem?_cons_zero, List.getElem?_cons_succ, Nat.reduceAdd, Nat.zero_add, Nat.add_zero, Nat.reduceLeDiff, Nat.reduceSub, ↓reduceIte, List.drop_succ_cons, List.drop_zero, List.take_succ_cons, List.take_zero, Bool.false_eq_true, List.nil_append, List.cons_append, Bool.not_true, Bool.not_false, cond_true, cond_false, bne, lv_ret, lv_normal, res1, res2, lv2_some, res_var, res_cell, lvf_v, lvf_slc, res1c, lvo1_some, e_mm, mm_max, mm_min, cl_agg, cl_int, g_agg, e_callv1, cv1_fn, e_slice2, e_clrrow, e_callf2, pick_und, cells_agg, Option.map_some, Option.map_none]
                | true =>
                  cases bwh with
                  | false =>
                    refine ⟨.ret, [.junk, .ptr 0 0, .v (.int .i64 n), .v (.int .i64 150), .ptr 3 0, .junk, .v (.int .i64 n), .ptr (T.length + 4) 0, .v (.int .i64 r), .v (.int .i64 k), .v (.bool true), .junk, .junk, .junk, .junk, c, .v (.int .i64 l.length), .v (.int .i64 n), .v (.bool true), .v (.bool true), .junk], vH c0 c1 c2 c3 R N s'.parts s'.of s'.under s'.head false (T ++ [.box (inC x)]), ?_, .inl ⟨rfl, by rw [hno]; rfl, by rw [hno]; rfl⟩⟩
                    simp only [V9b, c9_18, c9_11, c9_12, c9_13, c9_14, c9_15, hlt, hw, q1, q3, z, v_bx, st, v_l0, v_l3, v_la, hrow, hch, sx, so, ap, hst, hwh, ex_2, pick_und, e_callh, List.map_cons, List.map_nil, run_nil, run_cons, stp_plain, stp_guard, put_some, pass_eq, pick_tt, pick_ff, pick_tf, pick_ft, pick_u, reg_some, thn_normal, thn_exit, thn_ret, cnd_t, cnd_f, blk_normal, blk_ret, blk_exit, x_seq, x_region, x_cond, x_block, x_loop, x_ret, x_exit, x_skip, e_mov, e_pick, pk_t, pk_f, withH_some, e_box, e_load, e_store, stH_some, e_nil, e_bin, e_eqv, eqH_f, eqH_t, e_un, e_fa, e_ia, ia_eq, nat_eq, natV_nat, e_len, lnH_some, e_extract, ex_0, ex_1, e_call0, e_call1, e_call2, e_call3, pc0_eq, pc1_some, pc2_some, pc3_some, fin_some, g_var0, g_vars, g_loc0, g_locs, g_int, g_bool, g_str, g_sl, s_none, s_zero, s_succ, cl_nil, cl_str, cl_bool, cl_slc, cl_own, evFa, evNil, asEl, evBin, intBin, strBin, evUn, len_nil, len_slc, len_str, clr, List.length_nil, List.length_cons, List.getElem?_cons_zero, List.getElem?_cons_succ, Nat.reduceAdd, Nat.zero_add, Nat.add_zero, Nat.reduceLeDiff, Nat.reduceSub, ↓reduceIte, List.drop_succ_cons, List.drop_zero, List.take_succ_cons, List.take_zero, Bool.false_eq_true, List.nil_append, List.cons_append, Bool.not_true, Bool.not_false, cond_true, cond_false, bne, lv_ret, lv_normal, res1, res2, lv2_some, res_var, res_cell, lvf_v, lvf_slc, res1c, lvo1_some, e_mm, mm_max, mm_min, cl_agg, cl_int, g_agg, e_callv1, cv1_fn, e_slice2, e_clrrow, e_callf2, pick_und, cells_agg, Option.map_some, Option.map_none]
                  | true =>
                    simp at good
      · have hne : n = l.length := by omega
        subst hne
        have hlt := lt_f (n := l.length)
        refine ⟨.exit 2, [.junk, .ptr 0 0, .junk, .junk, .ptr 3 0, .junk, .junk, .junk, .junk, .junk, .junk, .junk, .junk, .junk, .junk, c, .v (.int .i64 l.length), .v (.int .i64 l.length), .v (.bool false), .junk, .junk], _, ?_, .inr ⟨rfl, ⟨_, rfl⟩, R, N, s', T, rfl, ?_⟩⟩
        · simp only [V9b, c9_18, c9_11, hlt, run_nil, run_cons, stp_plain, stp_guard, put_some, pass_eq, pick_tt, pick_ff, pick_tf, pick_ft, pick_u, reg_some, thn_normal, thn_exit, thn_ret, cnd_t, cnd_f, blk_normal, blk_ret, blk_exit, x_seq, x_region, x_cond, x_block, x_loop, x_ret, x_exit, x_skip, e_mov, e_pick, pk_t, pk_f, withH_some, e_box, e_load, e_store, stH_some, e_nil, e_bin, e_eqv, eqH_f, eqH_t, e_un, e_fa, e_ia, ia_eq, nat_eq, natV_nat, e_len, lnH_some, e_extract, ex_0, ex_1, e_call0, e_call1, e_call2, e_call3, pc0_eq, pc1_some, pc2_some, pc3_some, fin_some, g_var0, g_vars, g_loc0, g_locs, g_int, g_bool, g_str, g_sl, s_none, s_zero, s_succ, cl_nil, cl_str, cl_bool, cl_slc, cl_own, evFa, evNil, asEl, evBin, intBin, strBin, evUn, len_nil, len_slc, len_str, clr, List.length_nil, List.length_cons, List.getElem?_cons_zero, List.getElem?_cons_succ, Nat.reduceAdd, Nat.zero_add, Nat.add_zero, Nat.reduceLeDiff, Nat.reduceSub, ↓reduceIte, List.drop_succ_cons, List.drop_zero, List.take_succ_cons, List.take_zero, Bool.false_eq_true, List.nil_append, List.cons_append, Bool.not_true, Bool.not_false, cond_true, cond_false, bne, lv_ret, lv_normal, res1, res2, lv2_some, res_var, res_cell, lvf_v, lvf_slc, res1c, lvo1_some, e_mm, mm_max, mm_min, cl_agg, cl_int, g_agg, e_callv1, cv1_fn, e_slice2, e_clrrow, e_callf2, pick_und, cells_agg, Option.map_some, Option.map_none]
        · rw [hrun, List.drop_length]; rfl)
  exact ⟨e, v', h', g1, g3⟩
end
end Go.AE.YtchiacliefahdaaDoor
end

/-! Check. -/
section
set_option linter.unusedVariables false
set_option linter.unusedSimpArgs false
namespace Go.AE.YtchiacliefahdaaDoor
open Go Go.AE Go.Proofs.YtchiacliefahdaaDoor

/-- a code -/
structure Co where
  nm : ByteArray
  ar : Int
  vs : Int
  l : List In
inductive IsCo : AV → Co → Prop
  | mk (nm : ByteArray) (ar vs : Int) (c : AV) (l : List In) (hl : IsS 5 IsIn c l) : IsCo (.agg [.v (.string nm), .v (.int .i64 ar), .v (.int .i64 vs), c]) ⟨nm, ar, vs, l⟩
def chkT (c : Co) : Int × Int := checkT c.nm c.ar c.vs c.l
theorem lv2_two {h : List AO} {vars : List AV} {i j : Nat} {x y : Value} (hx : getO vars [] (.var i) = .v x) (hy : getO vars [] (.var j) = .v y) : lv [.var i, .var j] (some (.ret, vars, h)) = some (.tup [.v x, .v y], []) := by
  simp only [lv_ret]
  have h1 : resOf vars h (.var i) = some (.v x) := by rw [← hx]; rfl
  have h2 : resOf vars h (.var j) = some (.v y) := by rw [← hy]; rfl
  simp only [List.mapM_cons, List.mapM_nil, h1, h2]
  rfl
theorem check_ok {a : AV} {c : Co} (ha : IsCo a c) : callW F 9 [a] [] = some (.tup [.v (.int .i64 (chkT c).1), .v (.int .i64 (chkT c).2)], []) := by
  cases ha with
  | mk nm ar vs c3 l hl =>
  obtain ⟨es, hs, hes, hm⟩ := hl
  have hel := hes.length
  have cl := (show (AV.agg [.v (.string nm), .v (.int .i64 ar), .v (.int .i64 vs), c3]).cl = some [.v (.string nm), .v (.int .i64 ar), .v (.int .i64 vs), c3] by cases hs <;> rfl)
  have hch := char_ok nm
  have sx : ∀ h : List AO, (AV.v (.string nm)).snap1 h = some (.v (.string nm)) := fun _ => rfl
  have l0 : ∀ h, evLoad (.box [.v (.string nm), .v (.int .i64 ar), .v (.int .i64 vs), c3] :: h) false 1 (.ptr 0 0) = some (.v (.string nm)) := fun _ => rfl
  have l1 : ∀ h, evLoad (.box [.v (.string nm), .v (.int .i64 ar), .v (.int .i64 vs), c3] :: h) false 1 (.ptr 0 1) = some (.v (.int .i64 ar)) := fun _ => rfl
  have l2 : ∀ h, evLoad (.box [.v (.string nm), .v (.int .i64 ar), .v (.int .i64 vs), c3] :: h) false 1 (.ptr 0 2) = some (.v (.int .i64 vs)) := fun _ => rfl
  have l3 : ∀ h, evLoad (.box [.v (.string nm), .v (.int .i64 ar), .v (.int .i64 vs), c3] :: h) false 1 (.ptr 0 3) = some c3 := fun _ => rfl
  have la : ∀ h, evLoad (.box [.v (.string nm), .v (.int .i64 ar), .v (.int .i64 vs), c3] :: h) true 4 (.ptr 0 0) = some (.agg [.v (.string nm), .v (.int .i64 ar), .v (.int .i64 vs), c3]) := fun _ => rfl
  have hres : c9.res = [.var 2, .var 3] := rfl
  have st9 : start c9 [.agg [.v (.string nm), .v (.int .i64 ar), .v (.int .i64 vs), c3]] = [.agg [.v (.string nm), .v (.int .i64 ar), .v (.int .i64 vs), c3], .v undef, .v undef, .v undef, .v undef, .v undef, .v undef, .v undef, .v undef, .v undef, .v undef, .v undef, .v undef, .v undef, .v undef, .v undef, .v undef, .v undef, .v undef, .v undef, .v undef] := rfl
  cases hok : okT nm ar vs with
  | false =>
    have e : chkT ⟨nm, ar, vs, l⟩ = (0, 150) := by simp only [chkT, checkT, hok]; rfl
    rw [e]
    refine callW_pure (c := c9) rfl rfl 0 ?_
    rw [st9]
    simp only [okT, Bool.not_eq_false'] at hok
    generalize charT nm = ch at hch hok
    cases b1 : decide (ar < 0) with
    | true => simp only [c9, c9_0, c9_1, c9_2, cl, l0, l1, l2, b1, pick_und, run_nil, run_cons, stp_plain, stp_guard, put_some, pass_eq, pick_tt, pick_ff, pick_tf, pick_ft, pick_u, reg_some, thn_normal, thn_exit, thn_ret, cnd_t, cnd_f, blk_normal, blk_ret, blk_exit, x_seq, x_region, x_cond, x_block, x_loop, x_ret, x_exit, x_skip, e_mov, e_pick, pk_t, pk_f, withH_some, e_box, e_load, e_store, stH_some, e_nil, e_bin, e_eqv, eqH_f, eqH_t, e_un, e_fa, e_ia, ia_eq, nat_eq, natV_nat, e_len, lnH_some, e_extract, ex_0, ex_1, e_call0, e_call1, e_call2, e_call3, pc0_eq, pc1_some, pc2_some, pc3_some, fin_some, g_var0, g_vars, g_loc0, g_locs, g_int, g_bool, g_str, g_sl, s_none, s_zero, s_succ, cl_nil, cl_str, cl_bool, cl_slc, cl_own, evFa, evNil, asEl, evBin, intBin, strBin, evUn, len_nil, len_slc, len_str, clr, List.length_nil, List.length_cons, List.getElem?_cons_zero, List.getElem?_cons_succ, Nat.reduceAdd, Nat.zero_add, Nat.add_zero, Nat.reduceLeDiff, Nat.reduceSub, ↓reduceIte, List.drop_succ_cons, List.drop_zero, List.take_succ_cons, List.take_zero, Bool.false_eq_true, List.nil_append, List.cons_append, Bool.not_true, Bool.not_false, cond_true, cond_false, bne, lv_ret, lv_normal, res1, res2, lv2_some, res_var, res_cell, lvf_v, lvf_slc, res1c, lvo1_some, e_mm, mm_max, mm_min, cl_agg, cl_int, g_agg, e_callv1, cv1_fn, e_slice2, e_clrrow, e_callf2, pick_und, cells_agg, Option.map_some, Option.map_none, bx_some]; rfl
    | false =>
      cases b2 : decide (ar > 16) with
      | true => simp only [c9, c9_0, c9_1, c9_2, cl, l0, l1, l2, b1, b2, pick_und, run_nil, run_cons, stp_plain, stp_guard, put_some, pass_eq, pick_tt, pick_ff, pick_tf, pick_ft, pick_u, reg_some, thn_normal, thn_exit, thn_ret, cnd_t, cnd_f, blk_normal, blk_ret, blk_exit, x_seq, x_region, x_cond, x_block, x_loop, x_ret, x_exit, x_skip, e_mov, e_pick, pk_t, pk_f, withH_some, e_box, e_load, e_store, stH_some, e_nil, e_bin, e_eqv, eqH_f, eqH_t, e_un, e_fa, e_ia, ia_eq, nat_eq, natV_nat, e_len, lnH_some, e_extract, ex_0, ex_1, e_call0, e_call1, e_call2, e_call3, pc0_eq, pc1_some, pc2_some, pc3_some, fin_some, g_var0, g_vars, g_loc0, g_locs, g_int, g_bool, g_str, g_sl, s_none, s_zero, s_succ, cl_nil, cl_str, cl_bool, cl_slc, cl_own, evFa, evNil, asEl, evBin, intBin, strBin, evUn, len_nil, len_slc, len_str, clr, List.length_nil, List.length_cons, List.getElem?_cons_zero, List.getElem?_cons_succ, Nat.reduceAdd, Nat.zero_add, Nat.add_zero, Nat.reduceLeDiff, Nat.reduceSub, ↓reduceIte, List.drop_succ_cons, List.drop_zero, List.take_succ_cons, List.take_zero, Bool.false_eq_true, List.nil_append, List.cons_append, Bool.not_true, Bool.not_false, cond_true, cond_false, bne, lv_ret, lv_normal, res1, res2, lv2_some, res_var, res_cell, lvf_v, lvf_slc, res1c, lvo1_some, e_mm, mm_max, mm_min, cl_agg, cl_int, g_agg, e_callv1, cv1_fn, e_slice2, e_clrrow, e_callf2, pick_und, cells_agg, Option.map_some, Option.map_none, bx_some]; rfl
      | false =>
        cases b3 : decide (vs < 0) with
        | true => simp only [c9, c9_0, c9_1, c9_2, cl, l0, l1, l2, b1, b2, b3, pick_und, run_nil, run_cons, stp_plain, stp_guard, put_some, pass_eq, pick_tt, pick_ff, pick_tf, pick_ft, pick_u, reg_some, thn_normal, thn_exit, thn_ret, cnd_t, cnd_f, blk_normal, blk_ret, blk_exit, x_seq, x_region, x_cond, x_block, x_loop, x_ret, x_exit, x_skip, e_mov, e_pick, pk_t, pk_f, withH_some, e_box, e_load, e_store, stH_some, e_nil, e_bin, e_eqv, eqH_f, eqH_t, e_un, e_fa, e_ia, ia_eq, nat_eq, natV_nat, e_len, lnH_some, e_extract, ex_0, ex_1, e_call0, e_call1, e_call2, e_call3, pc0_eq, pc1_some, pc2_some, pc3_some, fin_some, g_var0, g_vars, g_loc0, g_locs, g_int, g_bool, g_str, g_sl, s_none, s_zero, s_succ, cl_nil, cl_str, cl_bool, cl_slc, cl_own, evFa, evNil, asEl, evBin, intBin, strBin, evUn, len_nil, len_slc, len_str, clr, List.length_nil, List.length_cons, List.getElem?_cons_zero, List.getElem?_cons_succ, Nat.reduceAdd, Nat.zero_add, Nat.add_zero, Nat.reduceLeDiff, Nat.reduceSub, ↓reduceIte, List.drop_succ_cons, List.drop_zero, List.take_succ_cons, List.take_zero, Bool.false_eq_true, List.nil_append, List.cons_append, Bool.not_true, Bool.not_false, cond_true, cond_false, bne, lv_ret, lv_normal, res1, res2, lv2_some, res_var, res_cell, lvf_v, lvf_slc, res1c, lvo1_some, e_mm, mm_max, mm_min, cl_agg, cl_int, g_agg, e_callv1, cv1_fn, e_slice2, e_clrrow, e_callf2, pick_und, cells_agg, Option.map_some, Option.map_none, bx_some]; rfl
        | false =>
          rw [b1, b2, b3] at hok
          simp only [Bool.false_or, Bool.not_eq_true'] at hok
          subst hok
          simp only [c9, c9_0, c9_1, c9_2, cl, l0, l1, l2, b1, b2, b3, hch, sx, pick_und, run_nil, run_cons, stp_plain, stp_guard, put_some, pass_eq, pick_tt, pick_ff, pick_tf, pick_ft, pick_u, reg_some, thn_normal, thn_exit, thn_ret, cnd_t, cnd_f, blk_normal, blk_ret, blk_exit, x_seq, x_region, x_cond, x_block, x_loop, x_ret, x_exit, x_skip, e_mov, e_pick, pk_t, pk_f, withH_some, e_box, e_load, e_store, stH_some, e_nil, e_bin, e_eqv, eqH_f, eqH_t, e_un, e_fa, e_ia, ia_eq, nat_eq, natV_nat, e_len, lnH_some, e_extract, ex_0, ex_1, e_call0, e_call1, e_call2, e_call3, pc0_eq, pc1_some, pc2_some, pc3_some, fin_some, g_var0, g_vars, g_loc0, g_locs, g_int, g_bool, g_str, g_sl, s_none, s_zero, s_succ, cl_nil, cl_str, cl_bool, cl_slc, cl_own, evFa, evNil, asEl, evBin, intBin, strBin, evUn, len_nil, len_slc, len_str, clr, List.length_nil, List.length_cons, List.getElem?_cons_zero, List.getElem?_cons_succ, Nat.reduceAdd, Nat.zero_add, Nat.add_zero, Nat.reduceLeDiff, Nat.reduceSub, ↓reduceIte, List.drop_succ_cons, List.drop_zero, List.take_succ_cons, List.take_zero, Bool.false_eq_true, List.nil_append, List.cons_append, Bool.not_true, Bool.not_false, cond_true, cond_false, bne, lv_ret, lv_normal, res1, res2, lv2_some, res_var, res_cell, lvf_v, lvf_slc, res1c, lvo1_some, e_mm, mm_max, mm_min, cl_agg, cl_int, g_agg, e_callv1, cv1_fn, e_slice2, e_clrrow, e_callf2, pick_und, cells_agg, Option.map_some, Option.map_none, bx_some]; rfl
  | true =>
    have e : chkT ⟨nm, ar, vs, l⟩ = runT vs 0 (beginT ar) l := by simp only [chkT, checkT, hok]; rfl
    rw [e]
    simp only [okT, Bool.not_eq_true', Bool.or_eq_false_iff] at hok
    obtain ⟨b1, b2, b3, b4⟩ := hok
    have b4 : charT nm = true := by simpa using b4
    rw [b4] at hch
    obtain ⟨n, rfl⟩ := Int.eq_ofNat_of_zero_le (show 0 ≤ ar by simp at b1; omega)
    have hn : n ≤ 16 := by simp at b2; omega
    let K := l.length + 100
    have b0 : (AV.v (.string nm)).below1 0 = true := rfl
    have b3' : c3.below1 0 = true := by cases hs <;> rfl
    obtain ⟨x5, R, hR, g1⟩ := regs_loop (c0 := .v (.string nm)) (c1 := n) (c2 := vs) (c3 := c3) (K := K) hn (by omega) (p := 0) (o := 0) (u := 0) (hd := true) (ov := false) [.agg [.v (.string nm), .v (.int .i64 n), .v (.int .i64 vs), c3], .ptr 0 0, .v (.int .i64 0), .v (.int .i64 0), .ptr 3 0, .v undef, .v undef, .v undef, .v undef, .v undef, .v undef, .v (.bool false), .v (.int .i64 n), .v (.int .i64 0), .v undef, .v undef, .v undef, .v undef, .v undef, .v undef, .v undef] rfl
    obtain ⟨ex, v', h', g2, g3⟩ := check_loop (c0 := .v (.string nm)) (c1 := n) (c2 := vs) (c3 := c3) b0 b3' (K := K) hs hes (by omega) (by omega) (R := R) (N := []) (s := beginT n) hR (Seen.nil _) [.junk, .ptr 0 0, .junk, .junk, .ptr 3 0, x5, .junk, .junk, .junk, .junk, .junk, .junk, .v (.int .i64 n), .v (.int .i64 n), .v (.bool false), c3, .v (.int .i64 l.length), .v (.int .i64 0), .junk, .junk, .junk] rfl
    have nl := fun h : List AO => hs.len h
    rw [hel] at nl
    have hv3 : ∀ R, evLoad (vH (.v (.string nm)) n vs c3 R [] 0 0 0 true false []) false 1 (.ptr 0 3) = some c3 := fun _ => rfl
    have hv1 : ∀ R, evLoad (vH (.v (.string nm)) n vs c3 R [] 0 0 0 true false []) false 1 (.ptr 0 1) = some (.v (.int .i64 n)) := fun _ => rfl
    have vh0 : [AO.box [.v (.string nm), .v (.int .i64 n), .v (.int .i64 vs), c3], .map (.int .i64) [], .map (.int .i64) [], .box [.v (.string nm), .v (.int .i64 n), .v (.int .i64 vs), c3, .mp 1, .mp 2, .v (.int .i64 0), .v (.int .i64 0), .v (.int .i64 0), .v (.bool true), .v (.bool false)]] = vH (.v (.string nm)) n vs c3 [] [] 0 0 0 true false [] := rfl
    have pre : ∀ rest : CC, exec (callW F) K (.seq (.region [] [] c9_0) (.seq (.seq (.region [] [] c9_1) (.cond (.var 11) (.seq (.region [] [] c9_2) .ret) .skip)) (.seq (.region [] [] c9_3) (.seq (.seq (.region [] [] c9_4) (.block 0 (.loop K9a [] c9_9))) rest)))) [.agg [.v (.string nm), .v (.int .i64 n), .v (.int .i64 vs), c3], .v undef, .v undef, .v undef, .v undef, .v undef, .v undef, .v undef, .v undef, .v undef, .v undef, .v undef, .v undef, .v undef, .v undef, .v undef, .v undef, .v undef, .v undef, .v undef, .v undef] [] =
        exec (callW F) K rest [.junk, .ptr 0 0, .junk, .junk, .ptr 3 0, x5, .junk, .junk, .junk, .junk, .junk, .junk, .v (.int .i64 n), .v (.int .i64 n), .v (.bool false), .junk, .junk, .junk, .junk, .junk, .junk] (vH (.v (.string nm)) n vs c3 R [] 0 0 0 true false []) := by
      intro rest
      simp only [V9a] at g1
      generalize c9_9 = bb at g1 ⊢
      have clA : (AV.agg [.v (.string nm), .v (.int .i64 n), .v (.int .i64 vs), c3, .mp 1, .mp 2, .v (.int .i64 0), .v (.int .i64 0), .v (.int .i64 0), .v (.bool true), .v (.bool false)]).cl = some [.v (.string nm), .v (.int .i64 n), .v (.int .i64 vs), c3, .mp 1, .mp 2, .v (.int .i64 0), .v (.int .i64 0), .v (.int .i64 0), .v (.bool true), .v (.bool false)] := by cases hs <;> rfl
      have clm : ∀ i, (AV.mp i).cl = some [.mp i] := fun _ => rfl
      have clt : ∀ b, (AV.v (.bool b)).cl = some [.v (.bool b)] := fun _ => rfl
      simp only [c9_0, c9_1, c9_3, c9_4, cl, clA, clm, clt, l0, l1, l2, la, b1, b2, b3, hch, sx, vh0, hv1, g1, e_mkmap, e_build, bdH_some, bd_nil, bd_cons, bd1, toL, List.map_cons, List.map_nil, ofVal, putAt, List.set_cons_zero, List.set_cons_succ, and_self, Nat.le_refl, pick_und, run_nil, run_cons, stp_plain, stp_guard, put_some, pass_eq, pick_tt, pick_ff, pick_tf, pick_ft, pick_u, reg_some, thn_normal, thn_exit, thn_ret, cnd_t, cnd_f, blk_normal, blk_ret, blk_exit, x_seq, x_region, x_cond, x_block, x_loop, x_ret, x_exit, x_skip, e_mov, e_pick, pk_t, pk_f, withH_some, e_box, e_load, e_store, stH_some, e_nil, e_bin, e_eqv, eqH_f, eqH_t, e_un, e_fa, e_ia, ia_eq, nat_eq, natV_nat, e_len, lnH_some, e_extract, ex_0, ex_1, e_call0, e_call1, e_call2, e_call3, pc0_eq, pc1_some, pc2_some, pc3_some, fin_some, g_var0, g_vars, g_loc0, g_locs, g_int, g_bool, g_str, g_sl, s_none, s_zero, s_succ, cl_nil, cl_str, cl_bool, cl_slc, cl_own, evFa, evNil, asEl, evBin, intBin, strBin, evUn, len_nil, len_slc, len_str, clr, List.length_nil, List.length_cons, List.getElem?_cons_zero, List.getElem?_cons_succ, Nat.reduceAdd, Nat.zero_add, Nat.add_zero, Nat.reduceLeDiff, Nat.reduceSub, ↓reduceIte, List.drop_succ_cons, List.drop_zero, List.take_succ_cons, List.take_zero, Bool.false_eq_true, List.nil_append, List.cons_append, Bool.not_true, Bool.not_false, cond_true, cond_false, bne, lv_ret, lv_normal, res1, res2, lv2_some, res_var, res_cell, lvf_v, lvf_slc, res1c, lvo1_some, e_mm, mm_max, mm_min, cl_agg, cl_int, g_agg, e_callv1, cv1_fn, e_slice2, e_clrrow, e_callf2, pick_und, cells_agg, Option.map_some, Option.map_none, bx_some]
    have g2' : loopN (exec (callW F) K c9_18) K9b K [.junk, .ptr 0 0, .junk, .junk, .ptr 3 0, x5, .junk, .junk, .junk, .junk, .junk, .junk, .v (.int .i64 n), .v (.int .i64 n), .v (.bool false), c3, .v (.int .i64 l.length), .v (.int .i64 0), .junk, .junk, .junk] (vH (.v (.string nm)) n vs c3 R [] 0 0 0 true false []) = some (ex, v', h') := g2
    refine callW_pure (c := c9) rfl rfl K ?_
    rw [st9, hres, show c9.body = (.seq (.region [] [] c9_0) (.seq (.seq (.region [] [] c9_1) (.cond (.var 11) (.seq (.region [] [] c9_2) .ret) .skip)) (.seq (.region [] [] c9_3) (.seq (.seq (.region [] [] c9_4) (.block 0 (.loop K9a [] c9_9))) (.seq (.seq (.region [] [] c9_10) (.block 2 (.loop K9b [] c9_18))) (.seq (.seq (.region [] [] c9_19) (.cond (.var 20) (.seq (.region [] [] c9_20) .ret) .skip)) (.seq (.region [] [] c9_21) .ret))))))) from rfl, pre]
    rcases g3 with ⟨rfl, e2, e3⟩ | ⟨rfl, ⟨x18, rfl⟩, R', N', s', T, rfl, hr⟩
    · generalize c9_18 = bb at g2' ⊢
      simp only [c9_10, hv3, nl, g2', run_nil, run_cons, stp_plain, stp_guard, put_some, pass_eq, pick_tt, pick_ff, pick_tf, pick_ft, pick_u, reg_some, thn_normal, thn_exit, thn_ret, cnd_t, cnd_f, blk_normal, blk_ret, blk_exit, x_seq, x_region, x_cond, x_block, x_loop, x_ret, x_exit, x_skip, e_mov, e_pick, pk_t, pk_f, withH_some, e_box, e_load, e_store, stH_some, e_nil, e_bin, e_eqv, eqH_f, eqH_t, e_un, e_fa, e_ia, ia_eq, nat_eq, natV_nat, e_len, lnH_some, e_extract, ex_0, ex_1, e_call0, e_call1, e_call2, e_call3, pc0_eq, pc1_some, pc2_some, pc3_some, fin_some, g_var0, g_vars, g_loc0, g_locs, g_int, g_bool, g_str, g_sl, s_none, s_zero, s_succ, cl_nil, cl_str, cl_bool, cl_slc, cl_own, evFa, evNil, asEl, evBin, intBin, strBin, evUn, len_nil, len_slc, len_str, clr, List.length_nil, List.length_cons, List.getElem?_cons_zero, List.getElem?_cons_succ, Nat.reduceAdd, Nat.zero_add, Nat.add_zero, Nat.reduceLeDiff, Nat.reduceSub, ↓reduceIte, List.drop_succ_cons, List.drop_zero, List.take_succ_cons, List.take_zero, Bool.false_eq_true, List.nil_append, List.cons_append, Bool.not_true, Bool.not_false, cond_true, cond_false, bne, lv_ret, lv_normal, res1, res2, lv2_some, res_var, res_cell, lvf_v, lvf_slc, res1c, lvo1_some, e_mm, mm_max, mm_min, cl_agg, cl_int, g_agg, e_callv1, cv1_fn, e_slice2, e_clrrow, e_callf2, pick_und, cells_agg, Option.map_some, Option.map_none]
      exact lv2_two e2 e3
    · have hv3' : evLoad (vS (.v (.string nm)) n vs c3 R' N' s' T) false 1 (.ptr 0 3) = some c3 := rfl
      have hv10 : evLoad (vS (.v (.string nm)) n vs c3 R' N' s' T) false 1 (.ptr 3 10) = some (.v (.bool s'.over)) := rfl
      rw [hr]
      generalize c9_18 = bb at g2' ⊢
      cases hov : s'.over with
      | true =>
        rw [hov] at hv10
        simp only [c9_10, c9_19, c9_21, hv3, nl, g2', hv10, run_nil, run_cons, stp_plain, stp_guard, put_some, pass_eq, pick_tt, pick_ff, pick_tf, pick_ft, pick_u, reg_some, thn_normal, thn_exit, thn_ret, cnd_t, cnd_f, blk_normal, blk_ret, blk_exit, x_seq, x_region, x_cond, x_block, x_loop, x_ret, x_exit, x_skip, e_mov, e_pick, pk_t, pk_f, withH_some, e_box, e_load, e_store, stH_some, e_nil, e_bin, e_eqv, eqH_f, eqH_t, e_un, e_fa, e_ia, ia_eq, nat_eq, natV_nat, e_len, lnH_some, e_extract, ex_0, ex_1, e_call0, e_call1, e_call2, e_call3, pc0_eq, pc1_some, pc2_some, pc3_some, fin_some, g_var0, g_vars, g_loc0, g_locs, g_int, g_bool, g_str, g_sl, s_none, s_zero, s_succ, cl_nil, cl_str, cl_bool, cl_slc, cl_own, evFa, evNil, asEl, evBin, intBin, strBin, evUn, len_nil, len_slc, len_str, clr, List.length_nil, List.length_cons, List.getElem?_cons_zero, List.getElem?_cons_succ, Nat.reduceAdd, Nat.zero_add, Nat.add_zero, Nat.reduceLeDiff, Nat.reduceSub, ↓reduceIte, List.drop_succ_cons, List.drop_zero, List.take_succ_cons, List.take_zero, Bool.false_eq_true, List.nil_append, List.cons_append, Bool.not_true, Bool.not_false, cond_true, cond_false, bne, lv_ret, lv_normal, res1, res2, lv2_some, res_var, res_cell, lvf_v, lvf_slc, res1c, lvo1_some, e_mm, mm_max, mm_min, cl_agg, cl_int, g_agg, e_callv1, cv1_fn, e_slice2, e_clrrow, e_callf2, pick_und, cells_agg, Option.map_some, Option.map_none]
        rfl
      | false =>
        rw [hov] at hv10
        simp only [c9_10, c9_19, c9_20, hv3, hv3', nl, g2', hv10, run_nil, run_cons, stp_plain, stp_guard, put_some, pass_eq, pick_tt, pick_ff, pick_tf, pick_ft, pick_u, reg_some, thn_normal, thn_exit, thn_ret, cnd_t, cnd_f, blk_normal, blk_ret, blk_exit, x_seq, x_region, x_cond, x_block, x_loop, x_ret, x_exit, x_skip, e_mov, e_pick, pk_t, pk_f, withH_some, e_box, e_load, e_store, stH_some, e_nil, e_bin, e_eqv, eqH_f, eqH_t, e_un, e_fa, e_ia, ia_eq, nat_eq, natV_nat, e_len, lnH_some, e_extract, ex_0, ex_1, e_call0, e_call1, e_call2, e_call3, pc0_eq, pc1_some, pc2_some, pc3_some, fin_some, g_var0, g_vars, g_loc0, g_locs, g_int, g_bool, g_str, g_sl, s_none, s_zero, s_succ, cl_nil, cl_str, cl_bool, cl_slc, cl_own, evFa, evNil, asEl, evBin, intBin, strBin, evUn, len_nil, len_slc, len_str, clr, List.length_nil, List.length_cons, List.getElem?_cons_zero, List.getElem?_cons_succ, Nat.reduceAdd, Nat.zero_add, Nat.add_zero, Nat.reduceLeDiff, Nat.reduceSub, ↓reduceIte, List.drop_succ_cons, List.drop_zero, List.take_succ_cons, List.take_zero, Bool.false_eq_true, List.nil_append, List.cons_append, Bool.not_true, Bool.not_false, cond_true, cond_false, bne, lv_ret, lv_normal, res1, res2, lv2_some, res_var, res_cell, lvf_v, lvf_slc, res1c, lvo1_some, e_mm, mm_max, mm_min, cl_agg, cl_int, g_agg, e_callv1, cv1_fn, e_slice2, e_clrrow, e_callf2, pick_und, cells_agg, Option.map_some, Option.map_none]
        rfl
end Go.AE.YtchiacliefahdaaDoor
end

/-! The examples. -/
section
set_option linter.unusedVariables false
namespace Go.AE.YtchiacliefahdaaDoor
open Go Go.AE Go.Proofs.YtchiacliefahdaaDoor
set_option maxRecDepth 1000000 in
theorem live_n : callN F 40 7 [] [] = some (.v (.bool true), []) := by kernel_rfl
theorem live_ok : callW F 7 [] [] = some (.v (.bool true), []) := callW_iff.2 ⟨_, live_n⟩
end Go.AE.YtchiacliefahdaaDoor
end

/-! Whether a code is too great; what Check says of a code that goes. -/
section
set_option linter.unusedVariables false
set_option linter.unusedSimpArgs false
namespace Go.AE.YtchiacliefahdaaDoor
open Go Go.AE Go.Proofs.YtchiacliefahdaaDoor

def K8 : List Bool := [false, false, false, false, false, true, true, true, false, false]
def V8 (c : AV) (len i : Int) (x3 x8 x9 : AV) : List AV := [.junk, .junk, .junk, x3, .junk, c, .v (.int .i64 len), .v (.int .i64 i), x8, x9]
theorem big_loop {K : Nat} {c : AV} {l : List In} {es : List AV} (hs : Sl 5 c es) (hes : AllR IsIn es l) (hm : l.length ≤ maxLen) (hK : l.length < K) (h : List AO) (v : List AV) (hv : clr K8 v = V8 c l.length 0 .junk .junk .junk) :
    ∃ e v' h', loopN (exec (callW F) K c8_9) K8 K v h = some (e, v', h') ∧ ((e = .ret ∧ getO v' [] (.var 2) = .v (.bool true)) ∨ (e = .exit 0 ∧ ∃ x3 x8 x9, v' = V8 c l.length l.length x3 x8 x9)) := by
  obtain ⟨e, v', h', g1, g2, g3⟩ := loop_rule0 (call := callW F) (K := K) (b := c8_9) (keep := K8) (fun i v h' => v = V8 c l.length i .junk .junk .junk)
    (fun e v h' => ((e = .ret ∧ getO v [] (.var 2) = .v (.bool true)) ∨ (e = .exit 0 ∧ ∃ x3 x8 x9, v = V8 c l.length l.length x3 x8 x9))) l.length (m := K) (v := v) (h := h) hK hv (by
      rintro i v h' hi rfl
      by_cases hil : i < l.length
      · have hlt := lt_t hil
        have hw := wrap_succ hil hm
        obtain ⟨x, hx⟩ : ∃ x, l[i]? = some x := ⟨_, List.getElem?_eq_getElem hil⟩
        obtain ⟨e, he, hin⟩ := hes.get' hx
        have hei := hin.eq
        subst hei
        have q1 := fun h : List AO => hs.ia he h
        have q3 : ∀ h : List AO, evLoad h true 5 (.ip (inV x).cells) = some (inV x) := fun _ => rfl
        have z : (ofVal (.agg #[(.int .i64 0), (.int .i64 0), (.int .i64 0), (.string ⟨#[]⟩), (.int .i64 0)])).cl = some [.v (.int .i64 0), .v (.int .i64 0), .v (.int .i64 0), .v (.string ⟨#[]⟩), .v (.int .i64 0)] := by kernel_rfl
        have st : evStore (h' ++ [.box [.v (.int .i64 0), .v (.int .i64 0), .v (.int .i64 0), .v (.string ⟨#[]⟩), .v (.int .i64 0)]]) 5 (.ptr h'.length 0) (inV x) = some (h' ++ [.box (inC x)]) := st_new (show (inV x).cl = some (inC x) from rfl) (show (inC x).length = 5 from rfl) rfl
        have ld : evLoad (h' ++ [.box (inC x)]) false 1 (.ptr h'.length 3) = some (.v (.string x.nm)) := by rw [ld_new]; rfl
        have ln : ∀ h : List AO, evLen h .string (.v (.string x.nm)) = some x.nm.size := fun _ => rfl
        cases hb : decide ((x.nm.size : Int) > 1000) with
        | false =>
          refine ⟨.normal, [.junk, .junk, .junk, .ptr h'.length 0, .junk, c, .v (.int .i64 l.length), .v (.int .i64 ((i + 1 : Nat) : Int)), .v (.bool true), .v (.bool false)], h' ++ [.box (inC x)], ?_, hil, rfl⟩
          simp only [V8, c8_9, c8_4, c8_5, c8_6, c8_8, hlt, hw, q1, q3, z, st, ld, ln, hb, run_nil, run_cons, stp_plain, stp_guard, put_some, pass_eq, pick_tt, pick_ff, pick_tf, pick_ft, pick_u, reg_some, thn_normal, thn_exit, thn_ret, cnd_t, cnd_f, blk_normal, blk_ret, blk_exit, x_seq, x_region, x_cond, x_block, x_loop, x_ret, x_exit, x_skip, e_mov, e_pick, pk_t, pk_f, withH_some, e_box, e_load, e_store, stH_some, e_nil, e_bin, e_eqv, eqH_f, eqH_t, e_un, e_fa, e_ia, ia_eq, nat_eq, natV_nat, e_len, lnH_some, e_extract, ex_0, ex_1, e_call0, e_call1, e_call2, e_call3, pc0_eq, pc1_some, pc2_some, pc3_some, fin_some, g_var0, g_vars, g_loc0, g_locs, g_int, g_bool, g_str, g_sl, s_none, s_zero, s_succ, cl_nil, cl_str, cl_bool, cl_slc, cl_own, evFa, evNil, asEl, evBin, intBin, strBin, evUn, len_nil, len_slc, len_str, clr, List.length_nil, List.length_cons, List.getElem?_cons_zero, List.getElem?_cons_succ, Nat.reduceAdd, Nat.zero_add, Nat.add_zero, Nat.reduceLeDiff, Nat.reduceSub, ↓reduceIte, List.drop_succ_cons, List.drop_zero, List.take_succ_cons, List.take_zero, Bool.false_eq_true, List.nil_append, List.cons_append, Bool.not_true, Bool.not_false, cond_true, cond_false, bne, lv_ret, lv_normal, res1, res2, lv2_some, res_var, res_cell, lvf_v, lvf_slc, res1c, lvo1_some, e_mm, mm_max, mm_min, cl_agg, cl_int, g_agg, e_callv1, cv1_fn, e_slice2, e_clrrow, e_callf2, pick_und, cells_agg, Option.map_some, Option.map_none, bx_some]
        | true =>
          refine ⟨.ret, [.junk, .junk, .v (.bool true), .ptr h'.length 0, .junk, c, .v (.int .i64 l.length), .v (.int .i64 i), .v (.bool true), .v (.bool true)], h' ++ [.box (inC x)], ?_, .inl ⟨rfl, rfl⟩⟩
          simp only [V8, c8_9, c8_4, c8_5, c8_6, c8_7, hlt, hw, q1, q3, z, st, ld, ln, hb, run_nil, run_cons, stp_plain, stp_guard, put_some, pass_eq, pick_tt, pick_ff, pick_tf, pick_ft, pick_u, reg_some, thn_normal, thn_exit, thn_ret, cnd_t, cnd_f, blk_normal, blk_ret, blk_exit, x_seq, x_region, x_cond, x_block, x_loop, x_ret, x_exit, x_skip, e_mov, e_pick, pk_t, pk_f, withH_some, e_box, e_load, e_store, stH_some, e_nil, e_bin, e_eqv, eqH_f, eqH_t, e_un, e_fa, e_ia, ia_eq, nat_eq, natV_nat, e_len, lnH_some, e_extract, ex_0, ex_1, e_call0, e_call1, e_call2, e_call3, pc0_eq, pc1_some, pc2_some, pc3_some, fin_some, g_var0, g_vars, g_loc0, g_locs, g_int, g_bool, g_str, g_sl, s_none, s_zero, s_succ, cl_nil, cl_str, cl_bool, cl_slc, cl_own, evFa, evNil, asEl, evBin, intBin, strBin, evUn, len_nil, len_slc, len_str, clr, List.length_nil, List.length_cons, List.getElem?_cons_zero, List.getElem?_cons_succ, Nat.reduceAdd, Nat.zero_add, Nat.add_zero, Nat.reduceLeDiff, Nat.reduceSub, ↓reduceIte, List.drop_succ_cons, List.drop_zero, List.take_succ_cons, List.take_zero, Bool.false_eq_true, List.nil_append, List.cons_append, Bool.not_true, Bool.not_false, cond_true, cond_false, bne, lv_ret, lv_normal, res1, res2, lv2_some, res_var, res_cell, lvf_v, lvf_slc, res1c, lvo1_some, e_mm, mm_max, mm_min, cl_agg, cl_int, g_agg, e_callv1, cv1_fn, e_slice2, e_clrrow, e_callf2, pick_und, cells_agg, Option.map_some, Option.map_none, bx_some]
      · have hie : i = l.length := by omega
        subst hie
        have hlt := lt_f (n := l.length)
        refine ⟨.exit 0, V8 c l.length l.length .junk (.v (.bool false)) .junk, h', ?_, .inr ⟨rfl, _, _, _, rfl⟩⟩
        simp only [V8, c8_9, c8_4, hlt, run_nil, run_cons, stp_plain, stp_guard, put_some, pass_eq, pick_tt, pick_ff, pick_tf, pick_ft, pick_u, reg_some, thn_normal, thn_exit, thn_ret, cnd_t, cnd_f, blk_normal, blk_ret, blk_exit, x_seq, x_region, x_cond, x_block, x_loop, x_ret, x_exit, x_skip, e_mov, e_pick, pk_t, pk_f, withH_some, e_box, e_load, e_store, stH_some, e_nil, e_bin, e_eqv, eqH_f, eqH_t, e_un, e_fa, e_ia, ia_eq, nat_eq, natV_nat, e_len, lnH_some, e_extract, ex_0, ex_1, e_call0, e_call1, e_call2, e_call3, pc0_eq, pc1_some, pc2_some, pc3_some, fin_some, g_var0, g_vars, g_loc0, g_locs, g_int, g_bool, g_str, g_sl, s_none, s_zero, s_succ, cl_nil, cl_str, cl_bool, cl_slc, cl_own, evFa, evNil, asEl, evBin, intBin, strBin, evUn, len_nil, len_slc, len_str, clr, List.length_nil, List.length_cons, List.getElem?_cons_zero, List.getElem?_cons_succ, Nat.reduceAdd, Nat.zero_add, Nat.add_zero, Nat.reduceLeDiff, Nat.reduceSub, ↓reduceIte, List.drop_succ_cons, List.drop_zero, List.take_succ_cons, List.take_zero, Bool.false_eq_true, List.nil_append, List.cons_append, Bool.not_true, Bool.not_false, cond_true, cond_false, bne, lv_ret, lv_normal, res1, res2, lv2_some, res_var, res_cell, lvf_v, lvf_slc, res1c, lvo1_some, e_mm, mm_max, mm_min, cl_agg, cl_int, g_agg, e_callv1, cv1_fn, e_slice2, e_clrrow, e_callf2, pick_und, cells_agg, Option.map_some, Option.map_none, bx_some])
  exact ⟨e, v', h', g1, g3⟩
theorem lv1_one {h : List AO} {vars : List AV} {i : Nat} {x : Value} (hx : getO vars [] (.var i) = .v x) : lv [.var i] (some (.ret, vars, h)) = some (.v x, []) := by
  simp only [lv_ret]
  have h1 : resOf vars h (.var i) = some (.v x) := by rw [← hx]; rfl
  simp only [List.mapM_cons, List.mapM_nil, h1]
  rfl
theorem big_ok {a : AV} {c : Co} (ha : IsCo a c) : ∃ r, callW F 8 [a] [] = some (.v (.bool r), []) ∧ (r = false → c.l.length ≤ 2000) := by
  cases ha with
  | mk nm ar vs c3 l hl =>
  obtain ⟨es, hs, hes, hm⟩ := hl
  have hel := hes.length
  have cl := (show (AV.agg [.v (.string nm), .v (.int .i64 ar), .v (.int .i64 vs), c3]).cl = some [.v (.string nm), .v (.int .i64 ar), .v (.int .i64 vs), c3] by cases hs <;> rfl)
  have l0 : ∀ h, evLoad (.box [.v (.string nm), .v (.int .i64 ar), .v (.int .i64 vs), c3] :: h) false 1 (.ptr 0 0) = some (.v (.string nm)) := fun _ => rfl
  have l3 : ∀ h, evLoad (.box [.v (.string nm), .v (.int .i64 ar), .v (.int .i64 vs), c3] :: h) false 1 (.ptr 0 3) = some c3 := fun _ => rfl
  have nl := fun h : List AO => hs.len h
  rw [hel] at nl
  have ln : ∀ h : List AO, evLen h .string (.v (.string nm)) = some nm.size := fun _ => rfl
  have st8 : start c8 [.agg [.v (.string nm), .v (.int .i64 ar), .v (.int .i64 vs), c3]] = [.agg [.v (.string nm), .v (.int .i64 ar), .v (.int .i64 vs), c3], .v undef, .v undef, .v undef, .v undef, .v undef, .v undef, .v undef, .v undef, .v undef] := rfl
  have hres : c8.res = [.var 2] := rfl
  cases b1 : decide ((l.length : Int) > 2000) with
  | true =>
    refine ⟨true, callW_pure (c := c8) rfl rfl 0 ?_, fun h => by cases h⟩
    rw [st8]
    simp only [c8, c8_0, c8_1, c8_2, cl, l0, l3, nl, ln, b1, pick_und, run_nil, run_cons, stp_plain, stp_guard, put_some, pass_eq, pick_tt, pick_ff, pick_tf, pick_ft, pick_u, reg_some, thn_normal, thn_exit, thn_ret, cnd_t, cnd_f, blk_normal, blk_ret, blk_exit, x_seq, x_region, x_cond, x_block, x_loop, x_ret, x_exit, x_skip, e_mov, e_pick, pk_t, pk_f, withH_some, e_box, e_load, e_store, stH_some, e_nil, e_bin, e_eqv, eqH_f, eqH_t, e_un, e_fa, e_ia, ia_eq, nat_eq, natV_nat, e_len, lnH_some, e_extract, ex_0, ex_1, e_call0, e_call1, e_call2, e_call3, pc0_eq, pc1_some, pc2_some, pc3_some, fin_some, g_var0, g_vars, g_loc0, g_locs, g_int, g_bool, g_str, g_sl, s_none, s_zero, s_succ, cl_nil, cl_str, cl_bool, cl_slc, cl_own, evFa, evNil, asEl, evBin, intBin, strBin, evUn, len_nil, len_slc, len_str, clr, List.length_nil, List.length_cons, List.getElem?_cons_zero, List.getElem?_cons_succ, Nat.reduceAdd, Nat.zero_add, Nat.add_zero, Nat.reduceLeDiff, Nat.reduceSub, ↓reduceIte, List.drop_succ_cons, List.drop_zero, List.take_succ_cons, List.take_zero, Bool.false_eq_true, List.nil_append, List.cons_append, Bool.not_true, Bool.not_false, cond_true, cond_false, bne, lv_ret, lv_normal, res1, res2, lv2_some, res_var, res_cell, lvf_v, lvf_slc, res1c, lvo1_some, e_mm, mm_max, mm_min, cl_agg, cl_int, g_agg, e_callv1, cv1_fn, e_slice2, e_clrrow, e_callf2, pick_und, cells_agg, Option.map_some, Option.map_none, bx_some]
  | false =>
    have hle : l.length ≤ 2000 := by simp at b1; omega
    cases b2 : decide ((nm.size : Int) > 1000) with
    | true =>
      refine ⟨true, callW_pure (c := c8) rfl rfl 0 ?_, fun h => by cases h⟩
      rw [st8]
      simp only [c8, c8_0, c8_1, c8_2, cl, l0, l3, nl, ln, b1, b2, pick_und, run_nil, run_cons, stp_plain, stp_guard, put_some, pass_eq, pick_tt, pick_ff, pick_tf, pick_ft, pick_u, reg_some, thn_normal, thn_exit, thn_ret, cnd_t, cnd_f, blk_normal, blk_ret, blk_exit, x_seq, x_region, x_cond, x_block, x_loop, x_ret, x_exit, x_skip, e_mov, e_pick, pk_t, pk_f, withH_some, e_box, e_load, e_store, stH_some, e_nil, e_bin, e_eqv, eqH_f, eqH_t, e_un, e_fa, e_ia, ia_eq, nat_eq, natV_nat, e_len, lnH_some, e_extract, ex_0, ex_1, e_call0, e_call1, e_call2, e_call3, pc0_eq, pc1_some, pc2_some, pc3_some, fin_some, g_var0, g_vars, g_loc0, g_locs, g_int, g_bool, g_str, g_sl, s_none, s_zero, s_succ, cl_nil, cl_str, cl_bool, cl_slc, cl_own, evFa, evNil, asEl, evBin, intBin, strBin, evUn, len_nil, len_slc, len_str, clr, List.length_nil, List.length_cons, List.getElem?_cons_zero, List.getElem?_cons_succ, Nat.reduceAdd, Nat.zero_add, Nat.add_zero, Nat.reduceLeDiff, Nat.reduceSub, ↓reduceIte, List.drop_succ_cons, List.drop_zero, List.take_succ_cons, List.take_zero, Bool.false_eq_true, List.nil_append, List.cons_append, Bool.not_true, Bool.not_false, cond_true, cond_false, bne, lv_ret, lv_normal, res1, res2, lv2_some, res_var, res_cell, lvf_v, lvf_slc, res1c, lvo1_some, e_mm, mm_max, mm_min, cl_agg, cl_int, g_agg, e_callv1, cv1_fn, e_slice2, e_clrrow, e_callf2, pick_und, cells_agg, Option.map_some, Option.map_none, bx_some]
    | false =>
      obtain ⟨e, v', h', g1, g2⟩ := big_loop (K := l.length + 1) hs hes (by omega) (by omega) [.box [.v (.string nm), .v (.int .i64 ar), .v (.int .i64 vs), c3]] [.agg [.v (.string nm), .v (.int .i64 ar), .v (.int .i64 vs), c3], .ptr 0 0, .v (.bool false), .v undef, .v (.bool false), c3, .v (.int .i64 l.length), .v (.int .i64 0), .v undef, .v undef] rfl
      have hbody : c8.body = (.seq (.region [] [] c8_0) (.seq (.seq (.region [] [] c8_1) (.cond (.var 4) (.seq (.region [] [] c8_2) .ret) .skip)) (.seq (.seq (.region [] [] c8_3) (.block 0 (.loop K8 [] c8_9))) (.seq (.region [] [] c8_10) .ret)))) := rfl
      rcases g2 with ⟨rfl, g2⟩ | ⟨rfl, x3, x8, x9, rfl⟩
      · refine ⟨true, callW_pure (c := c8) rfl rfl (l.length + 1) ?_, fun h => by cases h⟩
        rw [st8, hbody, hres]
        generalize c8_9 = bb at g1 ⊢
        simp only [c8_0, c8_1, c8_3, cl, l0, l3, nl, ln, b1, b2, g1, pick_und, run_nil, run_cons, stp_plain, stp_guard, put_some, pass_eq, pick_tt, pick_ff, pick_tf, pick_ft, pick_u, reg_some, thn_normal, thn_exit, thn_ret, cnd_t, cnd_f, blk_normal, blk_ret, blk_exit, x_seq, x_region, x_cond, x_block, x_loop, x_ret, x_exit, x_skip, e_mov, e_pick, pk_t, pk_f, withH_some, e_box, e_load, e_store, stH_some, e_nil, e_bin, e_eqv, eqH_f, eqH_t, e_un, e_fa, e_ia, ia_eq, nat_eq, natV_nat, e_len, lnH_some, e_extract, ex_0, ex_1, e_call0, e_call1, e_call2, e_call3, pc0_eq, pc1_some, pc2_some, pc3_some, fin_some, g_var0, g_vars, g_loc0, g_locs, g_int, g_bool, g_str, g_sl, s_none, s_zero, s_succ, cl_nil, cl_str, cl_bool, cl_slc, cl_own, evFa, evNil, asEl, evBin, intBin, strBin, evUn, len_nil, len_slc, len_str, clr, List.length_nil, List.length_cons, List.getElem?_cons_zero, List.getElem?_cons_succ, Nat.reduceAdd, Nat.zero_add, Nat.add_zero, Nat.reduceLeDiff, Nat.reduceSub, ↓reduceIte, List.drop_succ_cons, List.drop_zero, List.take_succ_cons, List.take_zero, Bool.false_eq_true, List.nil_append, List.cons_append, Bool.not_true, Bool.not_false, cond_true, cond_false, bne, lv_ret, lv_normal, res1, res2, lv2_some, res_var, res_cell, lvf_v, lvf_slc, res1c, lvo1_some, e_mm, mm_max, mm_min, cl_agg, cl_int, g_agg, e_callv1, cv1_fn, e_slice2, e_clrrow, e_callf2, pick_und, cells_agg, Option.map_some, Option.map_none, bx_some]
        exact lv1_one g2
      · refine ⟨false, callW_pure (c := c8) rfl rfl (l.length + 1) ?_, fun _ => hle⟩
        rw [st8, hbody, hres]
        simp only [V8] at g1
        generalize c8_9 = bb at g1 ⊢
        simp only [c8_0, c8_1, c8_3, c8_10, cl, l0, l3, nl, ln, b1, b2, g1, pick_und, run_nil, run_cons, stp_plain, stp_guard, put_some, pass_eq, pick_tt, pick_ff, pick_tf, pick_ft, pick_u, reg_some, thn_normal, thn_exit, thn_ret, cnd_t, cnd_f, blk_normal, blk_ret, blk_exit, x_seq, x_region, x_cond, x_block, x_loop, x_ret, x_exit, x_skip, e_mov, e_pick, pk_t, pk_f, withH_some, e_box, e_load, e_store, stH_some, e_nil, e_bin, e_eqv, eqH_f, eqH_t, e_un, e_fa, e_ia, ia_eq, nat_eq, natV_nat, e_len, lnH_some, e_extract, ex_0, ex_1, e_call0, e_call1, e_call2, e_call3, pc0_eq, pc1_some, pc2_some, pc3_some, fin_some, g_var0, g_vars, g_loc0, g_locs, g_int, g_bool, g_str, g_sl, s_none, s_zero, s_succ, cl_nil, cl_str, cl_bool, cl_slc, cl_own, evFa, evNil, asEl, evBin, intBin, strBin, evUn, len_nil, len_slc, len_str, clr, List.length_nil, List.length_cons, List.getElem?_cons_zero, List.getElem?_cons_succ, Nat.reduceAdd, Nat.zero_add, Nat.add_zero, Nat.reduceLeDiff, Nat.reduceSub, ↓reduceIte, List.drop_succ_cons, List.drop_zero, List.take_succ_cons, List.take_zero, Bool.false_eq_true, List.nil_append, List.cons_append, Bool.not_true, Bool.not_false, cond_true, cond_false, bne, lv_ret, lv_normal, res1, res2, lv2_some, res_var, res_cell, lvf_v, lvf_slc, res1c, lvo1_some, e_mm, mm_max, mm_min, cl_agg, cl_int, g_agg, e_callv1, cv1_fn, e_slice2, e_clrrow, e_callf2, pick_und, cells_agg, Option.map_some, Option.map_none, bx_some]

/-! ### What a code is that goes -/
theorem step_some {vs : Int} {s s' : VS} {i : In} (h : stepT vs s i = some s') : (rowT i.op).2.2 = true ∧ s.over = false ∧ standsT s.regs s.parts s.of s.head (rowT i.op).1 (rowT i.op).2.1 i = true ∧ wholeT s.regs s.known vs s.head (rowT i.op).1 (rowT i.op).2.1 i = true ∧ s' = doesT s (rowT i.op).1 (rowT i.op).2.1 i := by
  unfold stepT at h
  split at h
  · rename_i hc
    simp only [Bool.and_eq_true, Bool.not_eq_true'] at hc
    exact ⟨hc.1, hc.2.1, hc.2.2.2.1, hc.2.2.2.2, (Option.some.inj h).symm⟩
  · cases h
theorem does_over (s : VS) (r k : Int) (i : In) : (doesT s r k i).over = if r = 4 then i.op == 23 else s.over := by
  unfold doesT headOff
  dsimp only
  repeat' split
  all_goals rfl
theorem does_known (s : VS) (r k : Int) (i : In) : (doesT s r k i).known = if r = 4 then s.known else if k = 0 then i.b :: s.known else s.known := by
  unfold doesT headOff
  dsimp only
  repeat' split
  all_goals first | rfl | simp_all
theorem row_in {op : Int} (h : (rowT op).2.2 = true) : 1 ≤ op ∧ op ≤ 23 := by
  unfold rowT at h
  split at h
  · cases h
  · omega
theorem row4 {op : Int} (h : 1 ≤ op ∧ op ≤ 23) : (rowT op).1 = 4 ↔ 21 ≤ op := by
  unfold rowT
  rw [if_neg (by omega)]
  split
  · simp; omega
  · dsimp only; omega
/-- an instruction that names a variable -/
def namesVar (op : Int) : Bool := op == 1 || (op == 2 || (op == 6 || (op == 7 || (op == 11 || (op == 12 || (op == 16 || op == 17))))))
theorem names_row {op : Int} (h : namesVar op = true) : (rowT op).1 ≠ 4 ∧ ((rowT op).2.1 = 0 ∨ (rowT op).2.1 = 1) := by
  simp only [namesVar, Bool.or_eq_true, beq_iff_eq] at h
  rcases h with rfl | rfl | rfl | rfl | rfl | rfl | rfl | rfl <;> decide
def goodI (vs : Int) (len i : Nat) (x : In) : Prop := ((x.op == 23) = (i + 1 == len)) ∧ (namesVar x.op = true → 0 ≤ x.b ∧ x.b < vs)
theorem run_good {vs : Int} : ∀ (l : List In) (n : Nat) (s : VS) (m : Int), s.over = false → (∀ b ∈ s.known, 0 ≤ b ∧ b < vs) → runT vs n s l = (m, 0) → m = 0 ∧ l ≠ [] ∧ ∀ i x, l[i]? = some x → goodI vs l.length i x := by
  intro l
  induction l with
  | nil =>
    intro n s m ho _ h
    simp only [runT, ho] at h
    have := (Prod.mk.inj h).2
    cases this
  | cons x l ih =>
    intro n s m ho hk h
    simp only [runT] at h
    cases hst : stepT vs s x with
    | none =>
      rw [hst] at h
      have := (Prod.mk.inj h).2
      cases this
    | some s' =>
      rw [hst] at h
      dsimp only at h
      obtain ⟨h1, _, h3, h4, rfl⟩ := step_some hst
      have hin := row_in h1
      have h44 := row4 hin
      have hbx : namesVar x.op = true → 0 ≤ x.b ∧ x.b < vs := by
        intro hn
        obtain ⟨r4, rk⟩ := names_row hn
        have hc : ¬ ((rowT x.op).1 = 4 ∧ x.op = 21) := fun e => r4 e.1
        unfold wholeT at h4
        rw [if_neg hc] at h4
        rcases rk with rk | rk
        · rw [rk] at h4
          rw [if_neg (by simp [r4]), if_pos rfl] at h4
          simp only [Bool.and_eq_true, decide_eq_true_eq] at h4
          exact ⟨h4.1, h4.2.1⟩
        · rw [rk] at h4
          rw [if_neg (by simp [r4]), if_neg (by decide), if_pos rfl] at h4
          exact hk _ (by simpa using h4)
      have hk' : ∀ b ∈ (doesT s (rowT x.op).1 (rowT x.op).2.1 x).known, 0 ≤ b ∧ b < vs := by
        intro b hb
        rw [does_known] at hb
        split at hb
        · exact hk b hb
        · rename_i r4
          split at hb
          · rename_i rk
            rcases List.mem_cons.1 hb with rfl | hb
            · have hc : ¬ ((rowT x.op).1 = 4 ∧ x.op = 21) := fun e => r4 e.1
              unfold wholeT at h4
              rw [if_neg hc, rk, if_neg (by simp [r4]), if_pos rfl] at h4
              simp only [Bool.and_eq_true, decide_eq_true_eq] at h4
              exact ⟨h4.1, h4.2.1⟩
            · exact hk b hb
          · exact hk b hb
      have hov := does_over s (rowT x.op).1 (rowT x.op).2.1 x
      by_cases hend : x.op = 23
      · have hov2 : (doesT s (rowT x.op).1 (rowT x.op).2.1 x).over = true := by
          rw [hov, if_pos (h44.2 (by omega))]; simp [hend]
        cases l with
        | nil =>
          simp only [runT, hov2, if_true] at h
          refine ⟨(Prod.mk.inj h).1.symm, by simp, fun i y hy => ?_⟩
          cases i with
          | zero =>
            simp only [List.getElem?_cons_zero, Option.some.injEq] at hy
            subst hy
            exact ⟨by simp [hend], hbx⟩
          | succ i => simp at hy
        | cons y l =>
          simp only [runT] at h
          have hno : stepT vs (doesT s (rowT x.op).1 (rowT x.op).2.1 x) y = none := by
            unfold stepT
            rw [hov2]
            simp
          rw [hno] at h
          have := (Prod.mk.inj h).2
          cases this
      · have hov2 : (doesT s (rowT x.op).1 (rowT x.op).2.1 x).over = false := by
          rw [hov]
          split
          · simpa using hend
          · exact ho
        obtain ⟨g1, g2, g3⟩ := ih (n + 1) _ m hov2 hk' h
        refine ⟨g1, by simp, fun i y hy => ?_⟩
        cases i with
        | zero =>
          simp only [List.getElem?_cons_zero, Option.some.injEq] at hy
          subst hy
          refine ⟨?_, hbx⟩
          have : l.length ≠ 0 := by simpa using g2
          have e1 : (x.op == 23) = false := by simpa using hend
          rw [e1]
          simp [g2]
        | succ i =>
          obtain ⟨q1, q2⟩ := g3 i y (by simpa using hy)
          refine ⟨?_, q2⟩
          rw [q1]
          simp
theorem run_bad {vs : Int} : ∀ (l : List In) (n : Nat) (s : VS), (runT vs n s l = (0, 0)) ∨ ∃ m : Nat, runT vs n s l = ((m : Int), 150) ∧ n ≤ m ∧ m ≤ n + l.length := by
  intro l
  induction l with
  | nil =>
    intro n s
    simp only [runT]
    split
    · exact .inl rfl
    · exact .inr ⟨n, rfl, by omega, by simp⟩
  | cons x l ih =>
    intro n s
    simp only [runT]
    split
    · exact .inr ⟨n, rfl, by omega, by simp⟩
    · rcases ih (n + 1) _ with h | ⟨m, h1, h2, h3⟩
      · exact .inl h
      · exact .inr ⟨m, h1, by omega, by simp; omega⟩
theorem chk_bad (c : Co) : (chkT c).2 = 0 ∨ ((chkT c).2 = 150 ∧ 0 ≤ (chkT c).1 ∧ (chkT c).1 ≤ c.l.length) := by
  unfold chkT checkT
  split
  · rcases run_bad c.l 0 (beginT c.ar) (vs := c.vs) with h | ⟨m, h1, h2, h3⟩
    · rw [h]; exact .inl rfl
    · rw [h1]; exact .inr ⟨rfl, by simp, by simp; omega⟩
  · exact .inr ⟨rfl, by simp, by simp⟩
theorem chk_good {c : Co} (h : (chkT c).2 = 0) : (chkT c).1 = 0 ∧ c.l ≠ [] ∧ ∀ i x, c.l[i]? = some x → goodI c.vs c.l.length i x := by
  unfold chkT checkT at h ⊢
  split at h
  · rename_i hok
    rw [if_pos hok]
    exact run_good c.l 0 (beginT c.ar) _ rfl (fun b hb => by simp [beginT] at hb) (Prod.ext rfl h)
  · cases h
end Go.AE.YtchiacliefahdaaDoor
end

/-! ValidBegins in plain Lean. -/
section
set_option linter.unusedVariables false
set_option linter.unusedSimpArgs false
namespace Go.AE.YtchiacliefahdaaDoor
open Go Go.AE Go.Proofs.YtchiacliefahdaaDoor

/-! ### What a beginning is -/
def goT (vs : Int) : VS → List In → Option VS
  | s, [] => some s
  | s, i :: l => match stepT vs s i with
    | none => none
    | some s' => goT vs s' l
theorem run_go {vs : Int} : ∀ (l1 l2 : List In) (n : Nat) (s s' : VS), goT vs s l1 = some s' → runT vs n s (l1 ++ l2) = runT vs (n + l1.length) s' l2 := by
  intro l1
  induction l1 with
  | nil => intro l2 n s s' h; simp only [goT, Option.some.injEq] at h; subst h; rfl
  | cons x l1 ih =>
    intro l2 n s s' h
    simp only [goT] at h
    simp only [List.cons_append, runT]
    cases hst : stepT vs s x with
    | none => rw [hst] at h; cases h
    | some s1 =>
      rw [hst] at h
      dsimp only at h ⊢
      rw [ih l2 (n + 1) s1 s' h, List.length_cons]
      congr 1; omega
theorem run_stop {vs : Int} : ∀ (l : List In) (n : Nat) (s : VS), goT vs s l = none → ∃ m : Nat, m < l.length ∧ ∀ more, runT vs n s (l ++ more) = (((n + m : Nat) : Int), 150) := by
  intro l
  induction l with
  | nil => intro n s h; cases h
  | cons x l ih =>
    intro n s h
    simp only [goT] at h
    cases hst : stepT vs s x with
    | none =>
      refine ⟨0, by simp, fun more => ?_⟩
      simp only [List.cons_append, runT, hst]; rfl
    | some s1 =>
      rw [hst] at h
      obtain ⟨m, h1, h2⟩ := ih (n + 1) s1 h
      refine ⟨m + 1, by simp; omega, fun more => ?_⟩
      simp only [List.cons_append, runT, hst, h2]
      congr 2; omega
theorem run_zero {vs : Int} {l : List In} {n : Nat} {s : VS} {m : Int} (h : runT vs n s l = (m, 0)) : ∃ s', goT vs s l = some s' ∧ s'.over = true := by
  cases hg : goT vs s l with
  | none =>
    obtain ⟨k, _, h2⟩ := run_stop l n s hg
    have := h2 []
    rw [List.append_nil, h] at this
    have := (Prod.mk.inj this).2
    cases this
  | some s' =>
    refine ⟨s', rfl, ?_⟩
    have := run_go l [] n s s' hg
    rw [List.append_nil, h] at this
    simp only [runT] at this
    cases ho : s'.over with
    | true => rfl
    | false =>
      rw [ho] at this
      have := (Prod.mk.inj this).2
      cases this
theorem go_app {vs : Int} : ∀ (l1 l2 : List In) (s s' : VS), goT vs s (l1 ++ l2) = some s' → ∃ s1, goT vs s l1 = some s1 ∧ goT vs s1 l2 = some s' := by
  intro l1
  induction l1 with
  | nil => intro l2 s s' h; exact ⟨s, rfl, h⟩
  | cons x l1 ih =>
    intro l2 s s' h
    simp only [List.cons_append, goT] at h ⊢
    cases hst : stepT vs s x with
    | none => rw [hst] at h; cases h
    | some s1 =>
      rw [hst] at h
      exact ih l2 s1 s' h
theorem go_take {vs : Int} {l : List In} {s s' : VS} (h : goT vs s l = some s') {k : Nat} (hk : k < l.length) : ∃ sk, goT vs s (l.take k) = some sk ∧ sk.over = false := by
  have he : l = l.take k ++ (l[k] :: l.drop (k + 1)) := by
    rw [← List.drop_eq_getElem_cons hk, List.take_append_drop]
  rw [he] at h
  obtain ⟨sk, h1, h2⟩ := go_app _ _ _ _ h
  refine ⟨sk, h1, ?_⟩
  simp only [goT] at h2
  cases hst : stepT vs sk l[k] with
  | none => rw [hst] at h2; cases h2
  | some s1 => exact (step_some hst).2.1
theorem does_parts4 (s : VS) (k : Int) (i : In) : (doesT s 4 k i).parts = s.parts := by
  unfold doesT headOff
  dsimp only
  repeat' split
  all_goals first | rfl | simp_all
theorem go_last {vs : Int} {l : List In} {s s' : VS} {k : Nat} {x : In} (hx : l[k]? = some x) (h : goT vs s (l.take (k + 1)) = some s') (ho : x.op = 21 ∨ x.op = 22) : s'.parts = 0 := by
  have he : l.take (k + 1) = l.take k ++ [x] := by rw [List.take_add_one, hx]; rfl
  rw [he] at h
  obtain ⟨sk, h1, h2⟩ := go_app _ _ _ _ h
  simp only [goT] at h2
  cases hst : stepT vs sk x with
  | none => rw [hst] at h2; cases h2
  | some s1 =>
    rw [hst] at h2
    simp only [Option.some.injEq] at h2
    subst h2
    obtain ⟨_, _, h3, _, rfl⟩ := step_some hst
    have hr : (rowT x.op).1 = 4 := by rcases ho with e | e <;> rw [e] <;> decide
    rw [hr] at h3 ⊢
    rw [does_parts4]
    simpa [standsT] using h3
/-- an end -/
def endI : In := ⟨23, 0, 0, ⟨#[]⟩, 0⟩
theorem end_step {vs : Int} {s : VS} (ho : s.over = false) : stepT vs s endI = if s.parts = 0 then some (doesT s 4 2 endI) else none := by
  have hr : rowT endI.op = (4, 2, true) := by decide
  have hc : charT endI.nm = true := by kernel_rfl
  have hs : standsT s.regs s.parts s.of s.head 4 2 endI = (s.parts == 0) := by simp [standsT]
  have hw : wholeT s.regs s.known vs s.head 4 2 endI = true := by simp [wholeT, endI]
  unfold stepT
  rw [hr]
  dsimp only
  rw [hc, hs, hw, ho]
  by_cases hp : s.parts = 0 <;> simp [hp]
theorem chk_begin {c : Co} (h : (chkT c).2 = 0) {k : Nat} (hk : k < c.l.length) :
    chkT { c with l := c.l.take k ++ [endI] } = (0, 0) ∨ (chkT { c with l := c.l.take k ++ [endI] } = ((k : Int), 150) ∧ 0 < k ∧ ∀ x, c.l[k - 1]? = some x → x.op ≠ 21 ∧ x.op ≠ 22) := by
  unfold chkT checkT at h ⊢
  dsimp only
  split at h
  · rename_i hok
    rw [if_pos hok]
    obtain ⟨s', g1, g2⟩ := run_zero (Prod.ext rfl h : runT c.vs 0 (beginT c.ar) c.l = (_, 0))
    obtain ⟨sk, g3, g4⟩ := go_take g1 hk
    have hr := run_go (c.l.take k) [endI] 0 _ _ g3
    rw [hr]
    have hlen : 0 + (c.l.take k).length = k := by simp; omega
    rw [hlen]
    simp only [runT, end_step g4]
    by_cases hp : sk.parts = 0
    · rw [if_pos hp]
      have : (doesT sk 4 2 endI).over = true := by rw [does_over]; rfl
      left
      simp only [this, if_true]
    · rw [if_neg hp]
      right
      refine ⟨rfl, ?_, fun x hx => ?_⟩
      · rcases Nat.eq_zero_or_pos k with e | e
        · subst e
          simp only [List.take_zero, goT, Option.some.injEq] at g3
          subst g3
          exact absurd rfl hp
        · exact e
      · rcases Nat.eq_zero_or_pos k with e | e
        · subst e
          simp only [List.take_zero, goT, Option.some.injEq] at g3
          subst g3
          exact absurd rfl hp
        · have hk1 : k - 1 + 1 = k := by omega
          rw [← hk1] at g3
          exact ⟨fun e => hp (go_last hx g3 (.inl e)), fun e => hp (go_last hx g3 (.inr e))⟩
  · cases h
theorem chk_more {c : Co} (more : List In) : ((chkT c).2 = 0 → more ≠ [] → chkT { c with l := c.l ++ more } = ((c.l.length : Int), 150)) ∧ ((chkT c).2 ≠ 0 → (chkT c).1 < c.l.length → chkT { c with l := c.l ++ more } = ((chkT c).1, 150)) := by
  unfold chkT checkT
  dsimp only
  cases hok : okT c.nm c.ar c.vs with
  | false => simp
  | true =>
    simp only [if_true]
    refine ⟨fun h hm => ?_, fun h hl => ?_⟩
    · obtain ⟨s', g1, g2⟩ := run_zero (Prod.ext rfl h : runT c.vs 0 (beginT c.ar) c.l = (_, 0))
      rw [run_go c.l more 0 _ _ g1]
      cases more with
      | nil => exact absurd rfl hm
      | cons y r =>
        have hno : stepT c.vs s' y = none := by
          unfold stepT; rw [g2]; simp
        simp only [runT, hno, Nat.zero_add]
    · cases hg : goT c.vs (beginT c.ar) c.l with
      | none =>
        obtain ⟨m, h1, h2⟩ := run_stop c.l 0 _ hg
        have e1 := h2 []
        rw [List.append_nil] at e1
        rw [h2 more, e1]
      | some s' =>
        have e1 := run_go c.l [] 0 _ _ hg
        rw [List.append_nil] at e1
        rw [e1] at h hl
        simp only [runT] at h hl
        cases ho : s'.over with
        | true => rw [ho] at h; exact absurd rfl h
        | false =>
          rw [ho] at hl
          simp only [Bool.false_eq_true, if_false] at hl
          omega

/-! ### A code that is made -/
theorem acc_set {sz : Nat} {h : List AO} {c : AV} {es : List AV} (a : Acc sz h c es) {j : Nat} {cs cs' : List AV} (hj : h[j]? = some (.box cs)) : Acc sz (h.set j (.box cs')) c es := by
  cases a with
  | nil => exact .nil
  | own id ver k es hr hk hne =>
    refine .own id ver k es ?_ hk hne
    rw [List.getElem?_set_ne]
    · exact hr
    · rintro rfl; rw [hr] at hj; cases hj
theorem takes {α : Type} {R : AV → α → Prop} : ∀ {es : List AV} {l : List α}, AllR R es l → ∀ n, AllR R (es.take n) (l.take n)
  | _, _, .nil, n => by simp; exact .nil
  | _, _, .cons a x es l h hs, 0 => by simp; exact .nil
  | _, _, .cons a x es l h hs, n + 1 => by simp; exact .cons _ _ _ _ h (takes hs n)
theorem made {h : List AO} {j : Nat} {nm : ByteArray} {ar vs : Int} {c3 m : AV} {fs : List AV} {l : List In} (hj : h[j]? = some (.box [.v (.string nm), .v (.int .i64 ar), .v (.int .i64 vs), c3])) (ha : Acc 5 h m fs) (hf : AllR IsIn fs l) (hl : fs.length ≤ maxLen) :
    ∃ h4 h5, evStore h 1 (.ptr j 3) m = some h4 ∧ (∀ (vars : List AV) (i : Nat), vars.getD i .junk = .ptr j 0 → doMark (vars, h4) (.p i 3 1) = (vars, h5)) ∧
      ∃ D D', evLoad h5 true 4 (.ptr j 0) = some D ∧ D.snap1 h5 = some D' ∧ IsCo D' ⟨nm, ar, vs, l⟩ ∧ ∀ (i : Nat) (cs : List AV), i ≠ j → h[i]? = some (.box cs) → h5[i]? = some (.box cs) := by
  have hlt := (List.getElem?_eq_some_iff.1 hj).1
  have hcl := ha.cl
  have hst : evStore h 1 (.ptr j 3) m = some (h.set j (.box [.v (.string nm), .v (.int .i64 ar), .v (.int .i64 vs), m])) := by
    exact bx_st (n := 1) (o := 3) hj hcl rfl (by simp)
  have ha4 := acc_set (cs' := [.v (.string nm), .v (.int .i64 ar), .v (.int .i64 vs), m]) ha hj
  have hj4 : (h.set j (AO.box [.v (.string nm), .v (.int .i64 ar), .v (.int .i64 vs), m]))[j]? = some (.box [.v (.string nm), .v (.int .i64 ar), .v (.int .i64 vs), m]) := by simp [hlt]
  have hr : ∀ H : List AO, raise0 H m = raise1 H m := by intro H; cases ha <;> rfl
  obtain ⟨x1, x2⟩ := ha4.fxd
  have hj5 := x2.box hj4
  obtain ⟨m3, y1, y2⟩ := x1.snap
  have hs0 : ∀ H : List AO, m.snap1 H = m.snap0 H := by intro H; cases ha <;> rfl
  rw [hs0] at y1
  refine ⟨_, _, hst, fun vars i hv => ?_, .agg [.v (.string nm), .v (.int .i64 ar), .v (.int .i64 vs), m], .agg [.v (.string nm), .v (.int .i64 ar), .v (.int .i64 vs), m3], ?_, ?_, .mk _ _ _ _ _ ⟨fs, y2, hf, hl⟩, fun i cs hi hb => x2.box ?_⟩
  · simp only [doMark, hv, hj4]
    simp only [Nat.zero_add, List.drop_succ_cons, List.drop_zero, List.take_succ_cons, List.take_zero, List.foldl_cons, List.foldl_nil, hr]
  · simp only [evLoad, hj5]; rfl
  · have e1 : ∀ (H : List AO) (x : Value), (AV.v x).snap0 H = some (.v x) := fun _ _ => rfl
    simp [AV.snap1, e1, y1]
  · rw [List.getElem?_set_ne (Ne.symm hi)]; exact hb
end Go.AE.YtchiacliefahdaaDoor
end
