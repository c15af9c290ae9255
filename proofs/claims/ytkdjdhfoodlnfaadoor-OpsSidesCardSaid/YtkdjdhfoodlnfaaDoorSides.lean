/- OpsSides holds, its card with it: whatever the operator, where the library's variables lie as its text lays them, it returns true, and the input reads as it did. Conditions: none beside. -/
import Derived.Test.YtkdjdhfoodlnfaaDoorPart1
set_option linter.unusedVariables false
set_option linter.unusedSimpArgs false
namespace Go.AE.YtkdjdhfoodlnfaaDoor
open Go Go.AE Go.Proofs.YtkdjdhfoodlnfaaDoor
set_option maxRecDepth 100000

theorem lit_ne {s t : ByteArray} (h : s ≠ t) : (s.toList == t.toList) = false := by
  rw [Bool.eq_false_iff]
  intro e
  apply h
  have : s.toList = t.toList := by simpa using e
  have h1 : s.data.toList = t.data.toList := by rw [← Go.ByteArray.toList_eq, ← Go.ByteArray.toList_eq]; exact this
  obtain ⟨⟨a⟩⟩ := s
  obtain ⟨⟨b⟩⟩ := t
  cases h1
  rfl

/-- the four functions agree on an operator -/
def Agree (o : AV) : Prop := ∃ l r : Int, callW F 8 [o] [] = some (.v (.int .i64 l), []) ∧ callW F 9 [o] [] = some (.v (.int .i64 l), []) ∧ callW F 10 [o] [] = some (.v (.int .i64 r), []) ∧ callW F 11 [o] [] = some (.v (.int .i64 r), [])
def W : Int → Int := fun p => IntKind.i64.wrap (p - 1)
theorem agree_xfx (p : Int) : Agree (opV p ⟨#[120, 102, 120]⟩) := ⟨W p, W p, callW_iff.2 ⟨5, by kernel_rfl⟩, callW_iff.2 ⟨5, by kernel_rfl⟩, callW_iff.2 ⟨5, by kernel_rfl⟩, callW_iff.2 ⟨5, by kernel_rfl⟩⟩
theorem agree_xfy (p : Int) : Agree (opV p ⟨#[120, 102, 121]⟩) := ⟨W p, p, callW_iff.2 ⟨5, by kernel_rfl⟩, callW_iff.2 ⟨5, by kernel_rfl⟩, callW_iff.2 ⟨5, by kernel_rfl⟩, callW_iff.2 ⟨5, by kernel_rfl⟩⟩
theorem agree_yfx (p : Int) : Agree (opV p ⟨#[121, 102, 120]⟩) := ⟨p, W p, callW_iff.2 ⟨5, by kernel_rfl⟩, callW_iff.2 ⟨5, by kernel_rfl⟩, callW_iff.2 ⟨5, by kernel_rfl⟩, callW_iff.2 ⟨5, by kernel_rfl⟩⟩
theorem agree_fx (p : Int) : Agree (opV p ⟨#[102, 120]⟩) := ⟨0, W p, callW_iff.2 ⟨5, by kernel_rfl⟩, callW_iff.2 ⟨5, by kernel_rfl⟩, callW_iff.2 ⟨5, by kernel_rfl⟩, callW_iff.2 ⟨5, by kernel_rfl⟩⟩
theorem agree_fy (p : Int) : Agree (opV p ⟨#[102, 121]⟩) := ⟨0, p, callW_iff.2 ⟨5, by kernel_rfl⟩, callW_iff.2 ⟨5, by kernel_rfl⟩, callW_iff.2 ⟨5, by kernel_rfl⟩, callW_iff.2 ⟨5, by kernel_rfl⟩⟩
theorem ld_op (p : Int) (s : ByteArray) (tl : List AO) : evLoad (.box [.v (.int .i64 p), .v (.string s)] :: tl) false 1 (.ptr 0 1) = some (.v (.string s)) := rfl
theorem ld_op2 (p : Int) (s : ByteArray) (tl : List AO) : evLoad (.box [.v (.int .i64 p), .v (.string s)] :: tl) true 2 (.ptr 0 0) = some (opV p s) := rfl
theorem agree (p : Int) (s : ByteArray) : Agree (opV p s) := by
  by_cases h1 : s = ⟨#[120, 102, 120]⟩
  · subst h1; exact agree_xfx p
  by_cases h2 : s = ⟨#[120, 102, 121]⟩
  · subst h2; exact agree_xfy p
  by_cases h3 : s = ⟨#[121, 102, 120]⟩
  · subst h3; exact agree_yfx p
  by_cases h4 : s = ⟨#[102, 120]⟩
  · subst h4; exact agree_fx p
  by_cases h5 : s = ⟨#[102, 121]⟩
  · subst h5; exact agree_fy p
  have e1 := lit_ne h1
  have e2 := lit_ne h2
  have e3 := lit_ne h3
  have e4 := lit_ne h4
  have e5 := lit_ne h5
  refine ⟨0, 0, callW_pure (c := c8) rfl rfl 0 ?_, callW_pure (c := c9) rfl rfl 0 ?_, callW_pure (c := c10) rfl rfl 0 ?_, callW_pure (c := c11) rfl rfl 0 ?_⟩
  · simp only [opV, c8, start, List.replicate, c8_0, c8_1, c8_2, c8_4, c8_5, c8_7, ld_op, e1, e2, e3, e4, e5, cl_agg, e_bslice1, e_bslice2, bs1, bs2, e_build, bdH_some, bd_nil, bd_cons, bd1, cl_agg, cl_int, toL, List.map_cons, List.map_nil, putAt, List.set_cons_zero, List.set_cons_succ, and_self, Nat.le_refl, app_get, app_set, g_agg, run_nil, run_cons, stp_plain, stp_guard, put_some, pass_eq, pick_tt, pick_ff, pick_tf, pick_ft, pick_u, reg_some, thn_normal, thn_exit, thn_ret, cnd_t, cnd_f, blk_normal, blk_ret, blk_exit, x_seq, x_region, x_cond, x_block, x_loop, x_ret, x_exit, x_skip, e_mov, e_pick, pk_t, pk_f, withH_some, e_box, bx_some, e_load, e_store, stH_some, e_nil, e_bin, e_eqv, eqH_f, eqH_t, e_un, e_fa, e_ia, ia_eq, nat_eq, natV_nat, e_len, lnH_some, e_extract, ex_0, ex_1, e_call0, e_call1, e_call2, e_call3, pc0_eq, pc1_some, pc2_some, pc3_some, fin_some, g_var0, g_vars, g_loc0, g_locs, g_int, g_bool, g_str, g_sl, s_none, s_zero, s_succ, cl_nil, cl_str, cl_bool, cl_slc, cl_own, evFa, evNil, asEl, evBin, intBin, strBin, evUn, len_nil, len_slc, len_str, clr, List.length_nil, List.length_cons, List.getElem?_cons_zero, List.getElem?_cons_succ, Nat.reduceAdd, Nat.zero_add, Nat.add_zero, Nat.reduceLeDiff, Nat.reduceSub, ↓reduceIte, List.drop_succ_cons, List.drop_zero, List.take_succ_cons, List.take_zero, Bool.false_eq_true, List.nil_append, List.cons_append, Bool.not_true, Bool.not_false, cond_true, cond_false, bne, lv_ret, lv_normal, res1, res2, lv2_some, res_var, res_cell, lvf_v, lvf_slc, res1c, lvo1_some, e_mm, mm_max, mm_min]
  · simp only [opV, c9, start, List.replicate, c9_0, c9_1, c9_2, c9_3, c9_4, c9_6, ld_op, e1, e2, e3, e4, e5, cl_agg, e_bslice1, e_bslice2, bs1, bs2, e_build, bdH_some, bd_nil, bd_cons, bd1, cl_agg, cl_int, toL, List.map_cons, List.map_nil, putAt, List.set_cons_zero, List.set_cons_succ, and_self, Nat.le_refl, app_get, app_set, g_agg, run_nil, run_cons, stp_plain, stp_guard, put_some, pass_eq, pick_tt, pick_ff, pick_tf, pick_ft, pick_u, reg_some, thn_normal, thn_exit, thn_ret, cnd_t, cnd_f, blk_normal, blk_ret, blk_exit, x_seq, x_region, x_cond, x_block, x_loop, x_ret, x_exit, x_skip, e_mov, e_pick, pk_t, pk_f, withH_some, e_box, bx_some, e_load, e_store, stH_some, e_nil, e_bin, e_eqv, eqH_f, eqH_t, e_un, e_fa, e_ia, ia_eq, nat_eq, natV_nat, e_len, lnH_some, e_extract, ex_0, ex_1, e_call0, e_call1, e_call2, e_call3, pc0_eq, pc1_some, pc2_some, pc3_some, fin_some, g_var0, g_vars, g_loc0, g_locs, g_int, g_bool, g_str, g_sl, s_none, s_zero, s_succ, cl_nil, cl_str, cl_bool, cl_slc, cl_own, evFa, evNil, asEl, evBin, intBin, strBin, evUn, len_nil, len_slc, len_str, clr, List.length_nil, List.length_cons, List.getElem?_cons_zero, List.getElem?_cons_succ, Nat.reduceAdd, Nat.zero_add, Nat.add_zero, Nat.reduceLeDiff, Nat.reduceSub, ↓reduceIte, List.drop_succ_cons, List.drop_zero, List.take_succ_cons, List.take_zero, Bool.false_eq_true, List.nil_append, List.cons_append, Bool.not_true, Bool.not_false, cond_true, cond_false, bne, lv_ret, lv_normal, res1, res2, lv2_some, res_var, res_cell, lvf_v, lvf_slc, res1c, lvo1_some, e_mm, mm_max, mm_min]
  · simp only [opV, c10, start, List.replicate, c10_0, c10_1, c10_2, c10_3, c10_5, c10_6, c10_7, c10_9, ld_op, e1, e2, e3, e4, e5, cl_agg, e_bslice1, e_bslice2, bs1, bs2, e_build, bdH_some, bd_nil, bd_cons, bd1, cl_agg, cl_int, toL, List.map_cons, List.map_nil, putAt, List.set_cons_zero, List.set_cons_succ, and_self, Nat.le_refl, app_get, app_set, g_agg, run_nil, run_cons, stp_plain, stp_guard, put_some, pass_eq, pick_tt, pick_ff, pick_tf, pick_ft, pick_u, reg_some, thn_normal, thn_exit, thn_ret, cnd_t, cnd_f, blk_normal, blk_ret, blk_exit, x_seq, x_region, x_cond, x_block, x_loop, x_ret, x_exit, x_skip, e_mov, e_pick, pk_t, pk_f, withH_some, e_box, bx_some, e_load, e_store, stH_some, e_nil, e_bin, e_eqv, eqH_f, eqH_t, e_un, e_fa, e_ia, ia_eq, nat_eq, natV_nat, e_len, lnH_some, e_extract, ex_0, ex_1, e_call0, e_call1, e_call2, e_call3, pc0_eq, pc1_some, pc2_some, pc3_some, fin_some, g_var0, g_vars, g_loc0, g_locs, g_int, g_bool, g_str, g_sl, s_none, s_zero, s_succ, cl_nil, cl_str, cl_bool, cl_slc, cl_own, evFa, evNil, asEl, evBin, intBin, strBin, evUn, len_nil, len_slc, len_str, clr, List.length_nil, List.length_cons, List.getElem?_cons_zero, List.getElem?_cons_succ, Nat.reduceAdd, Nat.zero_add, Nat.add_zero, Nat.reduceLeDiff, Nat.reduceSub, ↓reduceIte, List.drop_succ_cons, List.drop_zero, List.take_succ_cons, List.take_zero, Bool.false_eq_true, List.nil_append, List.cons_append, Bool.not_true, Bool.not_false, cond_true, cond_false, bne, lv_ret, lv_normal, res1, res2, lv2_some, res_var, res_cell, lvf_v, lvf_slc, res1c, lvo1_some, e_mm, mm_max, mm_min]
  · simp only [opV, c11, start, List.replicate, c11_0, c11_1, c11_2, c11_3, c11_4, c11_5, c11_6, c11_8, ld_op, e1, e2, e3, e4, e5, cl_agg, e_bslice1, e_bslice2, bs1, bs2, e_build, bdH_some, bd_nil, bd_cons, bd1, cl_agg, cl_int, toL, List.map_cons, List.map_nil, putAt, List.set_cons_zero, List.set_cons_succ, and_self, Nat.le_refl, app_get, app_set, g_agg, run_nil, run_cons, stp_plain, stp_guard, put_some, pass_eq, pick_tt, pick_ff, pick_tf, pick_ft, pick_u, reg_some, thn_normal, thn_exit, thn_ret, cnd_t, cnd_f, blk_normal, blk_ret, blk_exit, x_seq, x_region, x_cond, x_block, x_loop, x_ret, x_exit, x_skip, e_mov, e_pick, pk_t, pk_f, withH_some, e_box, bx_some, e_load, e_store, stH_some, e_nil, e_bin, e_eqv, eqH_f, eqH_t, e_un, e_fa, e_ia, ia_eq, nat_eq, natV_nat, e_len, lnH_some, e_extract, ex_0, ex_1, e_call0, e_call1, e_call2, e_call3, pc0_eq, pc1_some, pc2_some, pc3_some, fin_some, g_var0, g_vars, g_loc0, g_locs, g_int, g_bool, g_str, g_sl, s_none, s_zero, s_succ, cl_nil, cl_str, cl_bool, cl_slc, cl_own, evFa, evNil, asEl, evBin, intBin, strBin, evUn, len_nil, len_slc, len_str, clr, List.length_nil, List.length_cons, List.getElem?_cons_zero, List.getElem?_cons_succ, Nat.reduceAdd, Nat.zero_add, Nat.add_zero, Nat.reduceLeDiff, Nat.reduceSub, ↓reduceIte, List.drop_succ_cons, List.drop_zero, List.take_succ_cons, List.take_zero, Bool.false_eq_true, List.nil_append, List.cons_append, Bool.not_true, Bool.not_false, cond_true, cond_false, bne, lv_ret, lv_normal, res1, res2, lv2_some, res_var, res_cell, lvf_v, lvf_slc, res1c, lvo1_some, e_mm, mm_max, mm_min]

theorem sides_ok (p : Int) (s : ByteArray) : callW F 3 [opV p s] [] = some (.v (.bool true), []) := by
  obtain ⟨l, r, h8, h9, h10, h11⟩ := agree p s
  have hlive := live7
  have el : (l == l) = true := by simp
  have er : (r == r) = true := by simp
  have so : ∀ h : List AO, (opV p s).snap1 h = some (opV p s) := fun _ => rfl
  have co : (opV p s).cl = some [.v (.int .i64 p), .v (.string s)] := rfl
  refine callW_pure (c := c3) rfl rfl 0 ?_
  simp only [c3, start, List.replicate, c3_0, c3_1, co, so, ld_op2, hlive, h8, h9, h10, h11, el, er, e_bslice1, e_bslice2, bs1, bs2, e_build, bdH_some, bd_nil, bd_cons, bd1, cl_agg, cl_int, toL, List.map_cons, List.map_nil, putAt, List.set_cons_zero, List.set_cons_succ, and_self, Nat.le_refl, app_get, app_set, g_agg, run_nil, run_cons, stp_plain, stp_guard, put_some, pass_eq, pick_tt, pick_ff, pick_tf, pick_ft, pick_u, reg_some, thn_normal, thn_exit, thn_ret, cnd_t, cnd_f, blk_normal, blk_ret, blk_exit, x_seq, x_region, x_cond, x_block, x_loop, x_ret, x_exit, x_skip, e_mov, e_pick, pk_t, pk_f, withH_some, e_box, bx_some, e_load, e_store, stH_some, e_nil, e_bin, e_eqv, eqH_f, eqH_t, e_un, e_fa, e_ia, ia_eq, nat_eq, natV_nat, e_len, lnH_some, e_extract, ex_0, ex_1, e_call0, e_call1, e_call2, e_call3, pc0_eq, pc1_some, pc2_some, pc3_some, fin_some, g_var0, g_vars, g_loc0, g_locs, g_int, g_bool, g_str, g_sl, s_none, s_zero, s_succ, cl_nil, cl_str, cl_bool, cl_slc, cl_own, evFa, evNil, asEl, evBin, intBin, strBin, evUn, len_nil, len_slc, len_str, clr, List.length_nil, List.length_cons, List.getElem?_cons_zero, List.getElem?_cons_succ, Nat.reduceAdd, Nat.zero_add, Nat.add_zero, Nat.reduceLeDiff, Nat.reduceSub, ↓reduceIte, List.drop_succ_cons, List.drop_zero, List.take_succ_cons, List.take_zero, Bool.false_eq_true, List.nil_append, List.cons_append, Bool.not_true, Bool.not_false, cond_true, cond_false, bne, lv_ret, lv_normal, res1, res2, lv2_some, res_var, res_cell, lvf_v, lvf_slc, res1c, lvo1_some, e_mm, mm_max, mm_min]
theorem sides_plain : opsSides.Plain := by
  intro a0 w0 e0
  obtain ⟨p, s, rfl⟩ := in_op w0 e0
  exact callW_iff.1 (sides_ok p s)
end Go.AE.YtkdjdhfoodlnfaaDoor
namespace Go.Proofs.YtkdjdhfoodlnfaaDoor
theorem opsSides_holds : Rows.OpsSidesCardSaid := opsSides.proved Go.AE.YtkdjdhfoodlnfaaDoor.sides_plain
#print axioms opsSides_holds
end Go.Proofs.YtkdjdhfoodlnfaaDoor
