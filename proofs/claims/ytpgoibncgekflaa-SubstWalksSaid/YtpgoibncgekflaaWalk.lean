/- The examples: a Walk around. -/
import Derived.Test.YtpgoibncgekflaaLive
set_option linter.unusedVariables false
set_option linter.unusedSimpArgs false
namespace Go.AE.Ytpgoibncgekflaa
open Go Go.AE Go.Proofs.Ytpgoibncgekflaa

def cyc : AV := .slc 5 true true [.agg [.v (.int .i64 0), .v (.int .i64 1), .v (.string ⟨#[]⟩), .v (.int .i64 1), .v (.slice none 0 0)], .agg [.v (.int .i64 1), .v (.int .i64 1), .v (.string ⟨#[]⟩), .v (.int .i64 0), .v (.slice none 0 0)]]
def zc : List AV := [.v (.int .i64 0), .v (.string ⟨#[]⟩), .v (.int .i64 0), .v (.slice none 0 0)]
def H31 (b0 b1 : AO) (m x : Int) (tail : List AO) : List AO := b0 :: b1 :: .box [.v (.int .i64 m)] :: .box [.v (.int .i64 1), .v (.string ⟨#[]⟩), .v (.int .i64 x), .v (.slice none 0 0)] :: .box zc :: tail
def K31 : List Bool := [true, false, true, true, true, false, false, false, false, false, false]
def L31 : List AV := [cyc, .junk, .ptr 2 0, .ptr 3 0, .ptr 4 0, .junk, .junk, .junk, .junk, .junk, .junk]

theorem look_cyc (x y : Int) (h : (x = 0 ∧ y = 1) ∨ (x = 1 ∧ y = 0)) : callW F 13 [cyc, .v (.int .i64 x)] [] = some (.tup [.agg [.v (.int .i64 1), .v (.string ⟨#[]⟩), .v (.int .i64 y), .v (.slice none 0 0)], .v (.bool true)], []) := by
  refine callW_oracle (g := lookG) rfl ?_
  rcases h with ⟨rfl, rfl⟩ | ⟨rfl, rfl⟩ <;> rfl

theorem walk_step {K : Nat} {b0 b1 : AO} {x y : Int} (hx : (x = 0 ∧ y = 1) ∨ (x = 1 ∧ y = 0)) (m : Nat) (hm : m ≤ 5000) (tail : List AO) : ∃ vs, exec (callW F) K c31_9 L31 (H31 b0 b1 ((m + 1 : Nat) : Int) x tail) = some (.normal, vs, H31 b0 b1 m y (tail ++ [.box [.v (.int .i64 1), .v (.string ⟨#[]⟩), .v (.int .i64 y), .v (.slice none 0 0)]])) ∧ clr K31 vs = L31 := by
  have hk := look_cyc x y hx
  have h0 : (((m + 1 : Nat) : Int) == 0) = false := by simp; omega
  have hw : IntKind.i64.wrap (((m + 1 : Nat) : Int) - 1) = (m : Int) := by rw [wrap_ok (by omega) (by omega)]; omega
  have h11 : ((1 : Int) == 1) = true := rfl
  have q8 : ∀ (h : List AO) (x : Int), (AV.v (.int .i64 x)).snap1 h = some (.v (.int .i64 x)) := fun _ _ => rfl
  have q7 : ∀ h : List AO, cyc.snap1 h = some cyc := fun _ => rfl
  have q9 : (ofVal (.agg #[(.int .i64 0), (.string ⟨#[]⟩), (.int .i64 0), (.slice none 0 0)])).cl = some [.v (.int .i64 0), .v (.string ⟨#[]⟩), .v (.int .i64 0), .v (.slice none 0 0)] := by simp [ofVal, AV.cl, Value.oneCell']
  refine ⟨[cyc, .junk, .ptr 2 0, .ptr 3 0, .ptr 4 0, .junk, .ptr (tail.length + 1 + 1 + 1 + 1 + 1) 0, .v (.bool true), .v (.bool true), .v (.bool false), .v (.bool false)], ?_, rfl⟩
  simp only [L31, H31, zc, c31_9, c31_1, c31_2, c31_3, c31_5, c31_7, c31_8, hk, h0, hw, h11, q7, q8, q9, e_build, bdH_some, bd_nil, bd_cons, bd1, cl_agg, cl_int, toL, List.map_cons, List.map_nil, putAt, List.set_cons_zero, List.set_cons_succ, and_self, Nat.le_refl, evStore, app_get, app_set, g_agg, run_nil, run_cons, stp_plain, stp_guard, put_some, pass_eq, pick_tt, pick_ff, pick_tf, pick_ft, pick_u, reg_some, thn_normal, thn_exit, thn_ret, cnd_t, cnd_f, blk_normal, blk_ret, blk_exit, x_seq, x_region, x_cond, x_block, x_loop, x_ret, x_exit, x_skip, e_mov, e_pick, pk_t, pk_f, withH_some, e_box, bx_some, e_load, e_store, stH_some, e_nil, e_bin, e_eqv, eqH_f, eqH_t, e_un, e_fa, e_ia, ia_eq, nat_eq, natV_nat, e_len, lnH_some, e_extract, ex_0, ex_1, e_call0, e_call1, e_call2, e_call3, pc0_eq, pc1_some, pc2_some, pc3_some, fin_some, g_var0, g_vars, g_loc0, g_locs, g_int, g_bool, g_str, g_sl, s_none, s_zero, s_succ, evFa, evNil, evLoad, asEl, evBin, intBin, strBin, evUn, len_nil, len_slc, len_str, clr, List.length_nil, List.length_cons, List.getElem?_cons_zero, List.getElem?_cons_succ, Nat.reduceAdd, Nat.zero_add, Nat.add_zero, Nat.reduceLeDiff, Nat.reduceSub, ↓reduceIte, List.drop_succ_cons, List.drop_zero, List.take_succ_cons, List.take_zero, Bool.false_eq_true, List.nil_append, List.cons_append, Bool.not_true, Bool.not_false, cond_true, cond_false, bne, lv_ret, lv_normal, res1, res2, lv2_some, res_var, res_cell, lvf_v, lvf_slc]

theorem walk_loop {K : Nat} {b0 b1 : AO} : ∀ (m : Nat), m ≤ 5000 → ∀ (x y : Int), ((x = 0 ∧ y = 1) ∨ (x = 1 ∧ y = 0)) → ∀ (tail : List AO) (vars : List AV), clr K31 vars = L31 →
    ∃ (j : AV) (z : List AV) (tail' : List AO), loopN (exec (callW F) K c31_9) K31 (m + 1) vars (H31 b0 b1 (m : Int) x tail) = some (.ret, [cyc, .junk, .ptr 2 0, .ptr 3 0, .ptr 4 0, .v (.int .i64 140), j, .v (.bool true), .v (.bool true), .v (.bool false), .v (.bool true)], b0 :: b1 :: .box [.v (.int .i64 0)] :: .box z :: .box zc :: tail') := by
  intro m
  induction m with
  | zero =>
    intro _ x y hx tail vars hv
    refine ⟨.ptr (tail.length + 1 + 1 + 1 + 1 + 1) 0, [.v (.int .i64 1), .v (.string ⟨#[]⟩), .v (.int .i64 x), .v (.slice none 0 0)], tail ++ [.box [.v (.int .i64 1), .v (.string ⟨#[]⟩), .v (.int .i64 y), .v (.slice none 0 0)]], ?_⟩
    refine loop_ret ?_
    rw [hv]
    have hk := look_cyc x y hx
    have h0 : (((0 : Nat) : Int) == 0) = true := rfl
    have h11 : ((1 : Int) == 1) = true := rfl
    have q8 : ∀ (h : List AO) (x : Int), (AV.v (.int .i64 x)).snap1 h = some (.v (.int .i64 x)) := fun _ _ => rfl
    have q7 : ∀ h : List AO, cyc.snap1 h = some cyc := fun _ => rfl
    have q9 : (ofVal (.agg #[(.int .i64 0), (.string ⟨#[]⟩), (.int .i64 0), (.slice none 0 0)])).cl = some [.v (.int .i64 0), .v (.string ⟨#[]⟩), .v (.int .i64 0), .v (.slice none 0 0)] := by simp [ofVal, AV.cl, Value.oneCell']
    simp only [L31, H31, zc, c31_9, c31_1, c31_2, c31_3, c31_5, c31_6, hk, h0, h11, q7, q8, q9, e_build, bdH_some, bd_nil, bd_cons, bd1, cl_agg, cl_int, toL, List.map_cons, List.map_nil, putAt, List.set_cons_zero, List.set_cons_succ, and_self, Nat.le_refl, evStore, app_get, app_set, g_agg, run_nil, run_cons, stp_plain, stp_guard, put_some, pass_eq, pick_tt, pick_ff, pick_tf, pick_ft, pick_u, reg_some, thn_normal, thn_exit, thn_ret, cnd_t, cnd_f, blk_normal, blk_ret, blk_exit, x_seq, x_region, x_cond, x_block, x_loop, x_ret, x_exit, x_skip, e_mov, e_pick, pk_t, pk_f, withH_some, e_box, bx_some, e_load, e_store, stH_some, e_nil, e_bin, e_eqv, eqH_f, eqH_t, e_un, e_fa, e_ia, ia_eq, nat_eq, natV_nat, e_len, lnH_some, e_extract, ex_0, ex_1, e_call0, e_call1, e_call2, e_call3, pc0_eq, pc1_some, pc2_some, pc3_some, fin_some, g_var0, g_vars, g_loc0, g_locs, g_int, g_bool, g_str, g_sl, s_none, s_zero, s_succ, evFa, evNil, evLoad, asEl, evBin, intBin, strBin, evUn, len_nil, len_slc, len_str, clr, List.length_nil, List.length_cons, List.getElem?_cons_zero, List.getElem?_cons_succ, Nat.reduceAdd, Nat.zero_add, Nat.add_zero, Nat.reduceLeDiff, Nat.reduceSub, ↓reduceIte, List.drop_succ_cons, List.drop_zero, List.take_succ_cons, List.take_zero, Bool.false_eq_true, List.nil_append, List.cons_append, Bool.not_true, Bool.not_false, cond_true, cond_false, bne, lv_ret, lv_normal, res1, res2, lv2_some, res_var, res_cell, lvf_v, lvf_slc]
    rfl
  | succ m ih =>
    intro hm x y hx tail vars hv
    obtain ⟨vs, h1, h2⟩ := walk_step (K := K) (b0 := b0) (b1 := b1) hx m (by omega) tail
    rw [loop_normal (by rw [hv]; exact h1)]
    exact ih (by omega) y x (by omega) _ vs h2

theorem walk_cyc : callW F 11 [cyc, tV 0] [] = some (.tup [.agg zc, .v (.int .i64 140)], []) := by
  have hf : ∀ b0 b1 : AO, (b0.below 3 = true) → (b1.below 3 = true) → callW F 31 [cyc, tV 0, .ptr 2 0] [b0, b1, .box [.v (.int .i64 2000)]] = some (.tup [.agg zc, .v (.int .i64 140)], [b0, b1, .box [.v (.int .i64 0)]]) := by
    intro b0 b1 hb0 hb1
    refine callW_code (c := c31) rfl rfl 2001 ?_
    obtain ⟨j, z, tail', hl⟩ := walk_loop (K := 2001) (b0 := b0) (b1 := b1) 2000 (by omega) 0 1 (.inl ⟨rfl, rfl⟩) [] L31 rfl
    have q9 : (ofVal (.agg #[(.int .i64 0), (.string ⟨#[]⟩), (.int .i64 0), (.slice none 0 0)])).cl = some [.v (.int .i64 0), .v (.string ⟨#[]⟩), .v (.int .i64 0), .v (.slice none 0 0)] := by simp [ofVal, AV.cl, Value.oneCell']
    have hx : exec (callW F) 2001 c31.body (start c31 [cyc, tV 0, .ptr 2 0]) [b0, b1, .box [.v (.int .i64 2000)]] = some (.ret, [cyc, .junk, .ptr 2 0, .ptr 3 0, .ptr 4 0, .v (.int .i64 140), j, .v (.bool true), .v (.bool true), .v (.bool false), .v (.bool true)], b0 :: b1 :: .box [.v (.int .i64 0)] :: .box z :: .box zc :: tail') := by
      simp only [c31, start, tV, List.replicate, c31_0, q9, e_build, bdH_some, bd_nil, bd_cons, bd1, cl_agg, cl_int, toL, List.map_cons, List.map_nil, putAt, List.set_cons_zero, List.set_cons_succ, and_self, Nat.le_refl, evStore, app_get, app_set, g_agg, run_nil, run_cons, stp_plain, stp_guard, put_some, pass_eq, pick_tt, pick_ff, pick_tf, pick_ft, pick_u, reg_some, thn_normal, thn_exit, thn_ret, cnd_t, cnd_f, blk_normal, blk_ret, blk_exit, x_seq, x_region, x_cond, x_block, x_loop, x_ret, x_exit, x_skip, e_mov, e_pick, pk_t, pk_f, withH_some, e_box, bx_some, e_load, e_store, stH_some, e_nil, e_bin, e_eqv, eqH_f, eqH_t, e_un, e_fa, e_ia, ia_eq, nat_eq, natV_nat, e_len, lnH_some, e_extract, ex_0, ex_1, e_call0, e_call1, e_call2, e_call3, pc0_eq, pc1_some, pc2_some, pc3_some, fin_some, g_var0, g_vars, g_loc0, g_locs, g_int, g_bool, g_str, g_sl, s_none, s_zero, s_succ, evFa, evNil, evLoad, asEl, evBin, intBin, strBin, evUn, len_nil, len_slc, len_str, clr, List.length_nil, List.length_cons, List.getElem?_cons_zero, List.getElem?_cons_succ, Nat.reduceAdd, Nat.zero_add, Nat.add_zero, Nat.reduceLeDiff, Nat.reduceSub, ↓reduceIte, List.drop_succ_cons, List.drop_zero, List.take_succ_cons, List.take_zero, Bool.false_eq_true, List.nil_append, List.cons_append, Bool.not_true, Bool.not_false, cond_true, cond_false, bne, lv_ret, lv_normal, res1, res2, lv2_some, res_var, res_cell, lvf_v, lvf_slc]
      rw [show ([true, false, true, true, true, false, false, false, false, false, false] : List Bool) = K31 from rfl, loop_cong (v2 := L31) (by rfl)]
      have := hl
      simp only [H31, zc] at this
      erw [this]
      rfl
    rw [hx]
    have hres : c31.res = [.cell 4 true 4, .var 5] := rfl
    simp [leave, hres, resOf, evLoad, asEl, zc, pack, AV.frz2, AV.frz1, AV.frz0, hb0, hb1, AO.below, AV.below1, AV.below0]
    exact ⟨hb0, hb1⟩
  have hc := hf (.box [.v (.int .i64 1), .v (.string ⟨#[]⟩), .v (.int .i64 0), .v (.slice none 0 0)]) (.box zc) rfl rfl
  simp only [tV, zc] at hc
  have ecall : ∀ (vars env : List AV) (h : List AO) (f : FuncId) (args : List Opd), evOp (callW F) vars env h (.call false f args) = callW F f (args.map (getO vars env)) h := fun _ _ _ _ _ => rfl
  have q9 : (ofVal (.agg #[(.int .i64 0), (.string ⟨#[]⟩), (.int .i64 0), (.slice none 0 0)])).cl = some [.v (.int .i64 0), .v (.string ⟨#[]⟩), .v (.int .i64 0), .v (.slice none 0 0)] := by simp [ofVal, AV.cl, Value.oneCell']
  have lvt : ∀ (h : List AO) (a b c d e : Value), lvf h (.tup [.agg [.v a, .v b, .v c, .v d], .v e]) = some (.tup [.agg [.v a, .v b, .v c, .v d], .v e], []) := fun _ _ _ _ _ _ => rfl
  refine callW_pure (c := c11) rfl rfl 0 ?_
  simp only [c11, start, tV, zc, List.replicate, c11_0, c11_1, c11_2, q9, hc, ecall, lvt, e_build, bdH_some, bd_nil, bd_cons, bd1, cl_agg, cl_int, toL, List.map_cons, List.map_nil, putAt, List.set_cons_zero, List.set_cons_succ, and_self, Nat.le_refl, evStore, app_get, app_set, g_agg, run_nil, run_cons, stp_plain, stp_guard, put_some, pass_eq, pick_tt, pick_ff, pick_tf, pick_ft, pick_u, reg_some, thn_normal, thn_exit, thn_ret, cnd_t, cnd_f, blk_normal, blk_ret, blk_exit, x_seq, x_region, x_cond, x_block, x_loop, x_ret, x_exit, x_skip, e_mov, e_pick, pk_t, pk_f, withH_some, e_box, bx_some, e_load, e_store, stH_some, e_nil, e_bin, e_eqv, eqH_f, eqH_t, e_un, e_fa, e_ia, ia_eq, nat_eq, natV_nat, e_len, lnH_some, e_extract, ex_0, ex_1, e_call0, e_call1, e_call2, e_call3, pc0_eq, pc1_some, pc2_some, pc3_some, fin_some, g_var0, g_vars, g_loc0, g_locs, g_int, g_bool, g_str, g_sl, s_none, s_zero, s_succ, evFa, evNil, evLoad, asEl, evBin, intBin, strBin, evUn, len_nil, len_slc, len_str, clr, List.length_nil, List.length_cons, List.getElem?_cons_zero, List.getElem?_cons_succ, Nat.reduceAdd, Nat.zero_add, Nat.add_zero, Nat.reduceLeDiff, Nat.reduceSub, ↓reduceIte, List.drop_succ_cons, List.drop_zero, List.take_succ_cons, List.take_zero, Bool.false_eq_true, List.nil_append, List.cons_append, Bool.not_true, Bool.not_false, cond_true, cond_false, bne, lv_ret, lv_normal, res1, res2, lv2_some, res_var, res_cell, lvf_v, lvf_slc]
end Go.AE.Ytpgoibncgekflaa
