/- The examples: all of them. -/
import Derived.Test.YtpgoibncgekflaaWalk
set_option linter.unusedVariables false
set_option linter.unusedSimpArgs false
namespace Go.AE.Ytpgoibncgekflaa
open Go Go.AE Go.Proofs.Ytpgoibncgekflaa
set_option maxRecDepth 1000000

theorem sm1 : callN F 60 15 [tC ⟨#[103]⟩ false false [tC ⟨#[102]⟩ false false [aA], aA], tC ⟨#[103]⟩ true true [tC ⟨#[102]⟩ true true [tA ⟨#[97]⟩], tA ⟨#[97]⟩]] [] = some (.v (.bool true), []) := by kernel_rfl
theorem sm2 : callN F 60 15 [tV 1, tV 1] [] = some (.v (.bool true), []) := by kernel_rfl

theorem live_ok : callW F 9 [] [] = some (.v (.bool true), []) := by
  have k27 : ∀ n, callW F 27 [.v (.int .i64 n)] [] = some (tV n, []) := fun n => callW_iff.2 ⟨_, l27 n⟩
  have k28 : ∀ s, callW F 28 [.v (.string s)] [] = some (tA s, []) := fun s => callW_iff.2 ⟨_, l28 s⟩
  have k29 : ∀ s ex nn l, callW F 29 [.v (.string s), .slc 4 ex nn l] [] = some (tC s ex nn l, []) := fun s ex nn l => callW_iff.2 ⟨_, l29 s l ex nn⟩
  have k1 := callW_iff.2 ⟨_, r1⟩
  have k2 := callW_iff.2 r2
  have k3 := walk_cyc
  have k4 := callW_iff.2 ⟨_, l16⟩
  have k5 := callW_iff.2 ⟨_, sm1⟩
  have k6 := callW_iff.2 ⟨_, sm2⟩
  have q9 : (ofVal (.agg #[(.int .i64 0), (.string ⟨#[]⟩), (.int .i64 0), (.slice none 0 0)])).cl = some [.v (.int .i64 0), .v (.string ⟨#[]⟩), .v (.int .i64 0), .v (.slice none 0 0)] := by simp [ofVal, AV.cl, Value.oneCell']
  have n1 : ∀ (h : List AO) (a b c d : Value), (AV.agg [.v a, .v b, .v c, .v d]).snap1 h = some (.agg [.v a, .v b, .v c, .v d]) := fun _ _ _ _ _ => rfl
  have n2 : ∀ (h : List AO) (a b c : Value) (sz : Nat) (ex nn : Bool) (l : List AV), (AV.agg [.v a, .v b, .v c, .slc sz ex nn l]).snap1 h = some (.agg [.v a, .v b, .v c, .slc sz ex nn l]) := fun _ _ _ _ _ _ _ _ => rfl
  have n3 : ∀ (h : List AO) (a b c d e : Value), (AV.agg [.v a, .v b, .v c, .v d, .v e]).snap1 h = some (.agg [.v a, .v b, .v c, .v d, .v e]) := fun _ _ _ _ _ _ => rfl
  have n4 : ∀ (h : List AO) (a b c d : Value) (sz : Nat) (ex nn : Bool) (l : List AV), (AV.agg [.v a, .v b, .v c, .v d, .slc sz ex nn l]).snap1 h = some (.agg [.v a, .v b, .v c, .v d, .slc sz ex nn l]) := fun _ _ _ _ _ _ _ _ _ => rfl
  have n5 : ∀ (h : List AO) (sz : Nat) (ex nn : Bool) (l : List AV), (AV.slc sz ex nn l).snap1 h = some (.slc sz ex nn l) := fun _ _ _ _ _ => rfl
  have n6 : ∀ (h : List AO) (x : Value), (AV.v x).snap1 h = some (.v x) := fun _ _ => rfl
  have n7 : ((0 : Int) == 0) = true := rfl
  have n8 : ((3 : Int) == 3) = true := rfl
  have n9 : ((140 : Int) == 140) = true := rfl
  simp only [tV, tA, tC, bd, aA, cyc, zc, AV.cells] at k27 k28 k29 k1 k2 k3 k4 k5 k6
  refine callW_pure (c := c9) rfl rfl 0 ?_
  simp only [c9, start, List.replicate, c9_0, c9_1, c9_2, c9_3, c9_4, c9_5, c9_6, c9_7, c9_8, k27, k28, k29, k1, k2, k3, k4, k5, k6, q9, n1, n2, n3, n4, n5, n6, n7, n8, n9, e_bslice1, e_bslice2, bs1, bs2, e_build, bdH_some, bd_nil, bd_cons, bd1, cl_agg, cl_int, toL, List.map_cons, List.map_nil, putAt, List.set_cons_zero, List.set_cons_succ, and_self, Nat.le_refl, evStore, app_get, app_set, g_agg, run_nil, run_cons, stp_plain, stp_guard, put_some, pass_eq, pick_tt, pick_ff, pick_tf, pick_ft, pick_u, reg_some, thn_normal, thn_exit, thn_ret, cnd_t, cnd_f, blk_normal, blk_ret, blk_exit, x_seq, x_region, x_cond, x_block, x_loop, x_ret, x_exit, x_skip, e_mov, e_pick, pk_t, pk_f, withH_some, e_box, bx_some, e_load, e_store, stH_some, e_nil, e_bin, e_eqv, eqH_f, eqH_t, e_un, e_fa, e_ia, ia_eq, nat_eq, natV_nat, e_len, lnH_some, e_extract, ex_0, ex_1, e_call0, e_call1, e_call2, e_call3, pc0_eq, pc1_some, pc2_some, pc3_some, fin_some, g_var0, g_vars, g_loc0, g_locs, g_int, g_bool, g_str, g_sl, s_none, s_zero, s_succ, evFa, evNil, evLoad, asEl, evBin, intBin, strBin, evUn, len_nil, len_slc, len_str, clr, List.length_nil, List.length_cons, List.getElem?_cons_zero, List.getElem?_cons_succ, Nat.reduceAdd, Nat.zero_add, Nat.add_zero, Nat.reduceLeDiff, Nat.reduceSub, ↓reduceIte, List.drop_succ_cons, List.drop_zero, List.take_succ_cons, List.take_zero, Bool.false_eq_true, List.nil_append, List.cons_append, Bool.not_true, Bool.not_false, cond_true, cond_false, bne, lv_ret, lv_normal, res1, res2, lv2_some, res_var, res_cell, lvf_v, lvf_slc]
end Go.AE.Ytpgoibncgekflaa
