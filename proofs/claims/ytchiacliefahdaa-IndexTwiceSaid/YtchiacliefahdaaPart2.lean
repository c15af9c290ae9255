/- Texts of this claim, put together. -/
import Derived.Test.YtchiacliefahdaaPart1
import Derived.Test.YtchiacliefahdaaEval3
import Derived.Test.YtchiacliefahdaaRows
import Derived.WalkKit
import Derived.ProofKit
import Derived.OpenShut
import Derived.ShutString
import Derived.ChangeOld
import Derived.Below
import Derived.SizedLaws
/-! The chapter's examples; whether two lists of numbers are the same; whether what came in is too great. -/
section
set_option linter.unusedVariables false
set_option linter.unusedSimpArgs false
namespace Go.AE.Ytchiacliefahdaa
open Go Go.AE Go.Proofs.Ytchiacliefahdaa
set_option maxRecDepth 1000000

theorem live_ok : callW F 5 [] [] = some (.v (.bool true), []) := callW_iff.2 ⟨60, by kernel_rfl⟩

def K10 : List Bool := [true, true, false, false, false, true, true, false, false]
theorem ints_same {x y : AV} {l l' : List Int} (hx : IsS 1 IsI x l) (hy : IsS 1 IsI y l') : callW F 10 [x, y] [] = some (.v (.bool (decide (l = l'))), []) := by
  obtain ⟨xs, hxs, hxr, hxm⟩ := hx
  obtain ⟨ys, hys, hyr, hym⟩ := hy
  have e1 := ints_of hxr
  have e2 := ints_of hyr
  subst e1; subst e2
  have n1 := fun h : List AO => hxs.len h
  have n2 := fun h : List AO => hys.len h
  simp only [intsV_len] at n1 n2
  rw [intsV_len] at hxm
  refine callW_pure (c := c10) rfl rfl (l.length + 1) ?_
  cases hl : ((l.length : Int) == (l'.length : Int)) with
  | false =>
    have hd : decide (l = l') = false := by
      simp only [beq_eq_false_iff_ne, ne_eq] at hl
      simp only [decide_eq_false_iff_not]
      rintro rfl; exact hl rfl
    rw [hd]
    simp only [c10, start, List.replicate, c10_0, c10_1, c10_2, n1, n2, hl, run_nil, run_cons, stp_plain, stp_guard, put_some, pass_eq, pick_tt, pick_ff, pick_tf, pick_ft, pick_u, reg_some, thn_normal, thn_exit, thn_ret, cnd_t, cnd_f, blk_normal, blk_ret, blk_exit, x_seq, x_region, x_cond, x_block, x_loop, x_ret, x_exit, x_skip, e_mov, e_pick, pk_t, pk_f, withH_some, e_box, e_load, e_store, stH_some, e_nil, e_bin, e_eqv, eqH_f, eqH_t, e_un, e_fa, e_ia, ia_eq, nat_eq, natV_nat, e_len, lnH_some, e_extract, ex_0, ex_1, e_call0, e_call1, e_call2, e_call3, pc0_eq, pc1_some, pc2_some, pc3_some, fin_some, g_var0, g_vars, g_loc0, g_locs, g_int, g_bool, g_str, g_sl, s_none, s_zero, s_succ, cl_nil, cl_str, cl_bool, cl_slc, cl_own, evFa, evNil, asEl, evBin, intBin, strBin, evUn, len_nil, len_slc, len_str, clr, List.length_nil, List.length_cons, List.getElem?_cons_zero, List.getElem?_cons_succ, Nat.reduceAdd, Nat.zero_add, Nat.add_zero, Nat.reduceLeDiff, Nat.reduceSub, ↓reduceIte, List.drop_succ_cons, List.drop_zero, List.take_succ_cons, List.take_zero, Bool.false_eq_true, List.nil_append, List.cons_append, Bool.not_true, Bool.not_false, cond_true, cond_false, bne, lv_ret, lv_normal, res1, res2, lv2_some, res_var, res_cell, lvf_v, lvf_slc, res1c, lvo1_some, e_mm, mm_max, mm_min, cl_agg, cl_int, g_agg, e_callv1, cv1_fn, e_slice2, e_clrrow, e_callf2, pick_und, cells_agg, Option.map_some, Option.map_none, bx_some]
  | true =>
    have hl' : l.length = l'.length := by simp only [beq_iff_eq] at hl; omega
    have st10 : start c10 [x, y] = [x, y, .v undef, .v undef, .v undef, .v undef, .v undef, .v undef, .v undef] := rfl
    have key := loop_rule0 (call := callW F) (K := l.length + 1) (b := c10_9) (keep := K10)
      (fun i v h => v = [x, y, .junk, .junk, .junk, .v (.int .i64 l.length), .v (.int .i64 i), .junk, .junk] ∧ h = [] ∧ l.take i = l'.take i)
      (fun e v h => h = [] ∧ v.length = 9 ∧ ((e = .exit 0 ∧ l = l') ∨ (e = .ret ∧ v[2]? = some (.v (.bool false)) ∧ l ≠ l'))) l.length (m := l.length + 1)
      (v := [x, y, .v (.bool false), .v undef, .v (.bool false), .v (.int .i64 l.length), .v (.int .i64 0), .v undef, .v undef]) (h := []) (by omega) ⟨rfl, rfl, rfl⟩ (by
        rintro i v h hi ⟨rfl, rfl, ht⟩
        by_cases hil : i < l.length
        · have a1 : (intsV l)[i]? = some (.v (.int .i64 l[i])) := by simp [intsV, hil]
          have a2 : (intsV l')[i]? = some (.v (.int .i64 l'[i])) := by simp [intsV, show i < l'.length by omega]
          have q1 := fun h : List AO => hxs.ia a1 h
          have q2 := fun h : List AO => hys.ia a2 h
          have q3 : ∀ (h : List AO) (n : Int), evLoad h false 1 (.ip (AV.v (.int .i64 n)).cells) = some (.v (.int .i64 n)) := fun _ _ => rfl
          have hlt := lt_t hil
          have hw := wrap_succ hil hxm
          cases hne : (l[i] == l'[i]) with
          | true =>
            refine ⟨.normal, [x, y, .junk, .v (.int .i64 i), .junk, .v (.int .i64 l.length), .v (.int .i64 ((i + 1 : Nat) : Int)), .v (.bool true), .v (.bool false)], [], ?_, hil, rfl, rfl, ?_⟩
            · simp only [c10_9, c10_4, c10_5, c10_6, c10_8, hlt, q1, q2, q3, hne, hw, run_nil, run_cons, stp_plain, stp_guard, put_some, pass_eq, pick_tt, pick_ff, pick_tf, pick_ft, pick_u, reg_some, thn_normal, thn_exit, thn_ret, cnd_t, cnd_f, blk_normal, blk_ret, blk_exit, x_seq, x_region, x_cond, x_block, x_loop, x_ret, x_exit, x_skip, e_mov, e_pick, pk_t, pk_f, withH_some, e_box, e_load, e_store, stH_some, e_nil, e_bin, e_eqv, eqH_f, eqH_t, e_un, e_fa, e_ia, ia_eq, nat_eq, natV_nat, e_len, lnH_some, e_extract, ex_0, ex_1, e_call0, e_call1, e_call2, e_call3, pc0_eq, pc1_some, pc2_some, pc3_some, fin_some, g_var0, g_vars, g_loc0, g_locs, g_int, g_bool, g_str, g_sl, s_none, s_zero, s_succ, cl_nil, cl_str, cl_bool, cl_slc, cl_own, evFa, evNil, asEl, evBin, intBin, strBin, evUn, len_nil, len_slc, len_str, clr, List.length_nil, List.length_cons, List.getElem?_cons_zero, List.getElem?_cons_succ, Nat.reduceAdd, Nat.zero_add, Nat.add_zero, Nat.reduceLeDiff, Nat.reduceSub, ↓reduceIte, List.drop_succ_cons, List.drop_zero, List.take_succ_cons, List.take_zero, Bool.false_eq_true, List.nil_append, List.cons_append, Bool.not_true, Bool.not_false, cond_true, cond_false, bne, lv_ret, lv_normal, res1, res2, lv2_some, res_var, res_cell, lvf_v, lvf_slc, res1c, lvo1_some, e_mm, mm_max, mm_min, cl_agg, cl_int, g_agg, e_callv1, cv1_fn, e_slice2, e_clrrow, e_callf2, pick_und, cells_agg, Option.map_some, Option.map_none, bx_some]
            · rw [List.take_add_one, List.take_add_one, ht, List.getElem?_eq_getElem hil, List.getElem?_eq_getElem (show i < l'.length by omega)]
              simp only [beq_iff_eq] at hne
              rw [hne]
          | false =>
            refine ⟨.ret, [x, y, .v (.bool false), .v (.int .i64 i), .junk, .v (.int .i64 l.length), .v (.int .i64 i), .v (.bool true), .v (.bool true)], [], ?_, rfl, rfl, .inr ⟨rfl, rfl, ?_⟩⟩
            · simp only [c10_9, c10_4, c10_5, c10_6, c10_7, hlt, q1, q2, q3, hne, run_nil, run_cons, stp_plain, stp_guard, put_some, pass_eq, pick_tt, pick_ff, pick_tf, pick_ft, pick_u, reg_some, thn_normal, thn_exit, thn_ret, cnd_t, cnd_f, blk_normal, blk_ret, blk_exit, x_seq, x_region, x_cond, x_block, x_loop, x_ret, x_exit, x_skip, e_mov, e_pick, pk_t, pk_f, withH_some, e_box, e_load, e_store, stH_some, e_nil, e_bin, e_eqv, eqH_f, eqH_t, e_un, e_fa, e_ia, ia_eq, nat_eq, natV_nat, e_len, lnH_some, e_extract, ex_0, ex_1, e_call0, e_call1, e_call2, e_call3, pc0_eq, pc1_some, pc2_some, pc3_some, fin_some, g_var0, g_vars, g_loc0, g_locs, g_int, g_bool, g_str, g_sl, s_none, s_zero, s_succ, cl_nil, cl_str, cl_bool, cl_slc, cl_own, evFa, evNil, asEl, evBin, intBin, strBin, evUn, len_nil, len_slc, len_str, clr, List.length_nil, List.length_cons, List.getElem?_cons_zero, List.getElem?_cons_succ, Nat.reduceAdd, Nat.zero_add, Nat.add_zero, Nat.reduceLeDiff, Nat.reduceSub, ↓reduceIte, List.drop_succ_cons, List.drop_zero, List.take_succ_cons, List.take_zero, Bool.false_eq_true, List.nil_append, List.cons_append, Bool.not_true, Bool.not_false, cond_true, cond_false, bne, lv_ret, lv_normal, res1, res2, lv2_some, res_var, res_cell, lvf_v, lvf_slc, res1c, lvo1_some, e_mm, mm_max, mm_min, cl_agg, cl_int, g_agg, e_callv1, cv1_fn, e_slice2, e_clrrow, e_callf2, pick_und, cells_agg, Option.map_some, Option.map_none, bx_some]
            · rintro rfl
              simp at hne
        · have hie : i = l.length := by omega
          subst hie
          have hlt := lt_f (n := l.length)
          refine ⟨.exit 0, [x, y, .junk, .junk, .junk, .v (.int .i64 l.length), .v (.int .i64 l.length), .v (.bool false), .junk], [], ?_, rfl, rfl, .inl ⟨rfl, ?_⟩⟩
          · simp only [c10_9, c10_4, hlt, run_nil, run_cons, stp_plain, stp_guard, put_some, pass_eq, pick_tt, pick_ff, pick_tf, pick_ft, pick_u, reg_some, thn_normal, thn_exit, thn_ret, cnd_t, cnd_f, blk_normal, blk_ret, blk_exit, x_seq, x_region, x_cond, x_block, x_loop, x_ret, x_exit, x_skip, e_mov, e_pick, pk_t, pk_f, withH_some, e_box, e_load, e_store, stH_some, e_nil, e_bin, e_eqv, eqH_f, eqH_t, e_un, e_fa, e_ia, ia_eq, nat_eq, natV_nat, e_len, lnH_some, e_extract, ex_0, ex_1, e_call0, e_call1, e_call2, e_call3, pc0_eq, pc1_some, pc2_some, pc3_some, fin_some, g_var0, g_vars, g_loc0, g_locs, g_int, g_bool, g_str, g_sl, s_none, s_zero, s_succ, cl_nil, cl_str, cl_bool, cl_slc, cl_own, evFa, evNil, asEl, evBin, intBin, strBin, evUn, len_nil, len_slc, len_str, clr, List.length_nil, List.length_cons, List.getElem?_cons_zero, List.getElem?_cons_succ, Nat.reduceAdd, Nat.zero_add, Nat.add_zero, Nat.reduceLeDiff, Nat.reduceSub, ↓reduceIte, List.drop_succ_cons, List.drop_zero, List.take_succ_cons, List.take_zero, Bool.false_eq_true, List.nil_append, List.cons_append, Bool.not_true, Bool.not_false, cond_true, cond_false, bne, lv_ret, lv_normal, res1, res2, lv2_some, res_var, res_cell, lvf_v, lvf_slc, res1c, lvo1_some, e_mm, mm_max, mm_min, cl_agg, cl_int, g_agg, e_callv1, cv1_fn, e_slice2, e_clrrow, e_callf2, pick_und, cells_agg, Option.map_some, Option.map_none, bx_some]
          · rw [List.take_of_length_le (Nat.le_refl _), List.take_of_length_le (by omega)] at ht
            exact ht)
    obtain ⟨e, v', h', g1, _, rfl, gl, g2⟩ := key
    rw [st10]
    have pre : exec (callW F) (l.length + 1) c10.body [x, y, .v undef, .v undef, .v undef, .v undef, .v undef, .v undef, .v undef] [] = thn (callW F) (l.length + 1) (.seq (.region [] [] c10_10) .ret) (blk 0 (loopN (exec (callW F) (l.length + 1) c10_9) K10 (l.length + 1) [x, y, .v (.bool false), .v undef, .v (.bool false), .v (.int .i64 l.length), .v (.int .i64 0), .v undef, .v undef] [])) := by
      rw [show c10.body = (.seq (.region [] [] c10_0) (.seq (.seq (.region [] [] c10_1) (.cond (.var 4) (.seq (.region [] [] c10_2) .ret) .skip)) (.seq (.seq (.region [] [] c10_3) (.block 0 (.loop K10 [] c10_9))) (.seq (.region [] [] c10_10) .ret)))) from rfl]
      generalize c10_9 = bb
      simp only [c10_0, c10_1, c10_3, n1, n2, hl, run_nil, run_cons, stp_plain, stp_guard, put_some, pass_eq, pick_tt, pick_ff, pick_tf, pick_ft, pick_u, reg_some, thn_normal, thn_exit, thn_ret, cnd_t, cnd_f, blk_normal, blk_ret, blk_exit, x_seq, x_region, x_cond, x_block, x_loop, x_ret, x_exit, x_skip, e_mov, e_pick, pk_t, pk_f, withH_some, e_box, e_load, e_store, stH_some, e_nil, e_bin, e_eqv, eqH_f, eqH_t, e_un, e_fa, e_ia, ia_eq, nat_eq, natV_nat, e_len, lnH_some, e_extract, ex_0, ex_1, e_call0, e_call1, e_call2, e_call3, pc0_eq, pc1_some, pc2_some, pc3_some, fin_some, g_var0, g_vars, g_loc0, g_locs, g_int, g_bool, g_str, g_sl, s_none, s_zero, s_succ, cl_nil, cl_str, cl_bool, cl_slc, cl_own, evFa, evNil, asEl, evBin, intBin, strBin, evUn, len_nil, len_slc, len_str, clr, List.length_nil, List.length_cons, List.getElem?_cons_zero, List.getElem?_cons_succ, Nat.reduceAdd, Nat.zero_add, Nat.add_zero, Nat.reduceLeDiff, Nat.reduceSub, ↓reduceIte, List.drop_succ_cons, List.drop_zero, List.take_succ_cons, List.take_zero, Bool.false_eq_true, List.nil_append, List.cons_append, Bool.not_true, Bool.not_false, cond_true, cond_false, bne, lv_ret, lv_normal, res1, res2, lv2_some, res_var, res_cell, lvf_v, lvf_slc, res1c, lvo1_some, e_mm, mm_max, mm_min, cl_agg, cl_int, g_agg, e_callv1, cv1_fn, e_slice2, e_clrrow, e_callf2, pick_und, cells_agg, Option.map_some, Option.map_none, bx_some]
    rw [pre, g1]
    match v', gl, g2 with
    | [x0, x1, x2, x3, x4, x5, x6, x7, x8], _, g2 =>
      rcases g2 with ⟨rfl, rfl⟩ | ⟨rfl, g2, hne⟩
      · simp only [c10, blk_exit, thn_normal, c10_10, decide_true, run_nil, run_cons, stp_plain, stp_guard, put_some, pass_eq, pick_tt, pick_ff, pick_tf, pick_ft, pick_u, reg_some, thn_normal, thn_exit, thn_ret, cnd_t, cnd_f, blk_normal, blk_ret, blk_exit, x_seq, x_region, x_cond, x_block, x_loop, x_ret, x_exit, x_skip, e_mov, e_pick, pk_t, pk_f, withH_some, e_box, e_load, e_store, stH_some, e_nil, e_bin, e_eqv, eqH_f, eqH_t, e_un, e_fa, e_ia, ia_eq, nat_eq, natV_nat, e_len, lnH_some, e_extract, ex_0, ex_1, e_call0, e_call1, e_call2, e_call3, pc0_eq, pc1_some, pc2_some, pc3_some, fin_some, g_var0, g_vars, g_loc0, g_locs, g_int, g_bool, g_str, g_sl, s_none, s_zero, s_succ, cl_nil, cl_str, cl_bool, cl_slc, cl_own, evFa, evNil, asEl, evBin, intBin, strBin, evUn, len_nil, len_slc, len_str, clr, List.length_nil, List.length_cons, List.getElem?_cons_zero, List.getElem?_cons_succ, Nat.reduceAdd, Nat.zero_add, Nat.add_zero, Nat.reduceLeDiff, Nat.reduceSub, ↓reduceIte, List.drop_succ_cons, List.drop_zero, List.take_succ_cons, List.take_zero, Bool.false_eq_true, List.nil_append, List.cons_append, Bool.not_true, Bool.not_false, cond_true, cond_false, bne, lv_ret, lv_normal, res1, res2, lv2_some, res_var, res_cell, lvf_v, lvf_slc, res1c, lvo1_some, e_mm, mm_max, mm_min, cl_agg, cl_int, g_agg, e_callv1, cv1_fn, e_slice2, e_clrrow, e_callf2, pick_und, cells_agg, Option.map_some, Option.map_none, bx_some]
      · cases g2
        have : decide (l = l') = false := by simpa using hne
        rw [this]
        simp only [c10, blk_ret, thn_ret, run_nil, run_cons, stp_plain, stp_guard, put_some, pass_eq, pick_tt, pick_ff, pick_tf, pick_ft, pick_u, reg_some, thn_normal, thn_exit, thn_ret, cnd_t, cnd_f, blk_normal, blk_ret, blk_exit, x_seq, x_region, x_cond, x_block, x_loop, x_ret, x_exit, x_skip, e_mov, e_pick, pk_t, pk_f, withH_some, e_box, e_load, e_store, stH_some, e_nil, e_bin, e_eqv, eqH_f, eqH_t, e_un, e_fa, e_ia, ia_eq, nat_eq, natV_nat, e_len, lnH_some, e_extract, ex_0, ex_1, e_call0, e_call1, e_call2, e_call3, pc0_eq, pc1_some, pc2_some, pc3_some, fin_some, g_var0, g_vars, g_loc0, g_locs, g_int, g_bool, g_str, g_sl, s_none, s_zero, s_succ, cl_nil, cl_str, cl_bool, cl_slc, cl_own, evFa, evNil, asEl, evBin, intBin, strBin, evUn, len_nil, len_slc, len_str, clr, List.length_nil, List.length_cons, List.getElem?_cons_zero, List.getElem?_cons_succ, Nat.reduceAdd, Nat.zero_add, Nat.add_zero, Nat.reduceLeDiff, Nat.reduceSub, ↓reduceIte, List.drop_succ_cons, List.drop_zero, List.take_succ_cons, List.take_zero, Bool.false_eq_true, List.nil_append, List.cons_append, Bool.not_true, Bool.not_false, cond_true, cond_false, bne, lv_ret, lv_normal, res1, res2, lv2_some, res_var, res_cell, lvf_v, lvf_slc, res1c, lvo1_some, e_mm, mm_max, mm_min, cl_agg, cl_int, g_agg, e_callv1, cv1_fn, e_slice2, e_clrrow, e_callf2, pick_und, cells_agg, Option.map_some, Option.map_none, bx_some]

/-! ### big -/
def K6a : List Bool := [false, true, true, false, false, false, false, false, false, true, true, true, false, false, false, false, false, false, false, false, false, false, false, false, false, false, false, false, false]
def K6b : List Bool := [false, true, true, false, false, false, false, false, false, true, true, true, false, false, true, true, true, false, false, false, false, false, false, false, false, false, false, false, false]
def K6c : List Bool := [false, false, true, false, false, false, false, false, false, false, false, false, false, false, false, false, false, false, false, true, true, true, false, false, false, false, false, false, false]
def K6d : List Bool := [false, false, false, false, false, false, false, false, false, false, false, false, false, false, false, false, false, false, false, false, false, false, false, false, true, true, true, false, false]
def V6a (b ts c : AV) (n i : Int) (q : AV) : List AV := [.junk, b, ts, .junk, .junk, .junk, .junk, .junk, .junk, c, .v (.int .i64 n), .v (.int .i64 i), q, .junk, .junk, .junk, .junk, .junk, .junk, .junk, .junk, .junk, .junk, .junk, .junk, .junk, .junk, .junk, .junk]
def V6b (b ts c d : AV) (n i m j : Int) (q : AV) : List AV := [.junk, b, ts, .junk, .junk, .junk, .junk, .junk, .junk, c, .v (.int .i64 n), .v (.int .i64 i), .junk, .junk, d, .v (.int .i64 m), .v (.int .i64 j), q, .junk, .junk, .junk, .junk, .junk, .junk, .junk, .junk, .junk, .junk, .junk]
def V6c (ts b : AV) (n i : Int) (q : AV) : List AV := [.junk, .junk, ts, .junk, .junk, .junk, .junk, .junk, .junk, .junk, .junk, .junk, .junk, .junk, .junk, .junk, .junk, .junk, .junk, b, .v (.int .i64 n), .v (.int .i64 i), q, .junk, .junk, .junk, .junk, .junk, .junk]
def V6d (ts : AV) (n i : Int) (q : AV) : List AV := [.junk, .junk, .junk, .junk, .junk, .junk, .junk, .junk, .junk, .junk, .junk, .junk, .junk, .junk, .junk, .junk, .junk, .junk, .junk, .junk, .junk, .junk, .junk, .junk, ts, .v (.int .i64 n), .v (.int .i64 i), q, .junk]
def Yes6 (v : List AV) : Prop := v[3]? = some (.v (.bool true))
theorem z6 : (ofVal (.agg #[.int .i64 0, .string ⟨#[]⟩, .int .i64 0, .slice none 0 0, .slice none 0 0, .int .i64 0])).cl = some [.v (.int .i64 0), .v (.string ⟨#[]⟩), .v (.int .i64 0), .v (.slice none 0 0), .v (.slice none 0 0), .v (.int .i64 0)] := by kernel_rfl
theorem z5 : (ofVal (.agg #[.int .i64 0, .int .i64 0, .string ⟨#[]⟩, .int .i64 0, .slice none 0 0])).cl = some [.v (.int .i64 0), .v (.int .i64 0), .v (.string ⟨#[]⟩), .v (.int .i64 0), .v (.slice none 0 0)] := by kernel_rfl
theorem snapi (h : List AO) (x : Int) : (AV.v (.int .i64 x)).snap1 h = some (.v (.int .i64 x)) := rfl
theorem bx_l (h : List AO) (cs : List AV) : bx h (some cs) = some (.ptr h.length 0, h ++ [.box cs]) := rfl
section
variable {K : Nat} {b ts c d : AV}
theorem big_in {bl : List Tm} (hd : IsL d bl) (hK : bl.length < K) (n i : Int) (h : List AO) (v : List AV) (hv : clr K6b v = V6b b ts c d n i bl.length 0 .junk) :
    ∃ e v' h', loopN (exec (callW F) K c6_14) K6b K v h = some (e, v', h') ∧ ((e = .exit 2 ∧ v' = V6b b ts c d n i bl.length bl.length (.v (.bool false))) ∨ (e = .ret ∧ Yes6 v')) := by
  obtain ⟨es, hs, hes, hm⟩ := hd.sl
  have hlen := hes.length
  obtain ⟨e, v', h', g1, g2, g3⟩ := loop_rule0 (call := callW F) (K := K) (b := c6_14) (keep := K6b) (fun j v h => v = V6b b ts c d n i bl.length j .junk)
    (fun e v h => (e = .exit 2 ∧ v = V6b b ts c d n i bl.length bl.length (.v (.bool false))) ∨ (e = .ret ∧ Yes6 v)) bl.length (m := K) (v := v) (h := h) hK hv (by
      rintro j v h hj rfl
      by_cases hjl : j < bl.length
      · have hjl' : j < es.length := by omega
        have he : es[j]? = some es[j] := List.getElem?_eq_getElem hjl'
        obtain ⟨t, ht, hT⟩ := hes.get he
        have q1 := fun h : List AO => hs.ia he h
        have q2 := hT.elm.ld
        have q3 := fun h : List AO => hT.elm.st h (z := [.v (.int .i64 0), .v (.string ⟨#[]⟩), .v (.int .i64 0), .v (.slice none 0 0)]) rfl
        have q4 := hT.elm.ldn
        have sn := fun h : List AO => hT.snap (h := h)
        have hf := few_ok t _ 200 hT
        have hlt := lt_t hjl
        have hw := wrap_succ hjl (by omega)
        cases hq : decide (fewT t 200 ≥ 0) with
        | true =>
          rw [hq] at hf
          refine ⟨.normal, [.junk, b, ts, .junk, .junk, .ptr h.length 0, .junk, .junk, .junk, c, .v (.int .i64 n), .v (.int .i64 i), .junk, .junk, d, .v (.int .i64 bl.length), .v (.int .i64 ((j + 1 : Nat) : Int)), .v (.bool true), .v (.bool false), .junk, .junk, .junk, .junk, .junk, .junk, .junk, .junk, .junk, .junk], h ++ [.box (es[j]).cells], ?_, hjl, rfl⟩
          simp only [V6b, c6_14, c6_9, c6_10, c6_11, c6_13, hlt, q1, q2, q3, q4, sn, hf, hw, q9z, bx_l, snapi, run_nil, run_cons, stp_plain, stp_guard, put_some, pass_eq, pick_tt, pick_ff, pick_tf, pick_ft, pick_u, reg_some, thn_normal, thn_exit, thn_ret, cnd_t, cnd_f, blk_normal, blk_ret, blk_exit, x_seq, x_region, x_cond, x_block, x_loop, x_ret, x_exit, x_skip, e_mov, e_pick, pk_t, pk_f, withH_some, e_box, e_load, e_store, stH_some, e_nil, e_bin, e_eqv, eqH_f, eqH_t, e_un, e_fa, e_ia, ia_eq, nat_eq, natV_nat, e_len, lnH_some, e_extract, ex_0, ex_1, e_call0, e_call1, e_call2, e_call3, pc0_eq, pc1_some, pc2_some, pc3_some, fin_some, g_var0, g_vars, g_loc0, g_locs, g_int, g_bool, g_str, g_sl, s_none, s_zero, s_succ, cl_nil, cl_str, cl_bool, cl_slc, cl_own, evFa, evNil, asEl, evBin, intBin, strBin, evUn, len_nil, len_slc, len_str, clr, List.length_nil, List.length_cons, List.getElem?_cons_zero, List.getElem?_cons_succ, Nat.reduceAdd, Nat.zero_add, Nat.add_zero, Nat.reduceLeDiff, Nat.reduceSub, ↓reduceIte, List.drop_succ_cons, List.drop_zero, List.take_succ_cons, List.take_zero, Bool.false_eq_true, List.nil_append, List.cons_append, Bool.not_true, Bool.not_false, cond_true, cond_false, bne, lv_ret, lv_normal, res1, res2, lv2_some, res_var, res_cell, lvf_v, lvf_slc, res1c, lvo1_some, e_mm, mm_max, mm_min, cl_agg, cl_int, g_agg, e_callv1, cv1_fn, e_slice2, e_clrrow, e_callf2, pick_und, cells_agg, Option.map_some, Option.map_none]
        | false =>
          rw [hq] at hf
          refine ⟨.ret, [.junk, b, ts, .v (.bool true), .junk, .ptr h.length 0, .junk, .junk, .junk, c, .v (.int .i64 n), .v (.int .i64 i), .junk, .junk, d, .v (.int .i64 bl.length), .v (.int .i64 j), .v (.bool true), .v (.bool true), .junk, .junk, .junk, .junk, .junk, .junk, .junk, .junk, .junk, .junk], h ++ [.box (es[j]).cells], ?_, .inr ⟨rfl, rfl⟩⟩
          simp only [V6b, c6_14, c6_9, c6_10, c6_11, c6_12, hlt, q1, q2, q3, q4, sn, hf, q9z, bx_l, snapi, run_nil, run_cons, stp_plain, stp_guard, put_some, pass_eq, pick_tt, pick_ff, pick_tf, pick_ft, pick_u, reg_some, thn_normal, thn_exit, thn_ret, cnd_t, cnd_f, blk_normal, blk_ret, blk_exit, x_seq, x_region, x_cond, x_block, x_loop, x_ret, x_exit, x_skip, e_mov, e_pick, pk_t, pk_f, withH_some, e_box, e_load, e_store, stH_some, e_nil, e_bin, e_eqv, eqH_f, eqH_t, e_un, e_fa, e_ia, ia_eq, nat_eq, natV_nat, e_len, lnH_some, e_extract, ex_0, ex_1, e_call0, e_call1, e_call2, e_call3, pc0_eq, pc1_some, pc2_some, pc3_some, fin_some, g_var0, g_vars, g_loc0, g_locs, g_int, g_bool, g_str, g_sl, s_none, s_zero, s_succ, cl_nil, cl_str, cl_bool, cl_slc, cl_own, evFa, evNil, asEl, evBin, intBin, strBin, evUn, len_nil, len_slc, len_str, clr, List.length_nil, List.length_cons, List.getElem?_cons_zero, List.getElem?_cons_succ, Nat.reduceAdd, Nat.zero_add, Nat.add_zero, Nat.reduceLeDiff, Nat.reduceSub, ↓reduceIte, List.drop_succ_cons, List.drop_zero, List.take_succ_cons, List.take_zero, Bool.false_eq_true, List.nil_append, List.cons_append, Bool.not_true, Bool.not_false, cond_true, cond_false, bne, lv_ret, lv_normal, res1, res2, lv2_some, res_var, res_cell, lvf_v, lvf_slc, res1c, lvo1_some, e_mm, mm_max, mm_min, cl_agg, cl_int, g_agg, e_callv1, cv1_fn, e_slice2, e_clrrow, e_callf2, pick_und, cells_agg, Option.map_some, Option.map_none]
      · have hje : j = bl.length := by omega
        subst hje
        have hlt := lt_f (n := bl.length)
        refine ⟨.exit 2, V6b b ts c d n i bl.length bl.length (.v (.bool false)), h, ?_, .inl ⟨rfl, rfl⟩⟩
        simp only [V6b, c6_14, c6_9, hlt, run_nil, run_cons, stp_plain, stp_guard, put_some, pass_eq, pick_tt, pick_ff, pick_tf, pick_ft, pick_u, reg_some, thn_normal, thn_exit, thn_ret, cnd_t, cnd_f, blk_normal, blk_ret, blk_exit, x_seq, x_region, x_cond, x_block, x_loop, x_ret, x_exit, x_skip, e_mov, e_pick, pk_t, pk_f, withH_some, e_box, e_load, e_store, stH_some, e_nil, e_bin, e_eqv, eqH_f, eqH_t, e_un, e_fa, e_ia, ia_eq, nat_eq, natV_nat, e_len, lnH_some, e_extract, ex_0, ex_1, e_call0, e_call1, e_call2, e_call3, pc0_eq, pc1_some, pc2_some, pc3_some, fin_some, g_var0, g_vars, g_loc0, g_locs, g_int, g_bool, g_str, g_sl, s_none, s_zero, s_succ, cl_nil, cl_str, cl_bool, cl_slc, cl_own, evFa, evNil, asEl, evBin, intBin, strBin, evUn, len_nil, len_slc, len_str, clr, List.length_nil, List.length_cons, List.getElem?_cons_zero, List.getElem?_cons_succ, Nat.reduceAdd, Nat.zero_add, Nat.add_zero, Nat.reduceLeDiff, Nat.reduceSub, ↓reduceIte, List.drop_succ_cons, List.drop_zero, List.take_succ_cons, List.take_zero, Bool.false_eq_true, List.nil_append, List.cons_append, Bool.not_true, Bool.not_false, cond_true, cond_false, bne, lv_ret, lv_normal, res1, res2, lv2_some, res_var, res_cell, lvf_v, lvf_slc, res1c, lvo1_some, e_mm, mm_max, mm_min, cl_agg, cl_int, g_agg, e_callv1, cv1_fn, e_slice2, e_clrrow, e_callf2, pick_und, cells_agg, Option.map_some, Option.map_none])
  exact ⟨e, v', h', g1, g3⟩
theorem big_step {x : Cl} {n i : Int} {e : AV} (he : ∀ h : List AO, iaV h 6 c (some i.toNat) = some (.ip e.cells)) (hi : 0 ≤ i) (hlt : decide (i < n) = true) (hw : IntKind.i64.wrap (i + 1) = i + 1) (hx : IsCl e x) (hK : 60 < K) (h : List AO) :
    ∃ k v' h', exec (callW F) K c6_16 (V6a b ts c n i .junk) h = some (k, v', h') ∧ ((k = .normal ∧ clr K6a v' = V6a b ts c n (i + 1) .junk) ∨ (k = .ret ∧ Yes6 v')) := by
  obtain ⟨j, rfl⟩ := Int.eq_ofNat_of_zero_le hi
  simp only [Int.toNat_natCast] at he
  have hxe := hx.elm
  cases hx with
  | mk k1 s1 n1 c1 l1 hc1 b1 bl hb1 vs =>
    have hT : IsT (.agg [.v (.int .i64 k1), .v (.string s1), .v (.int .i64 n1), c1]) (.mk k1 s1 n1 l1) := .mk _ _ _ _ _ hc1
    have q2 := hxe.ld
    have q3 := fun h : List AO => hxe.st h (z := [.v (.int .i64 0), .v (.string ⟨#[]⟩), .v (.int .i64 0), .v (.slice none 0 0), .v (.slice none 0 0), .v (.int .i64 0)]) rfl
    have sn := fun h : List AO => hT.snap (h := h)
    have hf := few_ok (.mk k1 s1 n1 l1) _ 200 hT
    simp only [cells_agg] at q2 q3 he
    have q4 : ∀ h : List AO, evLoad (h ++ [.box [.v (.int .i64 k1), .v (.string s1), .v (.int .i64 n1), c1, b1, .v (.int .i64 vs)]]) true 4 (.ptr h.length 0) = some (.agg [.v (.int .i64 k1), .v (.string s1), .v (.int .i64 n1), c1]) := fun h => by rw [ld_new]; rfl
    have q5 : ∀ h : List AO, evLoad (h ++ [.box [.v (.int .i64 k1), .v (.string s1), .v (.int .i64 n1), c1, b1, .v (.int .i64 vs)]]) false 1 (.ptr h.length 4) = some b1 := fun h => by rw [ld_new]; rfl
    have bn := hb1.len
    cases hq : decide (fewT (.mk k1 s1 n1 l1) 200 ≥ 0) with
    | false =>
      rw [hq] at hf
      refine ⟨.ret, [.junk, b, ts, .v (.bool true), .ptr h.length 0, .junk, .junk, .junk, .junk, c, .v (.int .i64 n), .v (.int .i64 j), .v (.bool true), .v (.bool true), .junk, .junk, .junk, .junk, .junk, .junk, .junk, .junk, .junk, .junk, .junk, .junk, .junk, .junk, .junk], h ++ [.box [.v (.int .i64 k1), .v (.string s1), .v (.int .i64 n1), c1, b1, .v (.int .i64 vs)]], ?_, .inr ⟨rfl, rfl⟩⟩
      simp only [V6a, c6_16, c6_4, c6_5, c6_6, c6_7, hlt, he, q2, q3, q4, sn, hf, z6, bx_l, snapi, run_nil, run_cons, stp_plain, stp_guard, put_some, pass_eq, pick_tt, pick_ff, pick_tf, pick_ft, pick_u, reg_some, thn_normal, thn_exit, thn_ret, cnd_t, cnd_f, blk_normal, blk_ret, blk_exit, x_seq, x_region, x_cond, x_block, x_loop, x_ret, x_exit, x_skip, e_mov, e_pick, pk_t, pk_f, withH_some, e_box, e_load, e_store, stH_some, e_nil, e_bin, e_eqv, eqH_f, eqH_t, e_un, e_fa, e_ia, ia_eq, nat_eq, natV_nat, e_len, lnH_some, e_extract, ex_0, ex_1, e_call0, e_call1, e_call2, e_call3, pc0_eq, pc1_some, pc2_some, pc3_some, fin_some, g_var0, g_vars, g_loc0, g_locs, g_int, g_bool, g_str, g_sl, s_none, s_zero, s_succ, cl_nil, cl_str, cl_bool, cl_slc, cl_own, evFa, evNil, asEl, evBin, intBin, strBin, evUn, len_nil, len_slc, len_str, clr, List.length_nil, List.length_cons, List.getElem?_cons_zero, List.getElem?_cons_succ, Nat.reduceAdd, Nat.zero_add, Nat.add_zero, Nat.reduceLeDiff, Nat.reduceSub, ↓reduceIte, List.drop_succ_cons, List.drop_zero, List.take_succ_cons, List.take_zero, Bool.false_eq_true, List.nil_append, List.cons_append, Bool.not_true, Bool.not_false, cond_true, cond_false, bne, lv_ret, lv_normal, res1, res2, lv2_some, res_var, res_cell, lvf_v, lvf_slc, res1c, lvo1_some, e_mm, mm_max, mm_min, cl_agg, cl_int, g_agg, e_callv1, cv1_fn, e_slice2, e_clrrow, e_callf2, pick_und, cells_agg, Option.map_some, Option.map_none]
    | true =>
      rw [hq] at hf
      cases hl : decide ((bl.length : Int) > 60) with
      | true =>
        refine ⟨.ret, [.junk, b, ts, .v (.bool true), .ptr h.length 0, .junk, .junk, .junk, .junk, c, .v (.int .i64 n), .v (.int .i64 j), .v (.bool true), .v (.bool true), .junk, .junk, .junk, .junk, .junk, .junk, .junk, .junk, .junk, .junk, .junk, .junk, .junk, .junk, .junk], h ++ [.box [.v (.int .i64 k1), .v (.string s1), .v (.int .i64 n1), c1, b1, .v (.int .i64 vs)]], ?_, .inr ⟨rfl, rfl⟩⟩
        simp only [V6a, c6_16, c6_4, c6_5, c6_6, c6_7, hlt, he, q2, q3, q4, q5, bn, hl, sn, hf, z6, bx_l, snapi, run_nil, run_cons, stp_plain, stp_guard, put_some, pass_eq, pick_tt, pick_ff, pick_tf, pick_ft, pick_u, reg_some, thn_normal, thn_exit, thn_ret, cnd_t, cnd_f, blk_normal, blk_ret, blk_exit, x_seq, x_region, x_cond, x_block, x_loop, x_ret, x_exit, x_skip, e_mov, e_pick, pk_t, pk_f, withH_some, e_box, e_load, e_store, stH_some, e_nil, e_bin, e_eqv, eqH_f, eqH_t, e_un, e_fa, e_ia, ia_eq, nat_eq, natV_nat, e_len, lnH_some, e_extract, ex_0, ex_1, e_call0, e_call1, e_call2, e_call3, pc0_eq, pc1_some, pc2_some, pc3_some, fin_some, g_var0, g_vars, g_loc0, g_locs, g_int, g_bool, g_str, g_sl, s_none, s_zero, s_succ, cl_nil, cl_str, cl_bool, cl_slc, cl_own, evFa, evNil, asEl, evBin, intBin, strBin, evUn, len_nil, len_slc, len_str, clr, List.length_nil, List.length_cons, List.getElem?_cons_zero, List.getElem?_cons_succ, Nat.reduceAdd, Nat.zero_add, Nat.add_zero, Nat.reduceLeDiff, Nat.reduceSub, ↓reduceIte, List.drop_succ_cons, List.drop_zero, List.take_succ_cons, List.take_zero, Bool.false_eq_true, List.nil_append, List.cons_append, Bool.not_true, Bool.not_false, cond_true, cond_false, bne, lv_ret, lv_normal, res1, res2, lv2_some, res_var, res_cell, lvf_v, lvf_slc, res1c, lvo1_some, e_mm, mm_max, mm_min, cl_agg, cl_int, g_agg, e_callv1, cv1_fn, e_slice2, e_clrrow, e_callf2, pick_und, cells_agg, Option.map_some, Option.map_none]
      | false =>
        have hl60 : bl.length ≤ 60 := by simp at hl; omega
        have pre : exec (callW F) K c6_16 (V6a b ts c n j .junk) h = thn (callW F) K (.region [] [] c6_15) (blk 1 (blk 2 (loopN (exec (callW F) K c6_14) K6b K [.junk, b, ts, .junk, .ptr h.length 0, .junk, .junk, .junk, .junk, c, .v (.int .i64 n), .v (.int .i64 j), .v (.bool true), .v (.bool false), b1, .v (.int .i64 bl.length), .v (.int .i64 0), .junk, .junk, .junk, .junk, .junk, .junk, .junk, .junk, .junk, .junk, .junk, .junk] (h ++ [.box [.v (.int .i64 k1), .v (.string s1), .v (.int .i64 n1), c1, b1, .v (.int .i64 vs)]])))) := by
          rw [show c6_16 = (.seq (.region [] [] c6_4) (.seq (.cond (.var 12) .skip (.exit 0)) (.seq (.block 1 (.seq (.region [] [] c6_5) (.seq (.seq (.region [] [] c6_6) (.cond (.var 13) (.seq (.region [] [] c6_7) .ret) .skip)) (.seq (.region [] [] c6_8) (.block 2 (.loop K6b [] c6_14)))))) (.region [] [] c6_15)))) from rfl]
          generalize c6_14 = bb
          simp only [V6a, c6_4, c6_5, c6_6, c6_7, c6_8, hlt, he, q2, q3, q4, q5, bn, hl, sn, hf, z6, bx_l, snapi, run_nil, run_cons, stp_plain, stp_guard, put_some, pass_eq, pick_tt, pick_ff, pick_tf, pick_ft, pick_u, reg_some, thn_normal, thn_exit, thn_ret, cnd_t, cnd_f, blk_normal, blk_ret, blk_exit, x_seq, x_region, x_cond, x_block, x_loop, x_ret, x_exit, x_skip, e_mov, e_pick, pk_t, pk_f, withH_some, e_box, e_load, e_store, stH_some, e_nil, e_bin, e_eqv, eqH_f, eqH_t, e_un, e_fa, e_ia, ia_eq, nat_eq, natV_nat, e_len, lnH_some, e_extract, ex_0, ex_1, e_call0, e_call1, e_call2, e_call3, pc0_eq, pc1_some, pc2_some, pc3_some, fin_some, g_var0, g_vars, g_loc0, g_locs, g_int, g_bool, g_str, g_sl, s_none, s_zero, s_succ, cl_nil, cl_str, cl_bool, cl_slc, cl_own, evFa, evNil, asEl, evBin, intBin, strBin, evUn, len_nil, len_slc, len_str, clr, List.length_nil, List.length_cons, List.getElem?_cons_zero, List.getElem?_cons_succ, Nat.reduceAdd, Nat.zero_add, Nat.add_zero, Nat.reduceLeDiff, Nat.reduceSub, ↓reduceIte, List.drop_succ_cons, List.drop_zero, List.take_succ_cons, List.take_zero, Bool.false_eq_true, List.nil_append, List.cons_append, Bool.not_true, Bool.not_false, cond_true, cond_false, bne, lv_ret, lv_normal, res1, res2, lv2_some, res_var, res_cell, lvf_v, lvf_slc, res1c, lvo1_some, e_mm, mm_max, mm_min, cl_agg, cl_int, g_agg, e_callv1, cv1_fn, e_slice2, e_clrrow, e_callf2, pick_und, cells_agg, Option.map_some, Option.map_none]
        obtain ⟨k, v', h', g1, g2⟩ := big_in (K := K) (b := b) (ts := ts) (c := c) hb1 (by omega) n j (h ++ [.box [.v (.int .i64 k1), .v (.string s1), .v (.int .i64 n1), c1, b1, .v (.int .i64 vs)]]) [.junk, b, ts, .junk, .ptr h.length 0, .junk, .junk, .junk, .junk, c, .v (.int .i64 n), .v (.int .i64 j), .v (.bool true), .v (.bool false), b1, .v (.int .i64 bl.length), .v (.int .i64 0), .junk, .junk, .junk, .junk, .junk, .junk, .junk, .junk, .junk, .junk, .junk, .junk] rfl
        rw [pre, g1]
        rcases g2 with ⟨rfl, rfl⟩ | ⟨rfl, g2⟩
        · refine ⟨.normal, [.junk, b, ts, .junk, .junk, .junk, .junk, .junk, .junk, c, .v (.int .i64 n), .v (.int .i64 (j + 1)), .junk, .junk, b1, .v (.int .i64 bl.length), .v (.int .i64 bl.length), .v (.bool false), .junk, .junk, .junk, .junk, .junk, .junk, .junk, .junk, .junk, .junk, .junk], h', ?_, .inl ⟨rfl, rfl⟩⟩
          simp only [V6b, c6_15, hw, run_nil, run_cons, stp_plain, stp_guard, put_some, pass_eq, pick_tt, pick_ff, pick_tf, pick_ft, pick_u, reg_some, thn_normal, thn_exit, thn_ret, cnd_t, cnd_f, blk_normal, blk_ret, blk_exit, x_seq, x_region, x_cond, x_block, x_loop, x_ret, x_exit, x_skip, e_mov, e_pick, pk_t, pk_f, withH_some, e_box, e_load, e_store, stH_some, e_nil, e_bin, e_eqv, eqH_f, eqH_t, e_un, e_fa, e_ia, ia_eq, nat_eq, natV_nat, e_len, lnH_some, e_extract, ex_0, ex_1, e_call0, e_call1, e_call2, e_call3, pc0_eq, pc1_some, pc2_some, pc3_some, fin_some, g_var0, g_vars, g_loc0, g_locs, g_int, g_bool, g_str, g_sl, s_none, s_zero, s_succ, cl_nil, cl_str, cl_bool, cl_slc, cl_own, evFa, evNil, asEl, evBin, intBin, strBin, evUn, len_nil, len_slc, len_str, clr, List.length_nil, List.length_cons, List.getElem?_cons_zero, List.getElem?_cons_succ, Nat.reduceAdd, Nat.zero_add, Nat.add_zero, Nat.reduceLeDiff, Nat.reduceSub, ↓reduceIte, List.drop_succ_cons, List.drop_zero, List.take_succ_cons, List.take_zero, Bool.false_eq_true, List.nil_append, List.cons_append, Bool.not_true, Bool.not_false, cond_true, cond_false, bne, lv_ret, lv_normal, res1, res2, lv2_some, res_var, res_cell, lvf_v, lvf_slc, res1c, lvo1_some, e_mm, mm_max, mm_min, cl_agg, cl_int, g_agg, e_callv1, cv1_fn, e_slice2, e_clrrow, e_callf2, pick_und, cells_agg, Option.map_some, Option.map_none]
        · exact ⟨.ret, v', h', by simp only [run_nil, run_cons, stp_plain, stp_guard, put_some, pass_eq, pick_tt, pick_ff, pick_tf, pick_ft, pick_u, reg_some, thn_normal, thn_exit, thn_ret, cnd_t, cnd_f, blk_normal, blk_ret, blk_exit, x_seq, x_region, x_cond, x_block, x_loop, x_ret, x_exit, x_skip, e_mov, e_pick, pk_t, pk_f, withH_some, e_box, e_load, e_store, stH_some, e_nil, e_bin, e_eqv, eqH_f, eqH_t, e_un, e_fa, e_ia, ia_eq, nat_eq, natV_nat, e_len, lnH_some, e_extract, ex_0, ex_1, e_call0, e_call1, e_call2, e_call3, pc0_eq, pc1_some, pc2_some, pc3_some, fin_some, g_var0, g_vars, g_loc0, g_locs, g_int, g_bool, g_str, g_sl, s_none, s_zero, s_succ, cl_nil, cl_str, cl_bool, cl_slc, cl_own, evFa, evNil, asEl, evBin, intBin, strBin, evUn, len_nil, len_slc, len_str, clr, List.length_nil, List.length_cons, List.getElem?_cons_zero, List.getElem?_cons_succ, Nat.reduceAdd, Nat.zero_add, Nat.add_zero, Nat.reduceLeDiff, Nat.reduceSub, ↓reduceIte, List.drop_succ_cons, List.drop_zero, List.take_succ_cons, List.take_zero, Bool.false_eq_true, List.nil_append, List.cons_append, Bool.not_true, Bool.not_false, cond_true, cond_false, bne, lv_ret, lv_normal, res1, res2, lv2_some, res_var, res_cell, lvf_v, lvf_slc, res1c, lvo1_some, e_mm, mm_max, mm_min, cl_agg, cl_int, g_agg, e_callv1, cv1_fn, e_slice2, e_clrrow, e_callf2, pick_und, cells_agg, Option.map_some, Option.map_none], .inr ⟨rfl, g2⟩⟩
theorem big_c {bs : List (Int × Tm)} {es : List AV} (hs : Sl 5 b es) (hes : AllB es bs) (hm : es.length ≤ maxLen) (hK : es.length < K) (h : List AO) (v : List AV) (hv : clr K6c v = V6c ts b es.length 0 .junk) :
    ∃ e v' h', loopN (exec (callW F) K c6_23) K6c K v h = some (e, v', h') ∧ ((e = .exit 4 ∧ v' = V6c ts b es.length es.length (.v (.bool false))) ∨ (e = .ret ∧ Yes6 v')) := by
  obtain ⟨e, v', h', g1, g2, g3⟩ := loop_rule0 (call := callW F) (K := K) (b := c6_23) (keep := K6c) (fun j v h => v = V6c ts b es.length j .junk)
    (fun e v h => (e = .exit 4 ∧ v = V6c ts b es.length es.length (.v (.bool false))) ∨ (e = .ret ∧ Yes6 v)) es.length (m := K) (v := v) (h := h) hK hv (by
      rintro j v h hj rfl
      by_cases hjl : j < es.length
      · have he : es[j]? = some es[j] := List.getElem?_eq_getElem hjl
        obtain ⟨v1, t, hB⟩ := hes.mem es[j] (List.getElem_mem hjl)
        have q1 := fun h : List AO => hs.ia he h
        have q2 := hB.elm.ld
        have q3 := fun h : List AO => hB.elm.st h (z := [.v (.int .i64 0), .v (.int .i64 0), .v (.string ⟨#[]⟩), .v (.int .i64 0), .v (.slice none 0 0)]) rfl
        have hlt := lt_t hjl
        have hw := wrap_succ hjl hm
        generalize es[j] = e at *
        cases hB with
        | mk _ cs _ hT =>
          have q4 : ∀ h : List AO, evLoad (h ++ [.box (.v (.int .i64 v1) :: cs)]) true 4 (.ptr h.length 1) = some (.agg cs) := fun h => by
            rw [ld_new]
            cases hT with | mk k s n c l hc => rfl
          have sn := fun h : List AO => hT.snap (h := h)
          have hf := few_ok t _ 20 hT
          simp only [cells_agg] at q1 q2 q3
          cases hq : decide (fewT t 20 ≥ 0) with
          | true =>
            rw [hq] at hf
            refine ⟨.normal, [.junk, .junk, ts, .junk, .junk, .junk, .ptr h.length 0, .junk, .junk, .junk, .junk, .junk, .junk, .junk, .junk, .junk, .junk, .junk, .junk, b, .v (.int .i64 es.length), .v (.int .i64 ((j + 1 : Nat) : Int)), .v (.bool true), .v (.bool false), .junk, .junk, .junk, .junk, .junk], h ++ [.box (.v (.int .i64 v1) :: cs)], ?_, hjl, rfl⟩
            simp only [V6c, c6_23, c6_18, c6_19, c6_20, c6_22, hlt, q1, q2, q3, q4, sn, hf, hw, z5, bx_l, snapi, run_nil, run_cons, stp_plain, stp_guard, put_some, pass_eq, pick_tt, pick_ff, pick_tf, pick_ft, pick_u, reg_some, thn_normal, thn_exit, thn_ret, cnd_t, cnd_f, blk_normal, blk_ret, blk_exit, x_seq, x_region, x_cond, x_block, x_loop, x_ret, x_exit, x_skip, e_mov, e_pick, pk_t, pk_f, withH_some, e_box, e_load, e_store, stH_some, e_nil, e_bin, e_eqv, eqH_f, eqH_t, e_un, e_fa, e_ia, ia_eq, nat_eq, natV_nat, e_len, lnH_some, e_extract, ex_0, ex_1, e_call0, e_call1, e_call2, e_call3, pc0_eq, pc1_some, pc2_some, pc3_some, fin_some, g_var0, g_vars, g_loc0, g_locs, g_int, g_bool, g_str, g_sl, s_none, s_zero, s_succ, cl_nil, cl_str, cl_bool, cl_slc, cl_own, evFa, evNil, asEl, evBin, intBin, strBin, evUn, len_nil, len_slc, len_str, clr, List.length_nil, List.length_cons, List.getElem?_cons_zero, List.getElem?_cons_succ, Nat.reduceAdd, Nat.zero_add, Nat.add_zero, Nat.reduceLeDiff, Nat.reduceSub, ↓reduceIte, List.drop_succ_cons, List.drop_zero, List.take_succ_cons, List.take_zero, Bool.false_eq_true, List.nil_append, List.cons_append, Bool.not_true, Bool.not_false, cond_true, cond_false, bne, lv_ret, lv_normal, res1, res2, lv2_some, res_var, res_cell, lvf_v, lvf_slc, res1c, lvo1_some, e_mm, mm_max, mm_min, cl_agg, cl_int, g_agg, e_callv1, cv1_fn, e_slice2, e_clrrow, e_callf2, pick_und, cells_agg, Option.map_some, Option.map_none]
          | false =>
            rw [hq] at hf
            refine ⟨.ret, [.junk, .junk, ts, .v (.bool true), .junk, .junk, .ptr h.length 0, .junk, .junk, .junk, .junk, .junk, .junk, .junk, .junk, .junk, .junk, .junk, .junk, b, .v (.int .i64 es.length), .v (.int .i64 j), .v (.bool true), .v (.bool true), .junk, .junk, .junk, .junk, .junk], h ++ [.box (.v (.int .i64 v1) :: cs)], ?_, .inr ⟨rfl, rfl⟩⟩
            simp only [V6c, c6_23, c6_18, c6_19, c6_20, c6_21, hlt, q1, q2, q3, q4, sn, hf, z5, bx_l, snapi, run_nil, run_cons, stp_plain, stp_guard, put_some, pass_eq, pick_tt, pick_ff, pick_tf, pick_ft, pick_u, reg_some, thn_normal, thn_exit, thn_ret, cnd_t, cnd_f, blk_normal, blk_ret, blk_exit, x_seq, x_region, x_cond, x_block, x_loop, x_ret, x_exit, x_skip, e_mov, e_pick, pk_t, pk_f, withH_some, e_box, e_load, e_store, stH_some, e_nil, e_bin, e_eqv, eqH_f, eqH_t, e_un, e_fa, e_ia, ia_eq, nat_eq, natV_nat, e_len, lnH_some, e_extract, ex_0, ex_1, e_call0, e_call1, e_call2, e_call3, pc0_eq, pc1_some, pc2_some, pc3_some, fin_some, g_var0, g_vars, g_loc0, g_locs, g_int, g_bool, g_str, g_sl, s_none, s_zero, s_succ, cl_nil, cl_str, cl_bool, cl_slc, cl_own, evFa, evNil, asEl, evBin, intBin, strBin, evUn, len_nil, len_slc, len_str, clr, List.length_nil, List.length_cons, List.getElem?_cons_zero, List.getElem?_cons_succ, Nat.reduceAdd, Nat.zero_add, Nat.add_zero, Nat.reduceLeDiff, Nat.reduceSub, ↓reduceIte, List.drop_succ_cons, List.drop_zero, List.take_succ_cons, List.take_zero, Bool.false_eq_true, List.nil_append, List.cons_append, Bool.not_true, Bool.not_false, cond_true, cond_false, bne, lv_ret, lv_normal, res1, res2, lv2_some, res_var, res_cell, lvf_v, lvf_slc, res1c, lvo1_some, e_mm, mm_max, mm_min, cl_agg, cl_int, g_agg, e_callv1, cv1_fn, e_slice2, e_clrrow, e_callf2, pick_und, cells_agg, Option.map_some, Option.map_none]
      · have hje : j = es.length := by omega
        subst hje
        have hlt := lt_f (n := es.length)
        refine ⟨.exit 4, V6c ts b es.length es.length (.v (.bool false)), h, ?_, .inl ⟨rfl, rfl⟩⟩
        simp only [V6c, c6_23, c6_18, hlt, run_nil, run_cons, stp_plain, stp_guard, put_some, pass_eq, pick_tt, pick_ff, pick_tf, pick_ft, pick_u, reg_some, thn_normal, thn_exit, thn_ret, cnd_t, cnd_f, blk_normal, blk_ret, blk_exit, x_seq, x_region, x_cond, x_block, x_loop, x_ret, x_exit, x_skip, e_mov, e_pick, pk_t, pk_f, withH_some, e_box, e_load, e_store, stH_some, e_nil, e_bin, e_eqv, eqH_f, eqH_t, e_un, e_fa, e_ia, ia_eq, nat_eq, natV_nat, e_len, lnH_some, e_extract, ex_0, ex_1, e_call0, e_call1, e_call2, e_call3, pc0_eq, pc1_some, pc2_some, pc3_some, fin_some, g_var0, g_vars, g_loc0, g_locs, g_int, g_bool, g_str, g_sl, s_none, s_zero, s_succ, cl_nil, cl_str, cl_bool, cl_slc, cl_own, evFa, evNil, asEl, evBin, intBin, strBin, evUn, len_nil, len_slc, len_str, clr, List.length_nil, List.length_cons, List.getElem?_cons_zero, List.getElem?_cons_succ, Nat.reduceAdd, Nat.zero_add, Nat.add_zero, Nat.reduceLeDiff, Nat.reduceSub, ↓reduceIte, List.drop_succ_cons, List.drop_zero, List.take_succ_cons, List.take_zero, Bool.false_eq_true, List.nil_append, List.cons_append, Bool.not_true, Bool.not_false, cond_true, cond_false, bne, lv_ret, lv_normal, res1, res2, lv2_some, res_var, res_cell, lvf_v, lvf_slc, res1c, lvo1_some, e_mm, mm_max, mm_min, cl_agg, cl_int, g_agg, e_callv1, cv1_fn, e_slice2, e_clrrow, e_callf2, pick_und, cells_agg, Option.map_some, Option.map_none])
  exact ⟨e, v', h', g1, g3⟩
theorem big_d {l : List Tm} {es : List AV} (hs : Sl 4 ts es) (hes : All2 es l) (hm : es.length ≤ maxLen) (hK : es.length < K) (h : List AO) (v : List AV) (hv : clr K6d v = V6d ts es.length 0 .junk) :
    ∃ e v' h', loopN (exec (callW F) K c6_30) K6d K v h = some (e, v', h') ∧ ((e = .exit 6 ∧ v' = V6d ts es.length es.length (.v (.bool false))) ∨ (e = .ret ∧ Yes6 v')) := by
  obtain ⟨e, v', h', g1, g2, g3⟩ := loop_rule0 (call := callW F) (K := K) (b := c6_30) (keep := K6d) (fun j v h => v = V6d ts es.length j .junk)
    (fun e v h => (e = .exit 6 ∧ v = V6d ts es.length es.length (.v (.bool false))) ∨ (e = .ret ∧ Yes6 v)) es.length (m := K) (v := v) (h := h) hK hv (by
      rintro j v h hj rfl
      by_cases hjl : j < es.length
      · have he : es[j]? = some es[j] := List.getElem?_eq_getElem hjl
        obtain ⟨t, _, hT⟩ := hes.mem es[j] (List.getElem_mem hjl)
        have q1 := fun h : List AO => hs.ia he h
        have q2 := hT.elm.ld
        have q3 := fun h : List AO => hT.elm.st h (z := [.v (.int .i64 0), .v (.string ⟨#[]⟩), .v (.int .i64 0), .v (.slice none 0 0)]) rfl
        have q4 := hT.elm.ldn
        have sn := fun h : List AO => hT.snap (h := h)
        have hf := few_ok t _ 200 hT
        have hlt := lt_t hjl
        have hw := wrap_succ hjl hm
        cases hq : decide (fewT t 200 ≥ 0) with
        | true =>
          rw [hq] at hf
          refine ⟨.normal, [.junk, .junk, .junk, .junk, .junk, .junk, .junk, .ptr h.length 0, .junk, .junk, .junk, .junk, .junk, .junk, .junk, .junk, .junk, .junk, .junk, .junk, .junk, .junk, .junk, .junk, ts, .v (.int .i64 es.length), .v (.int .i64 ((j + 1 : Nat) : Int)), .v (.bool true), .v (.bool false)], h ++ [.box (es[j]).cells], ?_, hjl, rfl⟩
          simp only [V6d, c6_30, c6_25, c6_26, c6_27, c6_29, hlt, q1, q2, q3, q4, sn, hf, hw, q9z, bx_l, snapi, run_nil, run_cons, stp_plain, stp_guard, put_some, pass_eq, pick_tt, pick_ff, pick_tf, pick_ft, pick_u, reg_some, thn_normal, thn_exit, thn_ret, cnd_t, cnd_f, blk_normal, blk_ret, blk_exit, x_seq, x_region, x_cond, x_block, x_loop, x_ret, x_exit, x_skip, e_mov, e_pick, pk_t, pk_f, withH_some, e_box, e_load, e_store, stH_some, e_nil, e_bin, e_eqv, eqH_f, eqH_t, e_un, e_fa, e_ia, ia_eq, nat_eq, natV_nat, e_len, lnH_some, e_extract, ex_0, ex_1, e_call0, e_call1, e_call2, e_call3, pc0_eq, pc1_some, pc2_some, pc3_some, fin_some, g_var0, g_vars, g_loc0, g_locs, g_int, g_bool, g_str, g_sl, s_none, s_zero, s_succ, cl_nil, cl_str, cl_bool, cl_slc, cl_own, evFa, evNil, asEl, evBin, intBin, strBin, evUn, len_nil, len_slc, len_str, clr, List.length_nil, List.length_cons, List.getElem?_cons_zero, List.getElem?_cons_succ, Nat.reduceAdd, Nat.zero_add, Nat.add_zero, Nat.reduceLeDiff, Nat.reduceSub, ↓reduceIte, List.drop_succ_cons, List.drop_zero, List.take_succ_cons, List.take_zero, Bool.false_eq_true, List.nil_append, List.cons_append, Bool.not_true, Bool.not_false, cond_true, cond_false, bne, lv_ret, lv_normal, res1, res2, lv2_some, res_var, res_cell, lvf_v, lvf_slc, res1c, lvo1_some, e_mm, mm_max, mm_min, cl_agg, cl_int, g_agg, e_callv1, cv1_fn, e_slice2, e_clrrow, e_callf2, pick_und, cells_agg, Option.map_some, Option.map_none]
        | false =>
          rw [hq] at hf
          refine ⟨.ret, [.junk, .junk, .junk, .v (.bool true), .junk, .junk, .junk, .ptr h.length 0, .junk, .junk, .junk, .junk, .junk, .junk, .junk, .junk, .junk, .junk, .junk, .junk, .junk, .junk, .junk, .junk, ts, .v (.int .i64 es.length), .v (.int .i64 j), .v (.bool true), .v (.bool true)], h ++ [.box (es[j]).cells], ?_, .inr ⟨rfl, rfl⟩⟩
          simp only [V6d, c6_30, c6_25, c6_26, c6_27, c6_28, hlt, q1, q2, q3, q4, sn, hf, q9z, bx_l, snapi, run_nil, run_cons, stp_plain, stp_guard, put_some, pass_eq, pick_tt, pick_ff, pick_tf, pick_ft, pick_u, reg_some, thn_normal, thn_exit, thn_ret, cnd_t, cnd_f, blk_normal, blk_ret, blk_exit, x_seq, x_region, x_cond, x_block, x_loop, x_ret, x_exit, x_skip, e_mov, e_pick, pk_t, pk_f, withH_some, e_box, e_load, e_store, stH_some, e_nil, e_bin, e_eqv, eqH_f, eqH_t, e_un, e_fa, e_ia, ia_eq, nat_eq, natV_nat, e_len, lnH_some, e_extract, ex_0, ex_1, e_call0, e_call1, e_call2, e_call3, pc0_eq, pc1_some, pc2_some, pc3_some, fin_some, g_var0, g_vars, g_loc0, g_locs, g_int, g_bool, g_str, g_sl, s_none, s_zero, s_succ, cl_nil, cl_str, cl_bool, cl_slc, cl_own, evFa, evNil, asEl, evBin, intBin, strBin, evUn, len_nil, len_slc, len_str, clr, List.length_nil, List.length_cons, List.getElem?_cons_zero, List.getElem?_cons_succ, Nat.reduceAdd, Nat.zero_add, Nat.add_zero, Nat.reduceLeDiff, Nat.reduceSub, ↓reduceIte, List.drop_succ_cons, List.drop_zero, List.take_succ_cons, List.take_zero, Bool.false_eq_true, List.nil_append, List.cons_append, Bool.not_true, Bool.not_false, cond_true, cond_false, bne, lv_ret, lv_normal, res1, res2, lv2_some, res_var, res_cell, lvf_v, lvf_slc, res1c, lvo1_some, e_mm, mm_max, mm_min, cl_agg, cl_int, g_agg, e_callv1, cv1_fn, e_slice2, e_clrrow, e_callf2, pick_und, cells_agg, Option.map_some, Option.map_none]
      · have hje : j = es.length := by omega
        subst hje
        have hlt := lt_f (n := es.length)
        refine ⟨.exit 6, V6d ts es.length es.length (.v (.bool false)), h, ?_, .inl ⟨rfl, rfl⟩⟩
        simp only [V6d, c6_30, c6_25, hlt, run_nil, run_cons, stp_plain, stp_guard, put_some, pass_eq, pick_tt, pick_ff, pick_tf, pick_ft, pick_u, reg_some, thn_normal, thn_exit, thn_ret, cnd_t, cnd_f, blk_normal, blk_ret, blk_exit, x_seq, x_region, x_cond, x_block, x_loop, x_ret, x_exit, x_skip, e_mov, e_pick, pk_t, pk_f, withH_some, e_box, e_load, e_store, stH_some, e_nil, e_bin, e_eqv, eqH_f, eqH_t, e_un, e_fa, e_ia, ia_eq, nat_eq, natV_nat, e_len, lnH_some, e_extract, ex_0, ex_1, e_call0, e_call1, e_call2, e_call3, pc0_eq, pc1_some, pc2_some, pc3_some, fin_some, g_var0, g_vars, g_loc0, g_locs, g_int, g_bool, g_str, g_sl, s_none, s_zero, s_succ, cl_nil, cl_str, cl_bool, cl_slc, cl_own, evFa, evNil, asEl, evBin, intBin, strBin, evUn, len_nil, len_slc, len_str, clr, List.length_nil, List.length_cons, List.getElem?_cons_zero, List.getElem?_cons_succ, Nat.reduceAdd, Nat.zero_add, Nat.add_zero, Nat.reduceLeDiff, Nat.reduceSub, ↓reduceIte, List.drop_succ_cons, List.drop_zero, List.take_succ_cons, List.take_zero, Bool.false_eq_true, List.nil_append, List.cons_append, Bool.not_true, Bool.not_false, cond_true, cond_false, bne, lv_ret, lv_normal, res1, res2, lv2_some, res_var, res_cell, lvf_v, lvf_slc, res1c, lvo1_some, e_mm, mm_max, mm_min, cl_agg, cl_int, g_agg, e_callv1, cv1_fn, e_slice2, e_clrrow, e_callf2, pick_und, cells_agg, Option.map_some, Option.map_none])
  exact ⟨e, v', h', g1, g3⟩
theorem big_a {p : List Cl} {es : List AV} (hs : Sl 6 c es) (hes : AllR IsCl es p) (hm : es.length ≤ maxLen) (hK : es.length < K) (hK' : 60 < K) (h : List AO) (v : List AV) (hv : clr K6a v = V6a b ts c es.length 0 .junk) :
    ∃ e v' h', loopN (exec (callW F) K c6_16) K6a K v h = some (e, v', h') ∧ ((e = .exit 0 ∧ v' = V6a b ts c es.length es.length (.v (.bool false))) ∨ (e = .ret ∧ Yes6 v')) := by
  obtain ⟨e, v', h', g1, g2, g3⟩ := loop_rule0 (call := callW F) (K := K) (b := c6_16) (keep := K6a) (fun j v h => v = V6a b ts c es.length j .junk)
    (fun e v h => (e = .exit 0 ∧ v = V6a b ts c es.length es.length (.v (.bool false))) ∨ (e = .ret ∧ Yes6 v)) es.length (m := K) (v := v) (h := h) hK hv (by
      rintro j v h hj rfl
      by_cases hjl : j < es.length
      · have he : es[j]? = some es[j] := List.getElem?_eq_getElem hjl
        obtain ⟨x, _, hx⟩ := hes.mem es[j] (List.getElem_mem hjl)
        obtain ⟨k, v', h', g1, g2⟩ := big_step (b := b) (ts := ts) (c := c) (n := es.length) (i := j) (fun h => hs.ia he h) (by omega) (lt_t hjl) (by rw [wrap_succ hjl hm]; simp) hx hK' h
        rcases g2 with ⟨rfl, g2⟩ | ⟨rfl, g2⟩
        · exact ⟨.normal, v', h', g1, hjl, by rw [g2]; simp⟩
        · exact ⟨.ret, v', h', g1, .inr ⟨rfl, g2⟩⟩
      · have hje : j = es.length := by omega
        subst hje
        have hlt := lt_f (n := es.length)
        refine ⟨.exit 0, V6a b ts c es.length es.length (.v (.bool false)), h, ?_, .inl ⟨rfl, rfl⟩⟩
        simp only [V6a, c6_16, c6_4, hlt, run_nil, run_cons, stp_plain, stp_guard, put_some, pass_eq, pick_tt, pick_ff, pick_tf, pick_ft, pick_u, reg_some, thn_normal, thn_exit, thn_ret, cnd_t, cnd_f, blk_normal, blk_ret, blk_exit, x_seq, x_region, x_cond, x_block, x_loop, x_ret, x_exit, x_skip, e_mov, e_pick, pk_t, pk_f, withH_some, e_box, e_load, e_store, stH_some, e_nil, e_bin, e_eqv, eqH_f, eqH_t, e_un, e_fa, e_ia, ia_eq, nat_eq, natV_nat, e_len, lnH_some, e_extract, ex_0, ex_1, e_call0, e_call1, e_call2, e_call3, pc0_eq, pc1_some, pc2_some, pc3_some, fin_some, g_var0, g_vars, g_loc0, g_locs, g_int, g_bool, g_str, g_sl, s_none, s_zero, s_succ, cl_nil, cl_str, cl_bool, cl_slc, cl_own, evFa, evNil, asEl, evBin, intBin, strBin, evUn, len_nil, len_slc, len_str, clr, List.length_nil, List.length_cons, List.getElem?_cons_zero, List.getElem?_cons_succ, Nat.reduceAdd, Nat.zero_add, Nat.add_zero, Nat.reduceLeDiff, Nat.reduceSub, ↓reduceIte, List.drop_succ_cons, List.drop_zero, List.take_succ_cons, List.take_zero, Bool.false_eq_true, List.nil_append, List.cons_append, Bool.not_true, Bool.not_false, cond_true, cond_false, bne, lv_ret, lv_normal, res1, res2, lv2_some, res_var, res_cell, lvf_v, lvf_slc, res1c, lvo1_some, e_mm, mm_max, mm_min, cl_agg, cl_int, g_agg, e_callv1, cv1_fn, e_slice2, e_clrrow, e_callf2, pick_und, cells_agg, Option.map_some, Option.map_none])
  exact ⟨e, v', h', g1, g3⟩
end
theorem yes_lv {v : List AV} {h : List AO} (hy : Yes6 v) : lv c6.res (some (.ret, v, h)) = some (.v (.bool true), []) := by
  rw [show c6.res = [.var 3] from rfl, lv_ret, res1, getO_of hy]
  rfl
theorem big_ok {c b ts : AV} {p : List Cl} {bs : List (Int × Tm)} {l : List Tm} (hp : IsS 6 IsCl c p) (hb : IsB b bs) (hts : IsL ts l) : ∃ r, callW F 6 [c, b, ts] [] = some (.v (.bool r), []) ∧ (r = false → p.length ≤ 60 ∧ bs.length ≤ 60) := by
  obtain ⟨es, hs, hes, hm⟩ := hp
  obtain ⟨ebs, hbs, hbes, hbm⟩ := hb.sl
  obtain ⟨els, hls, hles, hlm⟩ := hts.sl
  have n1 := fun h : List AO => hs.len h
  have n2 := fun h : List AO => hbs.len h
  have n3 := fun h : List AO => hls.len h
  have l1 := hes.length
  have l2 := hbes.length
  have l3 := hles.length
  have st6 : start c6 [c, b, ts] = [c, b, ts, .v undef, .v undef, .v undef, .v undef, .v undef, .v undef, .v undef, .v undef, .v undef, .v undef, .v undef, .v undef, .v undef, .v undef, .v undef, .v undef, .v undef, .v undef, .v undef, .v undef, .v undef, .v undef, .v undef, .v undef, .v undef, .v undef] := rfl
  cases h1 : decide ((es.length : Int) > 60) with
  | true =>
    refine ⟨true, callW_pure (c := c6) rfl rfl 0 ?_, fun h => by cases h⟩
    simp only [c6, start, List.replicate, c6_0, c6_1, c6_2, n1, n2, n3, h1, run_nil, run_cons, stp_plain, stp_guard, put_some, pass_eq, pick_tt, pick_ff, pick_tf, pick_ft, pick_u, reg_some, thn_normal, thn_exit, thn_ret, cnd_t, cnd_f, blk_normal, blk_ret, blk_exit, x_seq, x_region, x_cond, x_block, x_loop, x_ret, x_exit, x_skip, e_mov, e_pick, pk_t, pk_f, withH_some, e_box, e_load, e_store, stH_some, e_nil, e_bin, e_eqv, eqH_f, eqH_t, e_un, e_fa, e_ia, ia_eq, nat_eq, natV_nat, e_len, lnH_some, e_extract, ex_0, ex_1, e_call0, e_call1, e_call2, e_call3, pc0_eq, pc1_some, pc2_some, pc3_some, fin_some, g_var0, g_vars, g_loc0, g_locs, g_int, g_bool, g_str, g_sl, s_none, s_zero, s_succ, cl_nil, cl_str, cl_bool, cl_slc, cl_own, evFa, evNil, asEl, evBin, intBin, strBin, evUn, len_nil, len_slc, len_str, clr, List.length_nil, List.length_cons, List.getElem?_cons_zero, List.getElem?_cons_succ, Nat.reduceAdd, Nat.zero_add, Nat.add_zero, Nat.reduceLeDiff, Nat.reduceSub, ↓reduceIte, List.drop_succ_cons, List.drop_zero, List.take_succ_cons, List.take_zero, Bool.false_eq_true, List.nil_append, List.cons_append, Bool.not_true, Bool.not_false, cond_true, cond_false, bne, lv_ret, lv_normal, res1, res2, lv2_some, res_var, res_cell, lvf_v, lvf_slc, res1c, lvo1_some, e_mm, mm_max, mm_min, cl_agg, cl_int, g_agg, e_callv1, cv1_fn, e_slice2, e_clrrow, e_callf2, pick_und, cells_agg, Option.map_some, Option.map_none]
  | false =>
  cases h2 : decide ((ebs.length : Int) > 60) with
  | true =>
    refine ⟨true, callW_pure (c := c6) rfl rfl 0 ?_, fun h => by cases h⟩
    simp only [c6, start, List.replicate, c6_0, c6_1, c6_2, n1, n2, n3, h1, h2, run_nil, run_cons, stp_plain, stp_guard, put_some, pass_eq, pick_tt, pick_ff, pick_tf, pick_ft, pick_u, reg_some, thn_normal, thn_exit, thn_ret, cnd_t, cnd_f, blk_normal, blk_ret, blk_exit, x_seq, x_region, x_cond, x_block, x_loop, x_ret, x_exit, x_skip, e_mov, e_pick, pk_t, pk_f, withH_some, e_box, e_load, e_store, stH_some, e_nil, e_bin, e_eqv, eqH_f, eqH_t, e_un, e_fa, e_ia, ia_eq, nat_eq, natV_nat, e_len, lnH_some, e_extract, ex_0, ex_1, e_call0, e_call1, e_call2, e_call3, pc0_eq, pc1_some, pc2_some, pc3_some, fin_some, g_var0, g_vars, g_loc0, g_locs, g_int, g_bool, g_str, g_sl, s_none, s_zero, s_succ, cl_nil, cl_str, cl_bool, cl_slc, cl_own, evFa, evNil, asEl, evBin, intBin, strBin, evUn, len_nil, len_slc, len_str, clr, List.length_nil, List.length_cons, List.getElem?_cons_zero, List.getElem?_cons_succ, Nat.reduceAdd, Nat.zero_add, Nat.add_zero, Nat.reduceLeDiff, Nat.reduceSub, ↓reduceIte, List.drop_succ_cons, List.drop_zero, List.take_succ_cons, List.take_zero, Bool.false_eq_true, List.nil_append, List.cons_append, Bool.not_true, Bool.not_false, cond_true, cond_false, bne, lv_ret, lv_normal, res1, res2, lv2_some, res_var, res_cell, lvf_v, lvf_slc, res1c, lvo1_some, e_mm, mm_max, mm_min, cl_agg, cl_int, g_agg, e_callv1, cv1_fn, e_slice2, e_clrrow, e_callf2, pick_und, cells_agg, Option.map_some, Option.map_none]
  | false =>
  cases h3 : decide ((els.length : Int) > 60) with
  | true =>
    refine ⟨true, callW_pure (c := c6) rfl rfl 0 ?_, fun h => by cases h⟩
    simp only [c6, start, List.replicate, c6_0, c6_1, c6_2, n1, n2, n3, h1, h2, h3, run_nil, run_cons, stp_plain, stp_guard, put_some, pass_eq, pick_tt, pick_ff, pick_tf, pick_ft, pick_u, reg_some, thn_normal, thn_exit, thn_ret, cnd_t, cnd_f, blk_normal, blk_ret, blk_exit, x_seq, x_region, x_cond, x_block, x_loop, x_ret, x_exit, x_skip, e_mov, e_pick, pk_t, pk_f, withH_some, e_box, e_load, e_store, stH_some, e_nil, e_bin, e_eqv, eqH_f, eqH_t, e_un, e_fa, e_ia, ia_eq, nat_eq, natV_nat, e_len, lnH_some, e_extract, ex_0, ex_1, e_call0, e_call1, e_call2, e_call3, pc0_eq, pc1_some, pc2_some, pc3_some, fin_some, g_var0, g_vars, g_loc0, g_locs, g_int, g_bool, g_str, g_sl, s_none, s_zero, s_succ, cl_nil, cl_str, cl_bool, cl_slc, cl_own, evFa, evNil, asEl, evBin, intBin, strBin, evUn, len_nil, len_slc, len_str, clr, List.length_nil, List.length_cons, List.getElem?_cons_zero, List.getElem?_cons_succ, Nat.reduceAdd, Nat.zero_add, Nat.add_zero, Nat.reduceLeDiff, Nat.reduceSub, ↓reduceIte, List.drop_succ_cons, List.drop_zero, List.take_succ_cons, List.take_zero, Bool.false_eq_true, List.nil_append, List.cons_append, Bool.not_true, Bool.not_false, cond_true, cond_false, bne, lv_ret, lv_normal, res1, res2, lv2_some, res_var, res_cell, lvf_v, lvf_slc, res1c, lvo1_some, e_mm, mm_max, mm_min, cl_agg, cl_int, g_agg, e_callv1, cv1_fn, e_slice2, e_clrrow, e_callf2, pick_und, cells_agg, Option.map_some, Option.map_none]
  | false =>
  simp only [decide_eq_false_iff_not] at h1 h2 h3
  have b1 : es.length ≤ 60 := by omega
  have b2 : ebs.length ≤ 60 := by omega
  have b3 : els.length ≤ 60 := by omega
  have d1 : decide ((es.length : Int) > 60) = false := by simpa using h1
  have d2 : decide ((ebs.length : Int) > 60) = false := by simpa using h2
  have d3 : decide ((els.length : Int) > 60) = false := by simpa using h3
  let rest3 : CC := .seq (.region [] [] c6_31) .ret
  let rest2 : CC := .seq (.seq (.region [] [] c6_24) (.block 6 (.loop K6d [] c6_30))) rest3
  let rest1 : CC := .seq (.seq (.region [] [] c6_17) (.block 4 (.loop K6c [] c6_23))) rest2
  have pre : exec (callW F) 100 c6.body (start c6 [c, b, ts]) [] = thn (callW F) 100 rest1 (blk 0 (loopN (exec (callW F) 100 c6_16) K6a 100 [c, b, ts, .v (.bool false), .v undef, .v undef, .v undef, .v undef, .v (.bool false), c, .v (.int .i64 es.length), .v (.int .i64 0), .v undef, .v undef, .v undef, .v undef, .v undef, .v undef, .v undef, .v undef, .v undef, .v undef, .v undef, .v undef, .v undef, .v undef, .v undef, .v undef, .v undef] [])) := by
    rw [show c6.body = (.seq (.region [] [] c6_0) (.seq (.seq (.region [] [] c6_1) (.cond (.var 8) (.seq (.region [] [] c6_2) .ret) .skip)) (.seq (.seq (.region [] [] c6_3) (.block 0 (.loop K6a [] c6_16))) rest1))) from rfl, st6]
    generalize rest1 = r1
    generalize c6_16 = bb
    simp only [c6_0, c6_1, c6_3, n1, n2, n3, d1, d2, d3, run_nil, run_cons, stp_plain, stp_guard, put_some, pass_eq, pick_tt, pick_ff, pick_tf, pick_ft, pick_u, reg_some, thn_normal, thn_exit, thn_ret, cnd_t, cnd_f, blk_normal, blk_ret, blk_exit, x_seq, x_region, x_cond, x_block, x_loop, x_ret, x_exit, x_skip, e_mov, e_pick, pk_t, pk_f, withH_some, e_box, e_load, e_store, stH_some, e_nil, e_bin, e_eqv, eqH_f, eqH_t, e_un, e_fa, e_ia, ia_eq, nat_eq, natV_nat, e_len, lnH_some, e_extract, ex_0, ex_1, e_call0, e_call1, e_call2, e_call3, pc0_eq, pc1_some, pc2_some, pc3_some, fin_some, g_var0, g_vars, g_loc0, g_locs, g_int, g_bool, g_str, g_sl, s_none, s_zero, s_succ, cl_nil, cl_str, cl_bool, cl_slc, cl_own, evFa, evNil, asEl, evBin, intBin, strBin, evUn, len_nil, len_slc, len_str, clr, List.length_nil, List.length_cons, List.getElem?_cons_zero, List.getElem?_cons_succ, Nat.reduceAdd, Nat.zero_add, Nat.add_zero, Nat.reduceLeDiff, Nat.reduceSub, ↓reduceIte, List.drop_succ_cons, List.drop_zero, List.take_succ_cons, List.take_zero, Bool.false_eq_true, List.nil_append, List.cons_append, Bool.not_true, Bool.not_false, cond_true, cond_false, bne, lv_ret, lv_normal, res1, res2, lv2_some, res_var, res_cell, lvf_v, lvf_slc, res1c, lvo1_some, e_mm, mm_max, mm_min, cl_agg, cl_int, g_agg, e_callv1, cv1_fn, e_slice2, e_clrrow, e_callf2, pick_und, cells_agg, Option.map_some, Option.map_none]
  obtain ⟨e, v', h', g1, g2⟩ := big_a (K := 100) (b := b) (ts := ts) hs hes hm (by omega) (by omega) [] [c, b, ts, .v (.bool false), .v undef, .v undef, .v undef, .v undef, .v (.bool false), c, .v (.int .i64 es.length), .v (.int .i64 0), .v undef, .v undef, .v undef, .v undef, .v undef, .v undef, .v undef, .v undef, .v undef, .v undef, .v undef, .v undef, .v undef, .v undef, .v undef, .v undef, .v undef] rfl
  rcases g2 with ⟨rfl, rfl⟩ | ⟨rfl, g2⟩
  rotate_left
  · refine ⟨true, callW_pure (c := c6) rfl rfl 100 ?_, fun h => by cases h⟩
    rw [pre, g1, blk_ret, thn_ret]
    exact yes_lv g2
  have pre2 : ∀ h, exec (callW F) 100 rest1 (V6a b ts c es.length es.length (.v (.bool false))) h = thn (callW F) 100 rest2 (blk 4 (loopN (exec (callW F) 100 c6_23) K6c 100 [.junk, b, ts, .junk, .junk, .junk, .junk, .junk, .junk, c, .v (.int .i64 es.length), .v (.int .i64 es.length), .v (.bool false), .junk, .junk, .junk, .junk, .junk, .junk, b, .v (.int .i64 ebs.length), .v (.int .i64 0), .junk, .junk, .junk, .junk, .junk, .junk, .junk] h)) := by
    intro h
    rw [show rest1 = .seq (.seq (.region [] [] c6_17) (.block 4 (.loop K6c [] c6_23))) rest2 from rfl]
    generalize rest2 = r2
    generalize c6_23 = bb
    simp only [V6a, c6_17, n2, run_nil, run_cons, stp_plain, stp_guard, put_some, pass_eq, pick_tt, pick_ff, pick_tf, pick_ft, pick_u, reg_some, thn_normal, thn_exit, thn_ret, cnd_t, cnd_f, blk_normal, blk_ret, blk_exit, x_seq, x_region, x_cond, x_block, x_loop, x_ret, x_exit, x_skip, e_mov, e_pick, pk_t, pk_f, withH_some, e_box, e_load, e_store, stH_some, e_nil, e_bin, e_eqv, eqH_f, eqH_t, e_un, e_fa, e_ia, ia_eq, nat_eq, natV_nat, e_len, lnH_some, e_extract, ex_0, ex_1, e_call0, e_call1, e_call2, e_call3, pc0_eq, pc1_some, pc2_some, pc3_some, fin_some, g_var0, g_vars, g_loc0, g_locs, g_int, g_bool, g_str, g_sl, s_none, s_zero, s_succ, cl_nil, cl_str, cl_bool, cl_slc, cl_own, evFa, evNil, asEl, evBin, intBin, strBin, evUn, len_nil, len_slc, len_str, clr, List.length_nil, List.length_cons, List.getElem?_cons_zero, List.getElem?_cons_succ, Nat.reduceAdd, Nat.zero_add, Nat.add_zero, Nat.reduceLeDiff, Nat.reduceSub, ↓reduceIte, List.drop_succ_cons, List.drop_zero, List.take_succ_cons, List.take_zero, Bool.false_eq_true, List.nil_append, List.cons_append, Bool.not_true, Bool.not_false, cond_true, cond_false, bne, lv_ret, lv_normal, res1, res2, lv2_some, res_var, res_cell, lvf_v, lvf_slc, res1c, lvo1_some, e_mm, mm_max, mm_min, cl_agg, cl_int, g_agg, e_callv1, cv1_fn, e_slice2, e_clrrow, e_callf2, pick_und, cells_agg, Option.map_some, Option.map_none]
  obtain ⟨e, v', h2', g3, g4⟩ := big_c (K := 100) (ts := ts) hbs hbes hbm (by omega) h' [.junk, b, ts, .junk, .junk, .junk, .junk, .junk, .junk, c, .v (.int .i64 es.length), .v (.int .i64 es.length), .v (.bool false), .junk, .junk, .junk, .junk, .junk, .junk, b, .v (.int .i64 ebs.length), .v (.int .i64 0), .junk, .junk, .junk, .junk, .junk, .junk, .junk] rfl
  rcases g4 with ⟨rfl, rfl⟩ | ⟨rfl, g4⟩
  rotate_left
  · refine ⟨true, callW_pure (c := c6) rfl rfl 100 ?_, fun h => by cases h⟩
    rw [pre, g1, blk_exit, thn_normal, pre2, g3, blk_ret, thn_ret]
    exact yes_lv g4
  have pre3 : ∀ h, exec (callW F) 100 rest2 (V6c ts b ebs.length ebs.length (.v (.bool false))) h = thn (callW F) 100 rest3 (blk 6 (loopN (exec (callW F) 100 c6_30) K6d 100 [.junk, .junk, ts, .junk, .junk, .junk, .junk, .junk, .junk, .junk, .junk, .junk, .junk, .junk, .junk, .junk, .junk, .junk, .junk, b, .v (.int .i64 ebs.length), .v (.int .i64 ebs.length), .v (.bool false), .junk, ts, .v (.int .i64 els.length), .v (.int .i64 0), .junk, .junk] h)) := by
    intro h
    rw [show rest2 = .seq (.seq (.region [] [] c6_24) (.block 6 (.loop K6d [] c6_30))) rest3 from rfl]
    generalize rest3 = r3
    generalize c6_30 = bb
    simp only [V6c, c6_24, n3, run_nil, run_cons, stp_plain, stp_guard, put_some, pass_eq, pick_tt, pick_ff, pick_tf, pick_ft, pick_u, reg_some, thn_normal, thn_exit, thn_ret, cnd_t, cnd_f, blk_normal, blk_ret, blk_exit, x_seq, x_region, x_cond, x_block, x_loop, x_ret, x_exit, x_skip, e_mov, e_pick, pk_t, pk_f, withH_some, e_box, e_load, e_store, stH_some, e_nil, e_bin, e_eqv, eqH_f, eqH_t, e_un, e_fa, e_ia, ia_eq, nat_eq, natV_nat, e_len, lnH_some, e_extract, ex_0, ex_1, e_call0, e_call1, e_call2, e_call3, pc0_eq, pc1_some, pc2_some, pc3_some, fin_some, g_var0, g_vars, g_loc0, g_locs, g_int, g_bool, g_str, g_sl, s_none, s_zero, s_succ, cl_nil, cl_str, cl_bool, cl_slc, cl_own, evFa, evNil, asEl, evBin, intBin, strBin, evUn, len_nil, len_slc, len_str, clr, List.length_nil, List.length_cons, List.getElem?_cons_zero, List.getElem?_cons_succ, Nat.reduceAdd, Nat.zero_add, Nat.add_zero, Nat.reduceLeDiff, Nat.reduceSub, ↓reduceIte, List.drop_succ_cons, List.drop_zero, List.take_succ_cons, List.take_zero, Bool.false_eq_true, List.nil_append, List.cons_append, Bool.not_true, Bool.not_false, cond_true, cond_false, bne, lv_ret, lv_normal, res1, res2, lv2_some, res_var, res_cell, lvf_v, lvf_slc, res1c, lvo1_some, e_mm, mm_max, mm_min, cl_agg, cl_int, g_agg, e_callv1, cv1_fn, e_slice2, e_clrrow, e_callf2, pick_und, cells_agg, Option.map_some, Option.map_none]
  obtain ⟨e, v', h3', g5, g6⟩ := big_d (K := 100) hls hles hlm (by omega) h2' [.junk, .junk, ts, .junk, .junk, .junk, .junk, .junk, .junk, .junk, .junk, .junk, .junk, .junk, .junk, .junk, .junk, .junk, .junk, b, .v (.int .i64 ebs.length), .v (.int .i64 ebs.length), .v (.bool false), .junk, ts, .v (.int .i64 els.length), .v (.int .i64 0), .junk, .junk] rfl
  rcases g6 with ⟨rfl, rfl⟩ | ⟨rfl, g6⟩
  rotate_left
  · refine ⟨true, callW_pure (c := c6) rfl rfl 100 ?_, fun h => by cases h⟩
    rw [pre, g1, blk_exit, thn_normal, pre2, g3, blk_exit, thn_normal, pre3, g5, blk_ret, thn_ret]
    exact yes_lv g6
  refine ⟨false, callW_pure (c := c6) rfl rfl 100 ?_, fun _ => ⟨by omega, by omega⟩⟩
  rw [pre, g1, blk_exit, thn_normal, pre2, g3, blk_exit, thn_normal, pre3, g5, blk_exit, thn_normal]
  simp only [rest3, V6d, c6, c6_31, run_nil, run_cons, stp_plain, stp_guard, put_some, pass_eq, pick_tt, pick_ff, pick_tf, pick_ft, pick_u, reg_some, thn_normal, thn_exit, thn_ret, cnd_t, cnd_f, blk_normal, blk_ret, blk_exit, x_seq, x_region, x_cond, x_block, x_loop, x_ret, x_exit, x_skip, e_mov, e_pick, pk_t, pk_f, withH_some, e_box, e_load, e_store, stH_some, e_nil, e_bin, e_eqv, eqH_f, eqH_t, e_un, e_fa, e_ia, ia_eq, nat_eq, natV_nat, e_len, lnH_some, e_extract, ex_0, ex_1, e_call0, e_call1, e_call2, e_call3, pc0_eq, pc1_some, pc2_some, pc3_some, fin_some, g_var0, g_vars, g_loc0, g_locs, g_int, g_bool, g_str, g_sl, s_none, s_zero, s_succ, cl_nil, cl_str, cl_bool, cl_slc, cl_own, evFa, evNil, asEl, evBin, intBin, strBin, evUn, len_nil, len_slc, len_str, clr, List.length_nil, List.length_cons, List.getElem?_cons_zero, List.getElem?_cons_succ, Nat.reduceAdd, Nat.zero_add, Nat.add_zero, Nat.reduceLeDiff, Nat.reduceSub, ↓reduceIte, List.drop_succ_cons, List.drop_zero, List.take_succ_cons, List.take_zero, Bool.false_eq_true, List.nil_append, List.cons_append, Bool.not_true, Bool.not_false, cond_true, cond_false, bne, lv_ret, lv_normal, res1, res2, lv2_some, res_var, res_cell, lvf_v, lvf_slc, res1c, lvo1_some, e_mm, mm_max, mm_min, cl_agg, cl_int, g_agg, e_callv1, cv1_fn, e_slice2, e_clrrow, e_callf2, pick_und, cells_agg, Option.map_some, Option.map_none]
end Go.AE.Ytchiacliefahdaa
end

/-! IndexTwice in plain Lean. -/
section
set_option linter.unusedVariables false
set_option linter.unusedSimpArgs false
namespace Go.AE.Ytchiacliefahdaa
open Go Go.AE Go.Proofs.Ytchiacliefahdaa

theorem keeps_sub (p : List Cl) (l : List Int) (rs : List (Int × Tm)) (g : Tm) : List.Sublist (keepsT p l rs g) l := by
  unfold keepsT
  split
  · exact List.Sublist.refl l
  · split
    · exact List.filter_sublist
    · exact List.Sublist.refl l
theorem keeps_again (p : List Cl) (l : List Int) (rs : List (Int × Tm)) (g : Tm) : keepsT p (keepsT p l rs g) rs g = keepsT p l rs g := by
  unfold keepsT
  split
  · rfl
  · split
    · rename_i h; simp [keepT, h]
    · rename_i h; simp [h]
theorem sub_skip {x y : Int} {xs ys : List Int} (h : List.Sublist (x :: xs) (y :: ys)) (hne : y ≠ x) : List.Sublist (x :: xs) ys := by
  cases h with
  | cons _ h => exact h
  | cons_cons _ h => exact absurd rfl hne
theorem sub_take {x : Int} {xs ys : List Int} (h : List.Sublist (x :: xs) (x :: ys)) : List.Sublist xs ys := by
  cases h with
  | cons _ h => exact (List.sublist_cons_self x xs).trans h
  | cons_cons _ h => exact h

def K4a : List Bool := [true, true, true, false, true, false, true, true, true, false, false, true, true, true, false, false, false]
def K4b : List Bool := [true, true, true, false, true, false, true, true, true, true, false, true, true, true, false, false, false]
def V4a (c x b r : AV) (m j n : Int) (q : AV) : List AV := [c, x, b, .junk, .ptr 0 0, .junk, .v (.bool true), r, .v (.int .i64 m), .junk, .junk, r, .v (.int .i64 n), .v (.int .i64 j), q, .junk, .junk]
def V4b (c x b r : AV) (m j n k : Int) (q : AV) : List AV := [c, x, b, .junk, .ptr 0 0, .junk, .v (.bool true), r, .v (.int .i64 m), .v (.int .i64 k), .junk, r, .v (.int .i64 n), .v (.int .i64 j), .junk, q, .junk]
section
variable {K : Nat} {c x b r : AV}
theorem twice_in {xs : List AV} {l : List Int} (hs : Sl 1 x (intsV l)) (hm : l.length ≤ maxLen) (hK : l.length < K) {k : Int} {ks : List Int} {at0 : Nat} (hsub : List.Sublist (k :: ks) (l.drop at0)) (j n : Int) (h : List AO) (v : List AV) (hv : clr K4b v = V4b c x b r at0 j n k .junk) :
    ∃ at1 : Nat, at1 < l.length ∧ List.Sublist ks (l.drop (at1 + 1)) ∧ loopN (exec (callW F) K c4_11) K4b K v h = some (.exit 2, V4b c x b r at1 j n k (.v (.bool false)), h) := by
  have hat : at0 ≤ l.length := by
    have := hsub.length_le
    simp at this; omega
  have n1 := fun h : List AO => hs.len h
  simp only [intsV_len] at n1
  obtain ⟨e, v', h', g1, g2, g3⟩ := loop_rule (call := callW F) (K := K) (b := c4_11) (keep := K4b) (fun m v h' => v = V4b c x b r m j n k .junk ∧ h' = h ∧ List.Sublist (k :: ks) (l.drop m))
    (fun e v h' => ∃ at1 : Nat, at1 < l.length ∧ List.Sublist ks (l.drop (at1 + 1)) ∧ e = .exit 2 ∧ v = V4b c x b r at1 j n k (.v (.bool false)) ∧ h' = h) l.length (by
      rintro m v h' hml ⟨rfl, rfl, hsb⟩
      have hlt' : m < l.length := by
        have := hsb.length_le
        simp at this; omega
      have hlt := lt_t hlt'
      have hd : l.drop m = l[m] :: l.drop (m + 1) := List.drop_eq_getElem_cons hlt'
      rw [hd] at hsb
      have a1 : (intsV l)[m]? = some (.v (.int .i64 l[m])) := by simp [intsV, hlt']
      have q1 := fun h : List AO => hs.ia a1 h
      have q3 : ∀ (h : List AO) (n : Int), evLoad h false 1 (.ip (AV.v (.int .i64 n)).cells) = some (.v (.int .i64 n)) := fun _ _ => rfl
      have hw := wrap_succ hlt' hm
      cases hne : (l[m] == k) with
      | false =>
        refine ⟨.normal, [c, x, b, .junk, .ptr 0 0, .junk, .v (.bool true), r, .v (.int .i64 ((m + 1 : Nat) : Int)), .v (.int .i64 k), .junk, r, .v (.int .i64 n), .v (.int .i64 j), .junk, .v (.bool true), .junk], h', ?_, hlt', rfl, rfl, sub_skip hsb (by simpa using hne)⟩
        simp only [V4b, c4_11, c4_9, c4_10, hlt, n1, q1, q3, hne, hw, run_nil, run_cons, stp_plain, stp_guard, put_some, pass_eq, pick_tt, pick_ff, pick_tf, pick_ft, pick_u, reg_some, thn_normal, thn_exit, thn_ret, cnd_t, cnd_f, blk_normal, blk_ret, blk_exit, x_seq, x_region, x_cond, x_block, x_loop, x_ret, x_exit, x_skip, e_mov, e_pick, pk_t, pk_f, withH_some, e_box, e_load, e_store, stH_some, e_nil, e_bin, e_eqv, eqH_f, eqH_t, e_un, e_fa, e_ia, ia_eq, nat_eq, natV_nat, e_len, lnH_some, e_extract, ex_0, ex_1, e_call0, e_call1, e_call2, e_call3, pc0_eq, pc1_some, pc2_some, pc3_some, fin_some, g_var0, g_vars, g_loc0, g_locs, g_int, g_bool, g_str, g_sl, s_none, s_zero, s_succ, cl_nil, cl_str, cl_bool, cl_slc, cl_own, evFa, evNil, asEl, evBin, intBin, strBin, evUn, len_nil, len_slc, len_str, clr, List.length_nil, List.length_cons, List.getElem?_cons_zero, List.getElem?_cons_succ, Nat.reduceAdd, Nat.zero_add, Nat.add_zero, Nat.reduceLeDiff, Nat.reduceSub, ↓reduceIte, List.drop_succ_cons, List.drop_zero, List.take_succ_cons, List.take_zero, Bool.false_eq_true, List.nil_append, List.cons_append, Bool.not_true, Bool.not_false, cond_true, cond_false, bne, lv_ret, lv_normal, res1, res2, lv2_some, res_var, res_cell, lvf_v, lvf_slc, res1c, lvo1_some, e_mm, mm_max, mm_min, cl_agg, cl_int, g_agg, e_callv1, cv1_fn, e_slice2, e_clrrow, e_callf2, pick_und, cells_agg, Option.map_some, Option.map_none]
      | true =>
        have hk : l[m] = k := by simpa using hne
        refine ⟨.exit 2, V4b c x b r m j n k (.v (.bool false)), h', ?_, m, hlt', ?_, rfl, rfl, rfl⟩
        · simp only [V4b, c4_11, c4_9, hlt, n1, q1, q3, hne, run_nil, run_cons, stp_plain, stp_guard, put_some, pass_eq, pick_tt, pick_ff, pick_tf, pick_ft, pick_u, reg_some, thn_normal, thn_exit, thn_ret, cnd_t, cnd_f, blk_normal, blk_ret, blk_exit, x_seq, x_region, x_cond, x_block, x_loop, x_ret, x_exit, x_skip, e_mov, e_pick, pk_t, pk_f, withH_some, e_box, e_load, e_store, stH_some, e_nil, e_bin, e_eqv, eqH_f, eqH_t, e_un, e_fa, e_ia, ia_eq, nat_eq, natV_nat, e_len, lnH_some, e_extract, ex_0, ex_1, e_call0, e_call1, e_call2, e_call3, pc0_eq, pc1_some, pc2_some, pc3_some, fin_some, g_var0, g_vars, g_loc0, g_locs, g_int, g_bool, g_str, g_sl, s_none, s_zero, s_succ, cl_nil, cl_str, cl_bool, cl_slc, cl_own, evFa, evNil, asEl, evBin, intBin, strBin, evUn, len_nil, len_slc, len_str, clr, List.length_nil, List.length_cons, List.getElem?_cons_zero, List.getElem?_cons_succ, Nat.reduceAdd, Nat.zero_add, Nat.add_zero, Nat.reduceLeDiff, Nat.reduceSub, ↓reduceIte, List.drop_succ_cons, List.drop_zero, List.take_succ_cons, List.take_zero, Bool.false_eq_true, List.nil_append, List.cons_append, Bool.not_true, Bool.not_false, cond_true, cond_false, bne, lv_ret, lv_normal, res1, res2, lv2_some, res_var, res_cell, lvf_v, lvf_slc, res1c, lvo1_some, e_mm, mm_max, mm_min, cl_agg, cl_int, g_agg, e_callv1, cv1_fn, e_slice2, e_clrrow, e_callf2, pick_und, cells_agg, Option.map_some, Option.map_none]
        · rw [hk] at hsb; exact sub_take hsb) (l.length - at0) at0 K v h (by omega) (by omega) ⟨hv, rfl, hsub⟩
  obtain ⟨at1, h1, h2, rfl, rfl, rfl⟩ := g3
  exact ⟨at1, h1, h2, g1⟩
theorem twice_out {l ks : List Int} (hs : Sl 1 x (intsV l)) (hr : Sl 1 r (intsV ks)) (hm : l.length ≤ maxLen) (hkm : ks.length ≤ maxLen) (hK : l.length < K) (hK2 : ks.length < K) (hsub : List.Sublist ks l) (h : List AO) (v : List AV) (hv : clr K4a v = V4a c x b r 0 0 ks.length .junk) :
    ∃ m : Nat, loopN (exec (callW F) K c4_16) K4a K v h = some (.exit 0, V4a c x b r m ks.length ks.length (.v (.bool false)), h) := by
  obtain ⟨e, v', h', g1, g2, g3⟩ := loop_rule0 (call := callW F) (K := K) (b := c4_16) (keep := K4a) (fun j v h' => ∃ m : Nat, v = V4a c x b r m j ks.length .junk ∧ h' = h ∧ List.Sublist (ks.drop j) (l.drop m))
    (fun e v h' => ∃ m : Nat, e = .exit 0 ∧ v = V4a c x b r m ks.length ks.length (.v (.bool false)) ∧ h' = h) ks.length (m := K) (v := v) (h := h) hK2 ⟨0, hv, rfl, by simpa using hsub⟩ (by
      rintro j v h' hj ⟨m, rfl, rfl, hsb⟩
      by_cases hjl : j < ks.length
      · have hlt := lt_t hjl
        have hd : ks.drop j = ks[j] :: ks.drop (j + 1) := List.drop_eq_getElem_cons hjl
        rw [hd] at hsb
        have a1 : (intsV ks)[j]? = some (.v (.int .i64 ks[j])) := by simp [intsV, hjl]
        have q1 := fun h : List AO => hr.ia a1 h
        have q3 : ∀ (h : List AO) (n : Int), evLoad h false 1 (.ip (AV.v (.int .i64 n)).cells) = some (.v (.int .i64 n)) := fun _ _ => rfl
        have hw := wrap_succ hjl hkm
        obtain ⟨at1, p1, p2, p3⟩ := twice_in (xs := []) (K := K) (c := c) (b := b) (r := r) hs hm hK hsb j ks.length h' [c, x, b, .junk, .ptr 0 0, .junk, .v (.bool true), r, .v (.int .i64 m), .v (.int .i64 ks[j]), .junk, r, .v (.int .i64 ks.length), .v (.int .i64 j), .v (.bool true), .junk, .junk] rfl
        have n1 := fun h : List AO => hs.len h
        simp only [intsV_len] at n1
        have hne : ((at1 : Int) == (l.length : Int)) = false := by simp; omega
        have hw1 := wrap_succ p1 hm
        refine ⟨.normal, [c, x, b, .junk, .ptr 0 0, .junk, .v (.bool true), r, .v (.int .i64 ((at1 + 1 : Nat) : Int)), .v (.int .i64 ks[j]), .junk, r, .v (.int .i64 ks.length), .v (.int .i64 ((j + 1 : Nat) : Int)), .junk, .v (.bool false), .v (.bool false)], h', ?_, hjl, at1 + 1, rfl, rfl, p2⟩
        rw [show c4_16 = (.seq (.region [] [] c4_7) (.seq (.cond (.var 14) .skip (.exit 0)) (.seq (.block 1 (.seq (.region [] [] c4_8) (.seq (.block 2 (.loop K4b [] c4_11)) (.seq (.seq (.region [] [] c4_12) (.cond (.var 16) (.seq (.region [] [] c4_13) .ret) .skip)) (.region [] [] c4_14))))) (.region [] [] c4_15)))) from rfl]
        generalize c4_11 = bb at p3 ⊢
        simp only [V4a, V4b, c4_7, c4_8, c4_12, c4_14, c4_15, hlt, q1, q3, n1, p3, hne, hw, hw1, run_nil, run_cons, stp_plain, stp_guard, put_some, pass_eq, pick_tt, pick_ff, pick_tf, pick_ft, pick_u, reg_some, thn_normal, thn_exit, thn_ret, cnd_t, cnd_f, blk_normal, blk_ret, blk_exit, x_seq, x_region, x_cond, x_block, x_loop, x_ret, x_exit, x_skip, e_mov, e_pick, pk_t, pk_f, withH_some, e_box, e_load, e_store, stH_some, e_nil, e_bin, e_eqv, eqH_f, eqH_t, e_un, e_fa, e_ia, ia_eq, nat_eq, natV_nat, e_len, lnH_some, e_extract, ex_0, ex_1, e_call0, e_call1, e_call2, e_call3, pc0_eq, pc1_some, pc2_some, pc3_some, fin_some, g_var0, g_vars, g_loc0, g_locs, g_int, g_bool, g_str, g_sl, s_none, s_zero, s_succ, cl_nil, cl_str, cl_bool, cl_slc, cl_own, evFa, evNil, asEl, evBin, intBin, strBin, evUn, len_nil, len_slc, len_str, clr, List.length_nil, List.length_cons, List.getElem?_cons_zero, List.getElem?_cons_succ, Nat.reduceAdd, Nat.zero_add, Nat.add_zero, Nat.reduceLeDiff, Nat.reduceSub, ↓reduceIte, List.drop_succ_cons, List.drop_zero, List.take_succ_cons, List.take_zero, Bool.false_eq_true, List.nil_append, List.cons_append, Bool.not_true, Bool.not_false, cond_true, cond_false, bne, lv_ret, lv_normal, res1, res2, lv2_some, res_var, res_cell, lvf_v, lvf_slc, res1c, lvo1_some, e_mm, mm_max, mm_min, cl_agg, cl_int, g_agg, e_callv1, cv1_fn, e_slice2, e_clrrow, e_callf2, pick_und, cells_agg, Option.map_some, Option.map_none]
      · have hje : j = ks.length := by omega
        subst hje
        have hlt := lt_f (n := ks.length)
        refine ⟨.exit 0, V4a c x b r m ks.length ks.length (.v (.bool false)), h', ?_, m, rfl, rfl, rfl⟩
        simp only [V4a, c4_16, c4_7, hlt, run_nil, run_cons, stp_plain, stp_guard, put_some, pass_eq, pick_tt, pick_ff, pick_tf, pick_ft, pick_u, reg_some, thn_normal, thn_exit, thn_ret, cnd_t, cnd_f, blk_normal, blk_ret, blk_exit, x_seq, x_region, x_cond, x_block, x_loop, x_ret, x_exit, x_skip, e_mov, e_pick, pk_t, pk_f, withH_some, e_box, e_load, e_store, stH_some, e_nil, e_bin, e_eqv, eqH_f, eqH_t, e_un, e_fa, e_ia, ia_eq, nat_eq, natV_nat, e_len, lnH_some, e_extract, ex_0, ex_1, e_call0, e_call1, e_call2, e_call3, pc0_eq, pc1_some, pc2_some, pc3_some, fin_some, g_var0, g_vars, g_loc0, g_locs, g_int, g_bool, g_str, g_sl, s_none, s_zero, s_succ, cl_nil, cl_str, cl_bool, cl_slc, cl_own, evFa, evNil, asEl, evBin, intBin, strBin, evUn, len_nil, len_slc, len_str, clr, List.length_nil, List.length_cons, List.getElem?_cons_zero, List.getElem?_cons_succ, Nat.reduceAdd, Nat.zero_add, Nat.add_zero, Nat.reduceLeDiff, Nat.reduceSub, ↓reduceIte, List.drop_succ_cons, List.drop_zero, List.take_succ_cons, List.take_zero, Bool.false_eq_true, List.nil_append, List.cons_append, Bool.not_true, Bool.not_false, cond_true, cond_false, bne, lv_ret, lv_normal, res1, res2, lv2_some, res_var, res_cell, lvf_v, lvf_slc, res1c, lvo1_some, e_mm, mm_max, mm_min, cl_agg, cl_int, g_agg, e_callv1, cv1_fn, e_slice2, e_clrrow, e_callf2, pick_und, cells_agg, Option.map_some, Option.map_none])
  obtain ⟨m, rfl, rfl, rfl⟩ := g3
  exact ⟨m, g1⟩
end
theorem twice_ok {c x b a : AV} {p : List Cl} {l : List Int} {bs : List (Int × Tm)} {g : Tm} (hp : IsS 6 IsCl c p) (hx : IsS 1 IsI x l) (hb : IsB b bs) (ha : IsT a g) : callW F 4 [c, x, b, a] [] = some (.v (.bool true), []) := by
  have hlive := live_ok
  have hbts : IsL (.slc 4 true true [a]) [g] := .slc _ _ _ _ (.one ha) (by simp [maxLen])
  obtain ⟨bg, hbg, hbl⟩ := big_ok hp hb hbts
  have sc : ∀ h : List AO, c.snap1 h = some c := by
    obtain ⟨es, hs, _, _⟩ := hp; exact fun h => hs.snap h
  have sx : ∀ h : List AO, x.snap1 h = some x := by
    obtain ⟨es, hs, _, _⟩ := hx; exact fun h => hs.snap h
  have sb : ∀ h : List AO, b.snap1 h = some b := by cases hb <;> exact fun _ => rfl
  have sa := fun h : List AO => ha.snap (h := h)
  have st : ∀ h : List AO, (AV.slc 4 true true [a]).snap1 h = some (.slc 4 true true [a]) := fun _ => rfl
  obtain ⟨xs, hxs, hxr, hxm⟩ := hx
  have hxe := ints_of hxr
  subst hxe
  have nx := fun h : List AO => hxs.len h
  simp only [intsV_len] at nx hxm
  have cla := ha.cl.1
  have ll : ∀ h, evLoad (.box a.cells :: h) true 4 (.ptr 0 0) = some a := fun h => by
    have := ha.ld [] ; cases ha; rfl
  have bsl : ∀ h : List AO, bs1 h 4 (some a) = some (.slc 4 true true [a], h) := fun h => bs1_some ha.cl.1 ha.cl.2
  have st4 : start c4 [c, x, b, a] = [c, x, b, a, .v undef, .v undef, .v undef, .v undef, .v undef, .v undef, .v undef, .v undef, .v undef, .v undef, .v undef, .v undef, .v undef] := rfl
  cases bg with
  | true =>
    refine callW_pure (c := c4) rfl rfl 0 ?_
    simp only [c4, start, List.replicate, c4_0, c4_1, c4_2, c4_3, hlive, hbg, cla, ll, bsl, sc, sb, sa, st, e_bslice1, run_nil, run_cons, stp_plain, stp_guard, put_some, pass_eq, pick_tt, pick_ff, pick_tf, pick_ft, pick_u, reg_some, thn_normal, thn_exit, thn_ret, cnd_t, cnd_f, blk_normal, blk_ret, blk_exit, x_seq, x_region, x_cond, x_block, x_loop, x_ret, x_exit, x_skip, e_mov, e_pick, pk_t, pk_f, withH_some, e_box, e_load, e_store, stH_some, e_nil, e_bin, e_eqv, eqH_f, eqH_t, e_un, e_fa, e_ia, ia_eq, nat_eq, natV_nat, e_len, lnH_some, e_extract, ex_0, ex_1, e_call0, e_call1, e_call2, e_call3, pc0_eq, pc1_some, pc2_some, pc3_some, fin_some, g_var0, g_vars, g_loc0, g_locs, g_int, g_bool, g_str, g_sl, s_none, s_zero, s_succ, cl_nil, cl_str, cl_bool, cl_slc, cl_own, evFa, evNil, asEl, evBin, intBin, strBin, evUn, len_nil, len_slc, len_str, clr, List.length_nil, List.length_cons, List.getElem?_cons_zero, List.getElem?_cons_succ, Nat.reduceAdd, Nat.zero_add, Nat.add_zero, Nat.reduceLeDiff, Nat.reduceSub, ↓reduceIte, List.drop_succ_cons, List.drop_zero, List.take_succ_cons, List.take_zero, Bool.false_eq_true, List.nil_append, List.cons_append, Bool.not_true, Bool.not_false, cond_true, cond_false, bne, lv_ret, lv_normal, res1, res2, lv2_some, res_var, res_cell, lvf_v, lvf_slc, res1c, lvo1_some, e_mm, mm_max, mm_min, cl_agg, cl_int, g_agg, e_callv1, cv1_fn, e_slice2, e_clrrow, e_callf2, pick_und, cells_agg, Option.map_some, Option.map_none, bx_some]
  | false =>
  cases h1 : decide ((l.length : Int) > 1000) with
  | true =>
    refine callW_pure (c := c4) rfl rfl 0 ?_
    simp only [c4, start, List.replicate, c4_0, c4_1, c4_2, c4_3, hlive, hbg, cla, ll, bsl, sc, sb, sa, st, nx, h1, e_bslice1, run_nil, run_cons, stp_plain, stp_guard, put_some, pass_eq, pick_tt, pick_ff, pick_tf, pick_ft, pick_u, reg_some, thn_normal, thn_exit, thn_ret, cnd_t, cnd_f, blk_normal, blk_ret, blk_exit, x_seq, x_region, x_cond, x_block, x_loop, x_ret, x_exit, x_skip, e_mov, e_pick, pk_t, pk_f, withH_some, e_box, e_load, e_store, stH_some, e_nil, e_bin, e_eqv, eqH_f, eqH_t, e_un, e_fa, e_ia, ia_eq, nat_eq, natV_nat, e_len, lnH_some, e_extract, ex_0, ex_1, e_call0, e_call1, e_call2, e_call3, pc0_eq, pc1_some, pc2_some, pc3_some, fin_some, g_var0, g_vars, g_loc0, g_locs, g_int, g_bool, g_str, g_sl, s_none, s_zero, s_succ, cl_nil, cl_str, cl_bool, cl_slc, cl_own, evFa, evNil, asEl, evBin, intBin, strBin, evUn, len_nil, len_slc, len_str, clr, List.length_nil, List.length_cons, List.getElem?_cons_zero, List.getElem?_cons_succ, Nat.reduceAdd, Nat.zero_add, Nat.add_zero, Nat.reduceLeDiff, Nat.reduceSub, ↓reduceIte, List.drop_succ_cons, List.drop_zero, List.take_succ_cons, List.take_zero, Bool.false_eq_true, List.nil_append, List.cons_append, Bool.not_true, Bool.not_false, cond_true, cond_false, bne, lv_ret, lv_normal, res1, res2, lv2_some, res_var, res_cell, lvf_v, lvf_slc, res1c, lvo1_some, e_mm, mm_max, mm_min, cl_agg, cl_int, g_agg, e_callv1, cv1_fn, e_slice2, e_clrrow, e_callf2, pick_und, cells_agg, Option.map_some, Option.map_none, bx_some]
  | false =>
  have hl : l.length ≤ 1000 := by simp at h1; omega
  obtain ⟨hpl, hbsl⟩ := hbl rfl
  have hx' : IsS 1 IsI x l := ⟨_, hxs, allR_ints l, by rw [intsV_len]; exact hxm⟩
  obtain ⟨r, hr, hk⟩ := keep_ok hp (by omega) hx' (by omega) hb (by omega) ha
  have hsub := keeps_sub p l bs.reverse g
  have hag := keeps_again p l bs.reverse g
  generalize keepsT p l bs.reverse g = ks at hr hsub hag
  have hksl := hsub.length_le
  obtain ⟨r2, hr2, hk2⟩ := keep_ok (l := ks) hp (by omega) hr (by omega) hb (by omega) ha
  rw [hag] at hr2
  have hsame := ints_same hr2 hr
  simp only [decide_true] at hsame
  obtain ⟨rs, hrs, hrr, hrm⟩ := hr
  have hre := ints_of hrr
  subst hre
  have nr := fun h : List AO => hrs.len h
  simp only [intsV_len] at nr hrm
  have sr := fun h : List AO => hrs.snap h
  have sr2 : ∀ h : List AO, r2.snap1 h = some r2 := by
    obtain ⟨es, hs, _, _⟩ := hr2; exact fun h => hs.snap h
  have rz : ∀ {y : AV} {l : List Int}, IsS 1 IsI y l → ∀ h, raise1 h y = h := by
    rintro y l ⟨es, hs, _, _⟩ h
    cases hs <;> rfl
  have rc : ∀ h, raise1 h c = h := by
    obtain ⟨es, hs, _, _⟩ := hp; intro h; cases hs <;> rfl
  have rb : ∀ h, raise1 h b = h := by intro h; cases hb <;> rfl
  have ra : ∀ h, raise1 h a = h := by
    intro h
    cases ha with
    | mk k s n c l hc => cases hc <;> rfl
  have cf1 : ∀ h : List AO, cf (callW F) 9 h [c, x, b, a] = some (r, h) := fun h =>
    cf_of (by simp only [List.foldl_cons, List.foldl_nil, rc, rz hx', rb, ra]) (by simp [sc, sx, sb, sa]) hk
  have hrIs : IsS 1 IsI r ks := ⟨_, hrs, allR_ints ks, by rw [intsV_len]; exact hrm⟩
  have cf2 : ∀ h : List AO, cf (callW F) 9 h [c, r, b, a] = some (r2, h) := fun h =>
    cf_of (by simp only [List.foldl_cons, List.foldl_nil, rc, rz hrIs, rb, ra]) (by simp [sc, sr, sb, sa]) hk2
  obtain ⟨m, hlp⟩ := twice_out (K := 2000) (c := c) (b := b) hxs hrs hxm hrm (by omega) (by omega) hsub [.box a.cells] [c, x, b, a, .ptr 0 0, .v (.bool false), .v (.bool true), r, .v (.int .i64 0), .v undef, .v (.bool false), r, .v (.int .i64 ks.length), .v (.int .i64 0), .v undef, .v undef, .v undef] rfl
  refine callW_pure (c := c4) rfl rfl 2000 ?_
  rw [show c4.body = (.seq (.region [] [] c4_0) (.seq (.region [] [] c4_1) (.seq (.seq (.region [] [] c4_2) (.cond (.var 10) (.seq (.region [] [] c4_3) .ret) .skip)) (.seq (.region [] [] c4_4) (.seq (.region [] [] c4_5) (.seq (.seq (.region [] [] c4_6) (.block 0 (.loop K4a [] c4_16))) (.seq (.region [] [] c4_17) .ret))))))) from rfl, st4, show c4.res = [.var 5] from rfl]
  generalize c4_16 = bb at hlp ⊢
  simp only [c4_0, c4_1, c4_2, c4_4, c4_5, c4_6, c4_17, V4a, hlive, hbg, cla, ll, bsl, sc, sb, sa, st, nx, h1, cf1, nr, hlp, cf2, sr, sr2, hsame, e_callf, e_bslice1, List.map_cons, List.map_nil, run_nil, run_cons, stp_plain, stp_guard, put_some, pass_eq, pick_tt, pick_ff, pick_tf, pick_ft, pick_u, reg_some, thn_normal, thn_exit, thn_ret, cnd_t, cnd_f, blk_normal, blk_ret, blk_exit, x_seq, x_region, x_cond, x_block, x_loop, x_ret, x_exit, x_skip, e_mov, e_pick, pk_t, pk_f, withH_some, e_box, e_load, e_store, stH_some, e_nil, e_bin, e_eqv, eqH_f, eqH_t, e_un, e_fa, e_ia, ia_eq, nat_eq, natV_nat, e_len, lnH_some, e_extract, ex_0, ex_1, e_call0, e_call1, e_call2, e_call3, pc0_eq, pc1_some, pc2_some, pc3_some, fin_some, g_var0, g_vars, g_loc0, g_locs, g_int, g_bool, g_str, g_sl, s_none, s_zero, s_succ, cl_nil, cl_str, cl_bool, cl_slc, cl_own, evFa, evNil, asEl, evBin, intBin, strBin, evUn, len_nil, len_slc, len_str, clr, List.length_nil, List.length_cons, List.getElem?_cons_zero, List.getElem?_cons_succ, Nat.reduceAdd, Nat.zero_add, Nat.add_zero, Nat.reduceLeDiff, Nat.reduceSub, ↓reduceIte, List.drop_succ_cons, List.drop_zero, List.take_succ_cons, List.take_zero, Bool.false_eq_true, List.nil_append, List.cons_append, Bool.not_true, Bool.not_false, cond_true, cond_false, bne, lv_ret, lv_normal, res1, res2, lv2_some, res_var, res_cell, lvf_v, lvf_slc, res1c, lvo1_some, e_mm, mm_max, mm_min, cl_agg, cl_int, g_agg, e_callv1, cv1_fn, e_slice2, e_clrrow, e_callf2, pick_und, cells_agg, Option.map_some, Option.map_none, bx_some]
end Go.AE.Ytchiacliefahdaa
end

/-! What comes in, out of its types. -/
section
set_option linter.unusedVariables false
namespace Go.AE.Ytchiacliefahdaa
open Go Go.AE Go.Proofs.Ytchiacliefahdaa
theorem tmTy : TmTy T 3 9 2 25 23 := ⟨⟨_, rfl, rfl⟩, ⟨_, rfl, rfl⟩, ⟨_, rfl, rfl⟩, ⟨_, _, _, _, _, rfl, rfl, rfl, rfl, rfl, rfl, rfl, rfl⟩, ⟨_, rfl, rfl⟩⟩
theorem cls_in {a : AV} (w : WT T 22 a.cells) (e : asEl ti22.agg a.cells = some a) : ∃ p, IsS 6 IsCl a p := by
  obtain ⟨c, l, h, hl⟩ := wt_cls tmTy (tC := 32) (tCs := 22) rfl rfl rfl rfl rfl rfl rfl rfl rfl w
  rw [one_cell e h]; exact ⟨l, hl⟩
theorem ints_in {a : AV} (w : WT T 28 a.cells) (e : asEl ti28.agg a.cells = some a) : ∃ p, IsS 1 IsI a p := by
  obtain ⟨c, l, h, hl⟩ := wt_ints (t := 28) (e := 3) rfl rfl rfl rfl rfl rfl w
  rw [one_cell e h]; exact ⟨l, hl⟩
theorem binds_in {a : AV} (w : WT T 35 a.cells) (e : asEl ti35.agg a.cells = some a) : ∃ p, IsB a p := by
  obtain ⟨c, l, h, hl⟩ := wt_binds tmTy (tB := 41) (tBs := 35) rfl rfl rfl rfl rfl rfl rfl rfl w
  rw [one_cell e h]; exact ⟨l, hl⟩
theorem term_in {a : AV} (w : WT T 25 a.cells) (e : asEl ti25.agg a.cells = some a) : ∃ p, IsT a p := by
  obtain ⟨x, hx⟩ := tmTy.term w
  rw [agg_cells e]; exact ⟨x, hx⟩
theorem int_in {a : AV} (w : WT T 2 a.cells) (e : asEl ti2.agg a.cells = some a) : ∃ n : Int, a = .v (.int .i64 n) ∧ (Lit.int .i64 n).wf = true := by
  obtain ⟨n, h, hn⟩ := wt_int_of (t := 2) (k := .i64) rfl rfl w
  exact ⟨n, one_cell e h, hn⟩
end Go.AE.Ytchiacliefahdaa
end

/-! What all rows of this program need. -/
section
set_option linter.unusedVariables false
namespace Go.Proofs.Ytchiacliefahdaa
open Go Go.AE Go.Proofs Go.ChangeShapes Go.WideShapes Go.ChangeAt Go.RowKit
open Go.ChangeMaps (open_string shut_string)

theorem own : ownKnob Try.prog.godebug = none := by kernel_rfl
theorem laidOut : laidOutB Try.prog = true := by kernel_rfl
theorem mixed : Try.prog.follows .mixedOrders = true := by kernel_rfl
def G : List TypeId := [2, 3, 9, 22, 23, 25, 28, 32, 35, 41]
theorem hG : goodB T G = true := by kernel_rfl

/-- What a call comes to that is handed what came in. -/
theorem law_calls {f : FuncId} {args : List AV} {vals : Array Value} {W : World} (hK : K W.heap.size W) (ha : ArgsRep (AllCells W) W [] args vals) {n : Nat} (he : callN F n f args [] = some (.v (.bool true), [])) :
    Calls Try.prog f vals W fun e W' => e = .returned (.bool true) ∧ Below W.heap.size W W' := by
  have hI : AE.Inv W.heap.size W (AllCells W) [] W [] := ⟨Below.refl _ _, Nat.le_refl _, rfl, fun id o L h => by simp at h, fun id L h => by simp at h, fun i j Li Lj h => by simp at h, fun b x h => h⟩
  refine ((callN_ok mixed hT hKs hF n W.heap.size W hK).calls f args [] _ _ he (AllCells W) [] W vals hI ha).mono fun e W' h => ?_
  obtain ⟨v, I', σ', rfl, hI', _, hr⟩ := h
  cases hr
  exact ⟨rfl, hI'.below⟩
end Go.Proofs.Ytchiacliefahdaa
end

/-! The row of IndexTwice, out of its plain law. -/
section
set_option linter.unusedVariables false
namespace Go.Proofs.Ytchiacliefahdaa
open Go Go.AE Go.Proofs Go.ChangeShapes Go.WideShapes Go.ChangeAt Go.RowKit
open Go.ChangeMaps (open_string shut_string)
namespace indexTwice
theorem args {I : Cells} {W : World} {a0 a1 a2 a3 : AV} {v0 v1 v2 v3 : Value} (r0 : Rep I W [] a0 v0) (r1 : Rep I W [] a1 v1) (r2 : Rep I W [] a2 v2) (r3 : Rep I W [] a3 v3) : ArgsRep I W [] [a0, a1, a2, a3] #[v0, v1, v2, v3] := by
  refine ⟨rfl, fun i a h => ?_⟩
  match i, h with
  | 0, h => cases h; exact r0
  | 1, h => cases h; exact r1
  | 2, h => cases h; exact r2
  | 3, h => cases h; exact r3
def Plain : Prop := ∀ a0 a1 a2 a3 : AV, WT T 22 a0.cells → asEl ti22.agg a0.cells = some a0 → WT T 28 a1.cells → asEl ti28.agg a1.cells = some a1 → WT T 35 a2.cells → asEl ti35.agg a2.cells = some a2 → WT T 25 a3.cells → asEl ti25.agg a3.cells = some a3 →
  ∃ n, callN F n 4 [a0, a1, a2, a3] [] = some (.v (.bool true), [])

set_option maxRecDepth 100000 in
theorem lifted (plain : Plain) (os : Os) (started : os.Started) (H : Type) (enc : TypeId × Value → H) :
    ReturnsInHanded {} Try.checked os 4 .any (Rows.indexTwiceSpec.pre6 enc Try.prog Try.f4 Rows.indexTwiceRow.domain false) (Rows.indexTwiceSpec.post enc Try.prog Try.f4 false true false false) := by
  refine returnsInHanded_of_change_sized (C := Try.checked) own started (by kernel_rfl) Try.func4
    (ChangeSpec.witness6 (enc := enc) (C := Try.checked) false ⟨#[], #[ti22.zero, ti28.zero, ti35.zero, ti25.zero], []⟩ 8 (by kernel_rfl) (by kernel_rfl) (by kernel_rfl) (by kernel_rfl)) ?_
  intro W base args' ds gs before hval0 hW hcnd hsz0 _
  have hval : ∀ (j : Nat) t v, Try.f4.params[j]? = some t → args'[j]? = some v → Value.okWide Try.prog W .any base t v := hval0
  have hW' := hW
  obtain ⟨p, q, hA0, hV, rfl, hfz, hnd⟩ := hW
  have hA : DataW.TrodAll enc Try.prog W 0 (fun _ => true) true Try.f4.params.toList args'.toList ds p := hA0
  rw [Try.params4] at hA hval
  obtain ⟨v0, vs0, d0, ds0, p0, q0, hargs, rfl, rfl, h0, r0⟩ := trodAll_cons hA
  obtain ⟨v1, vs1, d1, ds1, p1, q1, rfl, rfl, rfl, h1, r1⟩ := trodAll_cons r0
  obtain ⟨v2, vs2, d2, ds2, p2, q2, rfl, rfl, rfl, h2, r2⟩ := trodAll_cons r1
  obtain ⟨v3, vs3, d3, ds3, p3, q3, rfl, rfl, rfl, h3, r3⟩ := trodAll_cons r2
  obtain ⟨rfl, rfl, rfl⟩ := trodAll_nil r3
  obtain rfl : args' = #[v0, v1, v2, v3] := by cases args'; simp_all
  obtain ⟨rfl, rfl⟩ := trodVars_none hV
  obtain ⟨a0, w0, e0, x0⟩ := trod_arg hT hG (t := 22) (i := ti22) (by decide) rfl (hval 0 22 v0 rfl rfl) h0
  obtain ⟨a1, w1, e1, x1⟩ := trod_arg hT hG (t := 28) (i := ti28) (by decide) rfl (hval 1 28 v1 rfl rfl) h1
  obtain ⟨a2, w2, e2, x2⟩ := trod_arg hT hG (t := 35) (i := ti35) (by decide) rfl (hval 2 35 v2 rfl rfl) h2
  obtain ⟨a3, w3, e3, x3⟩ := trod_arg hT hG (t := 25) (i := ti25) (by decide) rfl (hval 3 25 v3 rfl rfl) h3
  have l0 : ∀ x ∈ p0, x.block < W.heap.size := by obtain ⟨m, hm⟩ := h0; exact DataW.trod_lt m _ _ _ hm
  have l1 : ∀ x ∈ p1, x.block < W.heap.size := by obtain ⟨m, hm⟩ := h1; exact DataW.trod_lt m _ _ _ hm
  have l2 : ∀ x ∈ p2, x.block < W.heap.size := by obtain ⟨m, hm⟩ := h2; exact DataW.trod_lt m _ _ _ hm
  have l3 : ∀ x ∈ p3, x.block < W.heap.size := by obtain ⟨m, hm⟩ := h3; exact DataW.trod_lt m _ _ _ hm
  obtain ⟨n, hn⟩ := plain a0 a1 a2 a3 w0 e0 w1 e1 w2 e2 w3 e3
  refine (law_calls trivial (args x0 x1 x2 x3) hn).mono fun e W' ⟨he, bel⟩ => ?_
  subst he
  exact ⟨_, rfl, _, _, _, [], _, [], hW', trodAll_mk1 (shut_bool Try.underlying4 _),
    (trodAll_cons_mk (Below.trod laidOut (by kernel_rfl) (of_decide_eq_true (by kernel_rfl)) h0 bel l0) (trodAll_cons_mk (Below.trod laidOut (by kernel_rfl) (of_decide_eq_true (by kernel_rfl)) h1 bel l1) (trodAll_cons_mk (Below.trod laidOut (by kernel_rfl) (of_decide_eq_true (by kernel_rfl)) h2 bel l2) (trodAll_cons_mk (Below.trod laidOut (by kernel_rfl) (of_decide_eq_true (by kernel_rfl)) h3 bel l3) trodAll_mk0)))), rfl, bel.frame _, fun h => by cases h⟩
theorem over (plain : Plain) : Rows.indexTwiceRow.holds Try.pinned (OpenSpec.ofChange Rows.indexTwiceSpec) :=
  OpenClaim.holds_of_wide 4 Try.f4 rfl rfl rfl rfl rfl rfl rfl ⟨rfl, rfl, rfl, rfl, rfl⟩ rfl rfl rfl rfl rfl (by kernel_rfl) Try.func4 (by kernel_rfl)
    (of_decide_eq_true (by kernel_rfl)) (by unfold Func.isWrapper; first | (rw [if_pos (by decide +kernel)]; kernel_rfl) | (rw [if_neg (by decide +kernel)]; exact ⟨rfl, rfl⟩))
    (fun os started H enc _ => lifted plain os started H enc)
theorem proved (plain : Plain) : Rows.IndexTwiceSaid := over plain
end indexTwice
end Go.Proofs.Ytchiacliefahdaa
end
