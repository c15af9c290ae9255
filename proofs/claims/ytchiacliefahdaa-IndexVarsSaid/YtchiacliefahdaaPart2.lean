/- Texts of this claim, put together. -/
import Derived.Test.YtchiacliefahdaaPart1
import Derived.Test.YtchiacliefahdaaEval3
import Derived.Test.YtchiacliefahdaaRows
import Derived.WalkKit
import Derived.ProofKit
import Derived.OpenShut
import Derived.ShutString
import Derived.ChangeOld
import Derived.Below
import Derived.SizedLaws
/-! The chapter's examples; whether two lists of numbers are the same; whether what came in is too great. -/
section
set_option linter.unusedVariables false
set_option linter.unusedSimpArgs false
namespace Go.AE.Ytchiacliefahdaa
open Go Go.AE Go.Proofs.Ytchiacliefahdaa
set_option maxRecDepth 1000000

theorem live_ok : callW F 5 [] [] = some (.v (.bool true), []) := callW_iff.2 ⟨60, by kernel_rfl⟩

def K10 : List Bool := [true, true, false, false, false, true, true, false, false]
theorem ints_same {x y : AV} {l l' : List Int} (hx : IsS 1 IsI x l) (hy : IsS 1 IsI y l') : callW F 10 [x, y] [] = some (.v (.bool (decide (l = l'))), []) := by
  obtain ⟨xs, hxs, hxr, hxm⟩ := hx
  obtain ⟨ys, hys, hyr, hym⟩ := hy
  have e1 := ints_of hxr
  have e2 := ints_of hyr
  subst e1; subst e2
  have n1 := fun h : List AO => hxs.len h
  have n2 := fun h : List AO => hys.len h
  simp only [intsV_len] at n1 n2
  rw [intsV_len] at hxm
  refine callW_pure (c := c10) rfl rfl (l.length + 1) ?_
  cases hl : ((l.length : Int) == (l'.length : Int)) with
  | false =>
    have hd : decide (l = l') = false := by
      simp only [beq_eq_false_iff_ne, ne_eq] at hl
      simp only [decide_eq_false_iff_not]
      rintro rfl; exact hl rfl
    rw [hd]
    simp only [c10, start, List.replicate, c10_0, c10_1, c10_2, n1, n2, hl, run_nil, run_cons, stp_plain, stp_guard, put_some, pass_eq, pick_tt, pick_ff, pick_tf, pick_ft, pick_u, reg_some, thn_normal, thn_exit, thn_ret, cnd_t, cnd_f, blk_normal, blk_ret, blk_exit, x_seq, x_region, x_cond, x_block, x_loop, x_ret, x_exit, x_skip, e_mov, e_pick, pk_t, pk_f, withH_some, e_box, e_load, e_store, stH_some, e_nil, e_bin, e_eqv, eqH_f, eqH_t, e_un, e_fa, e_ia, ia_eq, nat_eq, natV_nat, e_len, lnH_some, e_extract, ex_0, ex_1, e_call0, e_call1, e_call2, e_call3, pc0_eq, pc1_some, pc2_some, pc3_some, fin_some, g_var0, g_vars, g_loc0, g_locs, g_int, g_bool, g_str, g_sl, s_none, s_zero, s_succ, cl_nil, cl_str, cl_bool, cl_slc, cl_own, evFa, evNil, asEl, evBin, intBin, strBin, evUn, len_nil, len_slc, len_str, clr, List.length_nil, List.length_cons, List.getElem?_cons_zero, List.getElem?_cons_succ, Nat.reduceAdd, Nat.zero_add, Nat.add_zero, Nat.reduceLeDiff, Nat.reduceSub, ↓reduceIte, List.drop_succ_cons, List.drop_zero, List.take_succ_cons, List.take_zero, Bool.false_eq_true, List.nil_append, List.cons_append, Bool.not_true, Bool.not_false, cond_true, cond_false, bne, lv_ret, lv_normal, res1, res2, lv2_some, res_var, res_cell, lvf_v, lvf_slc, res1c, lvo1_some, e_mm, mm_max, mm_min, cl_agg, cl_int, g_agg, e_callv1, cv1_fn, e_slice2, e_clrrow, e_callf2, pick_und, cells_agg, Option.map_some, Option.map_none, bx_some]
  | true =>
    have hl' : l.length = l'.length := by simp only [beq_iff_eq] at hl; omega
    have st10 : start c10 [x, y] = [x, y, .v undef, .v undef, .v undef, .v undef, .v undef, .v undef, .v undef] := rfl
    have key := loop_rule0 (call := callW F) (K := l.length + 1) (b := c10_9) (keep := K10)
      (fun i v h => v = [x, y, .junk, .junk, .junk, .v (.int .i64 l.length), .v (.int .i64 i), .junk, .junk] ∧ h = [] ∧ l.take i = l'.take i)
      (fun e v h => h = [] ∧ v.length = 9 ∧ ((e = .exit 0 ∧ l = l') ∨ (e = .ret ∧ v[2]? = some (.v (.bool false)) ∧ l ≠ l'))) l.length (m := l.length + 1)
      (v := [x, y, .v (.bool false), .v undef, .v (.bool false), .v (.int .i64 l.length), .v (.int .i64 0), .v undef, .v undef]) (h := []) (by omega) ⟨rfl, rfl, rfl⟩ (by
        rintro i v h hi ⟨rfl, rfl, ht⟩
        by_cases hil : i < l.length
        · have a1 : (intsV l)[i]? = some (.v (.int .i64 l[i])) := by simp [intsV, hil]
          have a2 : (intsV l')[i]? = some (.v (.int .i64 l'[i])) := by simp [intsV, show i < l'.length by omega]
          have q1 := fun h : List AO => hxs.ia a1 h
          have q2 := fun h : List AO => hys.ia a2 h
          have q3 : ∀ (h : List AO) (n : Int), evLoad h false 1 (.ip (AV.v (.int .i64 n)).cells) = some (.v (.int .i64 n)) := fun _ _ => rfl
          have hlt := lt_t hil
          have hw := wrap_succ hil hxm
          cases hne : (l[i] == l'[i]) with
          | true =>
            refine ⟨.normal, [x, y, .junk, .v (.int .i64 i), .junk, .v (.int .i64 l.length), .v (.int .i64 ((i + 1 : Nat) : Int)), .v (.bool true), .v (.bool false)], [], ?_, hil, rfl, rfl, ?_⟩
            · simp only [c10_9, c10_4, c10_5, c10_6, c10_8, hlt, q1, q2, q3, hne, hw, run_nil, run_cons, stp_plain, stp_guard, put_some, pass_eq, pick_tt, pick_ff, pick_tf, pick_ft, pick_u, reg_some, thn_normal, thn_exit, thn_ret, cnd_t, cnd_f, blk_normal, blk_ret, blk_exit, x_seq, x_region, x_cond, x_block, x_loop, x_ret, x_exit, x_skip, e_mov, e_pick, pk_t, pk_f, withH_some, e_box, e_load, e_store, stH_some, e_nil, e_bin, e_eqv, eqH_f, eqH_t, e_un, e_fa, e_ia, ia_eq, nat_eq, natV_nat, e_len, lnH_some, e_extract, ex_0, ex_1, e_call0, e_call1, e_call2, e_call3, pc0_eq, pc1_some, pc2_some, pc3_some, fin_some, g_var0, g_vars, g_loc0, g_locs, g_int, g_bool, g_str, g_sl, s_none, s_zero, s_succ, cl_nil, cl_str, cl_bool, cl_slc, cl_own, evFa, evNil, asEl, evBin, intBin, strBin, evUn, len_nil, len_slc, len_str, clr, List.length_nil, List.length_cons, List.getElem?_cons_zero, List.getElem?_cons_succ, Nat.reduceAdd, Nat.zero_add, Nat.add_zero, Nat.reduceLeDiff, Nat.reduceSub, ↓reduceIte, List.drop_succ_cons, List.drop_zero, List.take_succ_cons, List.take_zero, Bool.false_eq_true, List.nil_append, List.cons_append, Bool.not_true, Bool.not_false, cond_true, cond_false, bne, lv_ret, lv_normal, res1, res2, lv2_some, res_var, res_cell, lvf_v, lvf_slc, res1c, lvo1_some, e_mm, mm_max, mm_min, cl_agg, cl_int, g_agg, e_callv1, cv1_fn, e_slice2, e_clrrow, e_callf2, pick_und, cells_agg, Option.map_some, Option.map_none, bx_some]
            · rw [List.take_add_one, List.take_add_one, ht, List.getElem?_eq_getElem hil, List.getElem?_eq_getElem (show i < l'.length by omega)]
              simp only [beq_iff_eq] at hne
              rw [hne]
          | false =>
            refine ⟨.ret, [x, y, .v (.bool false), .v (.int .i64 i), .junk, .v (.int .i64 l.length), .v (.int .i64 i), .v (.bool true), .v (.bool true)], [], ?_, rfl, rfl, .inr ⟨rfl, rfl, ?_⟩⟩
            · simp only [c10_9, c10_4, c10_5, c10_6, c10_7, hlt, q1, q2, q3, hne, run_nil, run_cons, stp_plain, stp_guard, put_some, pass_eq, pick_tt, pick_ff, pick_tf, pick_ft, pick_u, reg_some, thn_normal, thn_exit, thn_ret, cnd_t, cnd_f, blk_normal, blk_ret, blk_exit, x_seq, x_region, x_cond, x_block, x_loop, x_ret, x_exit, x_skip, e_mov, e_pick, pk_t, pk_f, withH_some, e_box, e_load, e_store, stH_some, e_nil, e_bin, e_eqv, eqH_f, eqH_t, e_un, e_fa, e_ia, ia_eq, nat_eq, natV_nat, e_len, lnH_some, e_extract, ex_0, ex_1, e_call0, e_call1, e_call2, e_call3, pc0_eq, pc1_some, pc2_some, pc3_some, fin_some, g_var0, g_vars, g_loc0, g_locs, g_int, g_bool, g_str, g_sl, s_none, s_zero, s_succ, cl_nil, cl_str, cl_bool, cl_slc, cl_own, evFa, evNil, asEl, evBin, intBin, strBin, evUn, len_nil, len_slc, len_str, clr, List.length_nil, List.length_cons, List.getElem?_cons_zero, List.getElem?_cons_succ, Nat.reduceAdd, Nat.zero_add, Nat.add_zero, Nat.reduceLeDiff, Nat.reduceSub, ↓reduceIte, List.drop_succ_cons, List.drop_zero, List.take_succ_cons, List.take_zero, Bool.false_eq_true, List.nil_append, List.cons_append, Bool.not_true, Bool.not_false, cond_true, cond_false, bne, lv_ret, lv_normal, res1, res2, lv2_some, res_var, res_cell, lvf_v, lvf_slc, res1c, lvo1_some, e_mm, mm_max, mm_min, cl_agg, cl_int, g_agg, e_callv1, cv1_fn, e_slice2, e_clrrow, e_callf2, pick_und, cells_agg, Option.map_some, Option.map_none, bx_some]
            · rintro rfl
              simp at hne
        · have hie : i = l.length := by omega
          subst hie
          have hlt := lt_f (n := l.length)
          refine ⟨.exit 0, [x, y, .junk, .junk, .junk, .v (.int .i64 l.length), .v (.int .i64 l.length), .v (.bool false), .junk], [], ?_, rfl, rfl, .inl ⟨rfl, ?_⟩⟩
          · simp only [c10_9, c10_4, hlt, run_nil, run_cons, stp_plain, stp_guard, put_some, pass_eq, pick_tt, pick_ff, pick_tf, pick_ft, pick_u, reg_some, thn_normal, thn_exit, thn_ret, cnd_t, cnd_f, blk_normal, blk_ret, blk_exit, x_seq, x_region, x_cond, x_block, x_loop, x_ret, x_exit, x_skip, e_mov, e_pick, pk_t, pk_f, withH_some, e_box, e_load, e_store, stH_some, e_nil, e_bin, e_eqv, eqH_f, eqH_t, e_un, e_fa, e_ia, ia_eq, nat_eq, natV_nat, e_len, lnH_some, e_extract, ex_0, ex_1, e_call0, e_call1, e_call2, e_call3, pc0_eq, pc1_some, pc2_some, pc3_some, fin_some, g_var0, g_vars, g_loc0, g_locs, g_int, g_bool, g_str, g_sl, s_none, s_zero, s_succ, cl_nil, cl_str, cl_bool, cl_slc, cl_own, evFa, evNil, asEl, evBin, intBin, strBin, evUn, len_nil, len_slc, len_str, clr, List.length_nil, List.length_cons, List.getElem?_cons_zero, List.getElem?_cons_succ, Nat.reduceAdd, Nat.zero_add, Nat.add_zero, Nat.reduceLeDiff, Nat.reduceSub, ↓reduceIte, List.drop_succ_cons, List.drop_zero, List.take_succ_cons, List.take_zero, Bool.false_eq_true, List.nil_append, List.cons_append, Bool.not_true, Bool.not_false, cond_true, cond_false, bne, lv_ret, lv_normal, res1, res2, lv2_some, res_var, res_cell, lvf_v, lvf_slc, res1c, lvo1_some, e_mm, mm_max, mm_min, cl_agg, cl_int, g_agg, e_callv1, cv1_fn, e_slice2, e_clrrow, e_callf2, pick_und, cells_agg, Option.map_some, Option.map_none, bx_some]
          · rw [List.take_of_length_le (Nat.le_refl _), List.take_of_length_le (by omega)] at ht
            exact ht)
    obtain ⟨e, v', h', g1, _, rfl, gl, g2⟩ := key
    rw [st10]
    have pre : exec (callW F) (l.length + 1) c10.body [x, y, .v undef, .v undef, .v undef, .v undef, .v undef, .v undef, .v undef] [] = thn (callW F) (l.length + 1) (.seq (.region [] [] c10_10) .ret) (blk 0 (loopN (exec (callW F) (l.length + 1) c10_9) K10 (l.length + 1) [x, y, .v (.bool false), .v undef, .v (.bool false), .v (.int .i64 l.length), .v (.int .i64 0), .v undef, .v undef] [])) := by
      rw [show c10.body = (.seq (.region [] [] c10_0) (.seq (.seq (.region [] [] c10_1) (.cond (.var 4) (.seq (.region [] [] c10_2) .ret) .skip)) (.seq (.seq (.region [] [] c10_3) (.block 0 (.loop K10 [] c10_9))) (.seq (.region [] [] c10_10) .ret)))) from rfl]
      generalize c10_9 = bb
      simp only [c10_0, c10_1, c10_3, n1, n2, hl, run_nil, run_cons, stp_plain, stp_guard, put_some, pass_eq, pick_tt, pick_ff, pick_tf, pick_ft, pick_u, reg_some, thn_normal, thn_exit, thn_ret, cnd_t, cnd_f, blk_normal, blk_ret, blk_exit, x_seq, x_region, x_cond, x_block, x_loop, x_ret, x_exit, x_skip, e_mov, e_pick, pk_t, pk_f, withH_some, e_box, e_load, e_store, stH_some, e_nil, e_bin, e_eqv, eqH_f, eqH_t, e_un, e_fa, e_ia, ia_eq, nat_eq, natV_nat, e_len, lnH_some, e_extract, ex_0, ex_1, e_call0, e_call1, e_call2, e_call3, pc0_eq, pc1_some, pc2_some, pc3_some, fin_some, g_var0, g_vars, g_loc0, g_locs, g_int, g_bool, g_str, g_sl, s_none, s_zero, s_succ, cl_nil, cl_str, cl_bool, cl_slc, cl_own, evFa, evNil, asEl, evBin, intBin, strBin, evUn, len_nil, len_slc, len_str, clr, List.length_nil, List.length_cons, List.getElem?_cons_zero, List.getElem?_cons_succ, Nat.reduceAdd, Nat.zero_add, Nat.add_zero, Nat.reduceLeDiff, Nat.reduceSub, ↓reduceIte, List.drop_succ_cons, List.drop_zero, List.take_succ_cons, List.take_zero, Bool.false_eq_true, List.nil_append, List.cons_append, Bool.not_true, Bool.not_false, cond_true, cond_false, bne, lv_ret, lv_normal, res1, res2, lv2_some, res_var, res_cell, lvf_v, lvf_slc, res1c, lvo1_some, e_mm, mm_max, mm_min, cl_agg, cl_int, g_agg, e_callv1, cv1_fn, e_slice2, e_clrrow, e_callf2, pick_und, cells_agg, Option.map_some, Option.map_none, bx_some]
    rw [pre, g1]
    match v', gl, g2 with
    | [x0, x1, x2, x3, x4, x5, x6, x7, x8], _, g2 =>
      rcases g2 with ⟨rfl, rfl⟩ | ⟨rfl, g2, hne⟩
      · simp only [c10, blk_exit, thn_normal, c10_10, decide_true, run_nil, run_cons, stp_plain, stp_guard, put_some, pass_eq, pick_tt, pick_ff, pick_tf, pick_ft, pick_u, reg_some, thn_normal, thn_exit, thn_ret, cnd_t, cnd_f, blk_normal, blk_ret, blk_exit, x_seq, x_region, x_cond, x_block, x_loop, x_ret, x_exit, x_skip, e_mov, e_pick, pk_t, pk_f, withH_some, e_box, e_load, e_store, stH_some, e_nil, e_bin, e_eqv, eqH_f, eqH_t, e_un, e_fa, e_ia, ia_eq, nat_eq, natV_nat, e_len, lnH_some, e_extract, ex_0, ex_1, e_call0, e_call1, e_call2, e_call3, pc0_eq, pc1_some, pc2_some, pc3_some, fin_some, g_var0, g_vars, g_loc0, g_locs, g_int, g_bool, g_str, g_sl, s_none, s_zero, s_succ, cl_nil, cl_str, cl_bool, cl_slc, cl_own, evFa, evNil, asEl, evBin, intBin, strBin, evUn, len_nil, len_slc, len_str, clr, List.length_nil, List.length_cons, List.getElem?_cons_zero, List.getElem?_cons_succ, Nat.reduceAdd, Nat.zero_add, Nat.add_zero, Nat.reduceLeDiff, Nat.reduceSub, ↓reduceIte, List.drop_succ_cons, List.drop_zero, List.take_succ_cons, List.take_zero, Bool.false_eq_true, List.nil_append, List.cons_append, Bool.not_true, Bool.not_false, cond_true, cond_false, bne, lv_ret, lv_normal, res1, res2, lv2_some, res_var, res_cell, lvf_v, lvf_slc, res1c, lvo1_some, e_mm, mm_max, mm_min, cl_agg, cl_int, g_agg, e_callv1, cv1_fn, e_slice2, e_clrrow, e_callf2, pick_und, cells_agg, Option.map_some, Option.map_none, bx_some]
      · cases g2
        have : decide (l = l') = false := by simpa using hne
        rw [this]
        simp only [c10, blk_ret, thn_ret, run_nil, run_cons, stp_plain, stp_guard, put_some, pass_eq, pick_tt, pick_ff, pick_tf, pick_ft, pick_u, reg_some, thn_normal, thn_exit, thn_ret, cnd_t, cnd_f, blk_normal, blk_ret, blk_exit, x_seq, x_region, x_cond, x_block, x_loop, x_ret, x_exit, x_skip, e_mov, e_pick, pk_t, pk_f, withH_some, e_box, e_load, e_store, stH_some, e_nil, e_bin, e_eqv, eqH_f, eqH_t, e_un, e_fa, e_ia, ia_eq, nat_eq, natV_nat, e_len, lnH_some, e_extract, ex_0, ex_1, e_call0, e_call1, e_call2, e_call3, pc0_eq, pc1_some, pc2_some, pc3_some, fin_some, g_var0, g_vars, g_loc0, g_locs, g_int, g_bool, g_str, g_sl, s_none, s_zero, s_succ, cl_nil, cl_str, cl_bool, cl_slc, cl_own, evFa, evNil, asEl, evBin, intBin, strBin, evUn, len_nil, len_slc, len_str, clr, List.length_nil, List.length_cons, List.getElem?_cons_zero, List.getElem?_cons_succ, Nat.reduceAdd, Nat.zero_add, Nat.add_zero, Nat.reduceLeDiff, Nat.reduceSub, ↓reduceIte, List.drop_succ_cons, List.drop_zero, List.take_succ_cons, List.take_zero, Bool.false_eq_true, List.nil_append, List.cons_append, Bool.not_true, Bool.not_false, cond_true, cond_false, bne, lv_ret, lv_normal, res1, res2, lv2_some, res_var, res_cell, lvf_v, lvf_slc, res1c, lvo1_some, e_mm, mm_max, mm_min, cl_agg, cl_int, g_agg, e_callv1, cv1_fn, e_slice2, e_clrrow, e_callf2, pick_und, cells_agg, Option.map_some, Option.map_none, bx_some]

/-! ### big -/
def K6a : List Bool := [false, true, true, false, false, false, false, false, false, true, true, true, false, false, false, false, false, false, false, false, false, false, false, false, false, false, false, false, false]
def K6b : List Bool := [false, true, true, false, false, false, false, false, false, true, true, true, false, false, true, true, true, false, false, false, false, false, false, false, false, false, false, false, false]
def K6c : List Bool := [false, false, true, false, false, false, false, false, false, false, false, false, false, false, false, false, false, false, false, true, true, true, false, false, false, false, false, false, false]
def K6d : List Bool := [false, false, false, false, false, false, false, false, false, false, false, false, false, false, false, false, false, false, false, false, false, false, false, false, true, true, true, false, false]
def V6a (b ts c : AV) (n i : Int) (q : AV) : List AV := [.junk, b, ts, .junk, .junk, .junk, .junk, .junk, .junk, c, .v (.int .i64 n), .v (.int .i64 i), q, .junk, .junk, .junk, .junk, .junk, .junk, .junk, .junk, .junk, .junk, .junk, .junk, .junk, .junk, .junk, .junk]
def V6b (b ts c d : AV) (n i m j : Int) (q : AV) : List AV := [.junk, b, ts, .junk, .junk, .junk, .junk, .junk, .junk, c, .v (.int .i64 n), .v (.int .i64 i), .junk, .junk, d, .v (.int .i64 m), .v (.int .i64 j), q, .junk, .junk, .junk, .junk, .junk, .junk, .junk, .junk, .junk, .junk, .junk]
def V6c (ts b : AV) (n i : Int) (q : AV) : List AV := [.junk, .junk, ts, .junk, .junk, .junk, .junk, .junk, .junk, .junk, .junk, .junk, .junk, .junk, .junk, .junk, .junk, .junk, .junk, b, .v (.int .i64 n), .v (.int .i64 i), q, .junk, .junk, .junk, .junk, .junk, .junk]
def V6d (ts : AV) (n i : Int) (q : AV) : List AV := [.junk, .junk, .junk, .junk, .junk, .junk, .junk, .junk, .junk, .junk, .junk, .junk, .junk, .junk, .junk, .junk, .junk, .junk, .junk, .junk, .junk, .junk, .junk, .junk, ts, .v (.int .i64 n), .v (.int .i64 i), q, .junk]
def Yes6 (v : List AV) : Prop := v[3]? = some (.v (.bool true))
theorem z6 : (ofVal (.agg #[.int .i64 0, .string ⟨#[]⟩, .int .i64 0, .slice none 0 0, .slice none 0 0, .int .i64 0])).cl = some [.v (.int .i64 0), .v (.string ⟨#[]⟩), .v (.int .i64 0), .v (.slice none 0 0), .v (.slice none 0 0), .v (.int .i64 0)] := by kernel_rfl
theorem z5 : (ofVal (.agg #[.int .i64 0, .int .i64 0, .string ⟨#[]⟩, .int .i64 0, .slice none 0 0])).cl = some [.v (.int .i64 0), .v (.int .i64 0), .v (.string ⟨#[]⟩), .v (.int .i64 0), .v (.slice none 0 0)] := by kernel_rfl
theorem snapi (h : List AO) (x : Int) : (AV.v (.int .i64 x)).snap1 h = some (.v (.int .i64 x)) := rfl
theorem bx_l (h : List AO) (cs : List AV) : bx h (some cs) = some (.ptr h.length 0, h ++ [.box cs]) := rfl
section
variable {K : Nat} {b ts c d : AV}
theorem big_in {bl : List Tm} (hd : IsL d bl) (hK : bl.length < K) (n i : Int) (h : List AO) (v : List AV) (hv : clr K6b v = V6b b ts c d n i bl.length 0 .junk) :
    ∃ e v' h', loopN (exec (callW F) K c6_14) K6b K v h = some (e, v', h') ∧ ((e = .exit 2 ∧ v' = V6b b ts c d n i bl.length bl.length (.v (.bool false))) ∨ (e = .ret ∧ Yes6 v')) := by
  obtain ⟨es, hs, hes, hm⟩ := hd.sl
  have hlen := hes.length
  obtain ⟨e, v', h', g1, g2, g3⟩ := loop_rule0 (call := callW F) (K := K) (b := c6_14) (keep := K6b) (fun j v h => v = V6b b ts c d n i bl.length j .junk)
    (fun e v h => (e = .exit 2 ∧ v = V6b b ts c d n i bl.length bl.length (.v (.bool false))) ∨ (e = .ret ∧ Yes6 v)) bl.length (m := K) (v := v) (h := h) hK hv (by
      rintro j v h hj rfl
      by_cases hjl : j < bl.length
      · have hjl' : j < es.length := by omega
        have he : es[j]? = some es[j] := List.getElem?_eq_getElem hjl'
        obtain ⟨t, ht, hT⟩ := hes.get he
        have q1 := fun h : List AO => hs.ia he h
        have q2 := hT.elm.ld
        have q3 := fun h : List AO => hT.elm.st h (z := [.v (.int .i64 0), .v (.string ⟨#[]⟩), .v (.int .i64 0), .v (.slice none 0 0)]) rfl
        have q4 := hT.elm.ldn
        have sn := fun h : List AO => hT.snap (h := h)
        have hf := few_ok t _ 200 hT
        have hlt := lt_t hjl
        have hw := wrap_succ hjl (by omega)
        cases hq : decide (fewT t 200 ≥ 0) with
        | true =>
          rw [hq] at hf
          refine ⟨.normal, [.junk, b, ts, .junk, .junk, .ptr h.length 0, .junk, .junk, .junk, c, .v (.int .i64 n), .v (.int .i64 i), .junk, .junk, d, .v (.int .i64 bl.length), .v (.int .i64 ((j + 1 : Nat) : Int)), .v (.bool true), .v (.bool false), .junk, .junk, .junk, .junk, .junk, .junk, .junk, .junk, .junk, .junk], h ++ [.box (es[j]).cells], ?_, hjl, rfl⟩
          simp only [V6b, c6_14, c6_9, c6_10, c6_11, c6_13, hlt, q1, q2, q3, q4, sn, hf, hw, q9z, bx_l, snapi, run_nil, run_cons, stp_plain, stp_guard, put_some, pass_eq, pick_tt, pick_ff, pick_tf, pick_ft, pick_u, reg_some, thn_normal, thn_exit, thn_ret, cnd_t, cnd_f, blk_normal, blk_ret, blk_exit, x_seq, x_region, x_cond, x_block, x_loop, x_ret, x_exit, x_skip, e_mov, e_pick, pk_t, pk_f, withH_some, e_box, e_load, e_store, stH_some, e_nil, e_bin, e_eqv, eqH_f, eqH_t, e_un, e_fa, e_ia, ia_eq, nat_eq, natV_nat, e_len, lnH_some, e_extract, ex_0, ex_1, e_call0, e_call1, e_call2, e_call3, pc0_eq, pc1_some, pc2_some, pc3_some, fin_some, g_var0, g_vars, g_loc0, g_locs, g_int, g_bool, g_str, g_sl, s_none, s_zero, s_succ, cl_nil, cl_str, cl_bool, cl_slc, cl_own, evFa, evNil, asEl, evBin, intBin, strBin, evUn, len_nil, len_slc, len_str, clr, List.length_nil, List.length_cons, List.getElem?_cons_zero, List.getElem?_cons_succ, Nat.reduceAdd, Nat.zero_add, Nat.add_zero, Nat.reduceLeDiff, Nat.reduceSub, ↓reduceIte, List.drop_succ_cons, List.drop_zero, List.take_succ_cons, List.take_zero, Bool.false_eq_true, List.nil_append, List.cons_append, Bool.not_true, Bool.not_false, cond_true, cond_false, bne, lv_ret, lv_normal, res1, res2, lv2_some, res_var, res_cell, lvf_v, lvf_slc, res1c, lvo1_some, e_mm, mm_max, mm_min, cl_agg, cl_int, g_agg, e_callv1, cv1_fn, e_slice2, e_clrrow, e_callf2, pick_und, cells_agg, Option.map_some, Option.map_none]
        | false =>
          rw [hq] at hf
          refine ⟨.ret, [.junk, b, ts, .v (.bool true), .junk, .ptr h.length 0, .junk, .junk, .junk, c, .v (.int .i64 n), .v (.int .i64 i), .junk, .junk, d, .v (.int .i64 bl.length), .v (.int .i64 j), .v (.bool true), .v (.bool true), .junk, .junk, .junk, .junk, .junk, .junk, .junk, .junk, .junk, .junk], h ++ [.box (es[j]).cells], ?_, .inr ⟨rfl, rfl⟩⟩
          simp only [V6b, c6_14, c6_9, c6_10, c6_11, c6_12, hlt, q1, q2, q3, q4, sn, hf, q9z, bx_l, snapi, run_nil, run_cons, stp_plain, stp_guard, put_some, pass_eq, pick_tt, pick_ff, pick_tf, pick_ft, pick_u, reg_some, thn_normal, thn_exit, thn_ret, cnd_t, cnd_f, blk_normal, blk_ret, blk_exit, x_seq, x_region, x_cond, x_block, x_loop, x_ret, x_exit, x_skip, e_mov, e_pick, pk_t, pk_f, withH_some, e_box, e_load, e_store, stH_some, e_nil, e_bin, e_eqv, eqH_f, eqH_t, e_un, e_fa, e_ia, ia_eq, nat_eq, natV_nat, e_len, lnH_some, e_extract, ex_0, ex_1, e_call0, e_call1, e_call2, e_call3, pc0_eq, pc1_some, pc2_some, pc3_some, fin_some, g_var0, g_vars, g_loc0, g_locs, g_int, g_bool, g_str, g_sl, s_none, s_zero, s_succ, cl_nil, cl_str, cl_bool, cl_slc, cl_own, evFa, evNil, asEl, evBin, intBin, strBin, evUn, len_nil, len_slc, len_str, clr, List.length_nil, List.length_cons, List.getElem?_cons_zero, List.getElem?_cons_succ, Nat.reduceAdd, Nat.zero_add, Nat.add_zero, Nat.reduceLeDiff, Nat.reduceSub, ↓reduceIte, List.drop_succ_cons, List.drop_zero, List.take_succ_cons, List.take_zero, Bool.false_eq_true, List.nil_append, List.cons_append, Bool.not_true, Bool.not_false, cond_true, cond_false, bne, lv_ret, lv_normal, res1, res2, lv2_some, res_var, res_cell, lvf_v, lvf_slc, res1c, lvo1_some, e_mm, mm_max, mm_min, cl_agg, cl_int, g_agg, e_callv1, cv1_fn, e_slice2, e_clrrow, e_callf2, pick_und, cells_agg, Option.map_some, Option.map_none]
      · have hje : j = bl.length := by omega
        subst hje
        have hlt := lt_f (n := bl.length)
        refine ⟨.exit 2, V6b b ts c d n i bl.length bl.length (.v (.bool false)), h, ?_, .inl ⟨rfl, rfl⟩⟩
        simp only [V6b, c6_14, c6_9, hlt, run_nil, run_cons, stp_plain, stp_guard, put_some, pass_eq, pick_tt, pick_ff, pick_tf, pick_ft, pick_u, reg_some, thn_normal, thn_exit, thn_ret, cnd_t, cnd_f, blk_normal, blk_ret, blk_exit, x_seq, x_region, x_cond, x_block, x_loop, x_ret, x_exit, x_skip, e_mov, e_pick, pk_t, pk_f, withH_some, e_box, e_load, e_store, stH_some, e_nil, e_bin, e_eqv, eqH_f, eqH_t, e_un, e_fa, e_ia, ia_eq, nat_eq, natV_nat, e_len, lnH_some, e_extract, ex_0, ex_1, e_call0, e_call1, e_call2, e_call3, pc0_eq, pc1_some, pc2_some, pc3_some, fin_some, g_var0, g_vars, g_loc0, g_locs, g_int, g_bool, g_str, g_sl, s_none, s_zero, s_succ, cl_nil, cl_str, cl_bool, cl_slc, cl_own, evFa, evNil, asEl, evBin, intBin, strBin, evUn, len_nil, len_slc, len_str, clr, List.length_nil, List.length_cons, List.getElem?_cons_zero, List.getElem?_cons_succ, Nat.reduceAdd, Nat.zero_add, Nat.add_zero, Nat.reduceLeDiff, Nat.reduceSub, ↓reduceIte, List.drop_succ_cons, List.drop_zero, List.take_succ_cons, List.take_zero, Bool.false_eq_true, List.nil_append, List.cons_append, Bool.not_true, Bool.not_false, cond_true, cond_false, bne, lv_ret, lv_normal, res1, res2, lv2_some, res_var, res_cell, lvf_v, lvf_slc, res1c, lvo1_some, e_mm, mm_max, mm_min, cl_agg, cl_int, g_agg, e_callv1, cv1_fn, e_slice2, e_clrrow, e_callf2, pick_und, cells_agg, Option.map_some, Option.map_none])
  exact ⟨e, v', h', g1, g3⟩
theorem big_step {x : Cl} {n i : Int} {e : AV} (he : ∀ h : List AO, iaV h 6 c (some i.toNat) = some (.ip e.cells)) (hi : 0 ≤ i) (hlt : decide (i < n) = true) (hw : IntKind.i64.wrap (i + 1) = i + 1) (hx : IsCl e x) (hK : 60 < K) (h : List AO) :
    ∃ k v' h', exec (callW F) K c6_16 (V6a b ts c n i .junk) h = some (k, v', h') ∧ ((k = .normal ∧ clr K6a v' = V6a b ts c n (i + 1) .junk) ∨ (k = .ret ∧ Yes6 v')) := by
  obtain ⟨j, rfl⟩ := Int.eq_ofNat_of_zero_le hi
  simp only [Int.toNat_natCast] at he
  have hxe := hx.elm
  cases hx with
  | mk k1 s1 n1 c1 l1 hc1 b1 bl hb1 vs =>
    have hT : IsT (.agg [.v (.int .i64 k1), .v (.string s1), .v (.int .i64 n1), c1]) (.mk k1 s1 n1 l1) := .mk _ _ _ _ _ hc1
    have q2 := hxe.ld
    have q3 := fun h : List AO => hxe.st h (z := [.v (.int .i64 0), .v (.string ⟨#[]⟩), .v (.int .i64 0), .v (.slice none 0 0), .v (.slice none 0 0), .v (.int .i64 0)]) rfl
    have sn := fun h : List AO => hT.snap (h := h)
    have hf := few_ok (.mk k1 s1 n1 l1) _ 200 hT
    simp only [cells_agg] at q2 q3 he
    have q4 : ∀ h : List AO, evLoad (h ++ [.box [.v (.int .i64 k1), .v (.string s1), .v (.int .i64 n1), c1, b1, .v (.int .i64 vs)]]) true 4 (.ptr h.length 0) = some (.agg [.v (.int .i64 k1), .v (.string s1), .v (.int .i64 n1), c1]) := fun h => by rw [ld_new]; rfl
    have q5 : ∀ h : List AO, evLoad (h ++ [.box [.v (.int .i64 k1), .v (.string s1), .v (.int .i64 n1), c1, b1, .v (.int .i64 vs)]]) false 1 (.ptr h.length 4) = some b1 := fun h => by rw [ld_new]; rfl
    have bn := hb1.len
    cases hq : decide (fewT (.mk k1 s1 n1 l1) 200 ≥ 0) with
    | false =>
      rw [hq] at hf
      refine ⟨.ret, [.junk, b, ts, .v (.bool true), .ptr h.length 0, .junk, .junk, .junk, .junk, c, .v (.int .i64 n), .v (.int .i64 j), .v (.bool true), .v (.bool true), .junk, .junk, .junk, .junk, .junk, .junk, .junk, .junk, .junk, .junk, .junk, .junk, .junk, .junk, .junk], h ++ [.box [.v (.int .i64 k1), .v (.string s1), .v (.int .i64 n1), c1, b1, .v (.int .i64 vs)]], ?_, .inr ⟨rfl, rfl⟩⟩
      simp only [V6a, c6_16, c6_4, c6_5, c6_6, c6_7, hlt, he, q2, q3, q4, sn, hf, z6, bx_l, snapi, run_nil, run_cons, stp_plain, stp_guard, put_some, pass_eq, pick_tt, pick_ff, pick_tf, pick_ft, pick_u, reg_some, thn_normal, thn_exit, thn_ret, cnd_t, cnd_f, blk_normal, blk_ret, blk_exit, x_seq, x_region, x_cond, x_block, x_loop, x_ret, x_exit, x_skip, e_mov, e_pick, pk_t, pk_f, withH_some, e_box, e_load, e_store, stH_some, e_nil, e_bin, e_eqv, eqH_f, eqH_t, e_un, e_fa, e_ia, ia_eq, nat_eq, natV_nat, e_len, lnH_some, e_extract, ex_0, ex_1, e_call0, e_call1, e_call2, e_call3, pc0_eq, pc1_some, pc2_some, pc3_some, fin_some, g_var0, g_vars, g_loc0, g_locs, g_int, g_bool, g_str, g_sl, s_none, s_zero, s_succ, cl_nil, cl_str, cl_bool, cl_slc, cl_own, evFa, evNil, asEl, evBin, intBin, strBin, evUn, len_nil, len_slc, len_str, clr, List.length_nil, List.length_cons, List.getElem?_cons_zero, List.getElem?_cons_succ, Nat.reduceAdd, Nat.zero_add, Nat.add_zero, Nat.reduceLeDiff, Nat.reduceSub, ↓reduceIte, List.drop_succ_cons, List.drop_zero, List.take_succ_cons, List.take_zero, Bool.false_eq_true, List.nil_append, List.cons_append, Bool.not_true, Bool.not_false, cond_true, cond_false, bne, lv_ret, lv_normal, res1, res2, lv2_some, res_var, res_cell, lvf_v, lvf_slc, res1c, lvo1_some, e_mm, mm_max, mm_min, cl_agg, cl_int, g_agg, e_callv1, cv1_fn, e_slice2, e_clrrow, e_callf2, pick_und, cells_agg, Option.map_some, Option.map_none]
    | true =>
      rw [hq] at hf
      cases hl : decide ((bl.length : Int) > 60) with
      | true =>
        refine ⟨.ret, [.junk, b, ts, .v (.bool true), .ptr h.length 0, .junk, .junk, .junk, .junk, c, .v (.int .i64 n), .v (.int .i64 j), .v (.bool true), .v (.bool true), .junk, .junk, .junk, .junk, .junk, .junk, .junk, .junk, .junk, .junk, .junk, .junk, .junk, .junk, .junk], h ++ [.box [.v (.int .i64 k1), .v (.string s1), .v (.int .i64 n1), c1, b1, .v (.int .i64 vs)]], ?_, .inr ⟨rfl, rfl⟩⟩
        simp only [V6a, c6_16, c6_4, c6_5, c6_6, c6_7, hlt, he, q2, q3, q4, q5, bn, hl, sn, hf, z6, bx_l, snapi, run_nil, run_cons, stp_plain, stp_guard, put_some, pass_eq, pick_tt, pick_ff, pick_tf, pick_ft, pick_u, reg_some, thn_normal, thn_exit, thn_ret, cnd_t, cnd_f, blk_normal, blk_ret, blk_exit, x_seq, x_region, x_cond, x_block, x_loop, x_ret, x_exit, x_skip, e_mov, e_pick, pk_t, pk_f, withH_some, e_box, e_load, e_store, stH_some, e_nil, e_bin, e_eqv, eqH_f, eqH_t, e_un, e_fa, e_ia, ia_eq, nat_eq, natV_nat, e_len, lnH_some, e_extract, ex_0, ex_1, e_call0, e_call1, e_call2, e_call3, pc0_eq, pc1_some, pc2_some, pc3_some, fin_some, g_var0, g_vars, g_loc0, g_locs, g_int, g_bool, g_str, g_sl, s_none, s_zero, s_succ, cl_nil, cl_str, cl_bool, cl_slc, cl_own, evFa, evNil, asEl, evBin, intBin, strBin, evUn, len_nil, len_slc, len_str, clr, List.length_nil, List.length_cons, List.getElem?_cons_zero, List.getElem?_cons_succ, Nat.reduceAdd, Nat.zero_add, Nat.add_zero, Nat.reduceLeDiff, Nat.reduceSub, ↓reduceIte, List.drop_succ_cons, List.drop_zero, List.take_succ_cons, List.take_zero, Bool.false_eq_true, List.nil_append, List.cons_append, Bool.not_true, Bool.not_false, cond_true, cond_false, bne, lv_ret, lv_normal, res1, res2, lv2_some, res_var, res_cell, lvf_v, lvf_slc, res1c, lvo1_some, e_mm, mm_max, mm_min, cl_agg, cl_int, g_agg, e_callv1, cv1_fn, e_slice2, e_clrrow, e_callf2, pick_und, cells_agg, Option.map_some, Option.map_none]
      | false =>
        have hl60 : bl.length ≤ 60 := by simp at hl; omega
        have pre : exec (callW F) K c6_16 (V6a b ts c n j .junk) h = thn (callW F) K (.region [] [] c6_15) (blk 1 (blk 2 (loopN (exec (callW F) K c6_14) K6b K [.junk, b, ts, .junk, .ptr h.length 0, .junk, .junk, .junk, .junk, c, .v (.int .i64 n), .v (.int .i64 j), .v (.bool true), .v (.bool false), b1, .v (.int .i64 bl.length), .v (.int .i64 0), .junk, .junk, .junk, .junk, .junk, .junk, .junk, .junk, .junk, .junk, .junk, .junk] (h ++ [.box [.v (.int .i64 k1), .v (.string s1), .v (.int .i64 n1), c1, b1, .v (.int .i64 vs)]])))) := by
          rw [show c6_16 = (.seq (.region [] [] c6_4) (.seq (.cond (.var 12) .skip (.exit 0)) (.seq (.block 1 (.seq (.region [] [] c6_5) (.seq (.seq (.region [] [] c6_6) (.cond (.var 13) (.seq (.region [] [] c6_7) .ret) .skip)) (.seq (.region [] [] c6_8) (.block 2 (.loop K6b [] c6_14)))))) (.region [] [] c6_15)))) from rfl]
          generalize c6_14 = bb
          simp only [V6a, c6_4, c6_5, c6_6, c6_7, c6_8, hlt, he, q2, q3, q4, q5, bn, hl, sn, hf, z6, bx_l, snapi, run_nil, run_cons, stp_plain, stp_guard, put_some, pass_eq, pick_tt, pick_ff, pick_tf, pick_ft, pick_u, reg_some, thn_normal, thn_exit, thn_ret, cnd_t, cnd_f, blk_normal, blk_ret, blk_exit, x_seq, x_region, x_cond, x_block, x_loop, x_ret, x_exit, x_skip, e_mov, e_pick, pk_t, pk_f, withH_some, e_box, e_load, e_store, stH_some, e_nil, e_bin, e_eqv, eqH_f, eqH_t, e_un, e_fa, e_ia, ia_eq, nat_eq, natV_nat, e_len, lnH_some, e_extract, ex_0, ex_1, e_call0, e_call1, e_call2, e_call3, pc0_eq, pc1_some, pc2_some, pc3_some, fin_some, g_var0, g_vars, g_loc0, g_locs, g_int, g_bool, g_str, g_sl, s_none, s_zero, s_succ, cl_nil, cl_str, cl_bool, cl_slc, cl_own, evFa, evNil, asEl, evBin, intBin, strBin, evUn, len_nil, len_slc, len_str, clr, List.length_nil, List.length_cons, List.getElem?_cons_zero, List.getElem?_cons_succ, Nat.reduceAdd, Nat.zero_add, Nat.add_zero, Nat.reduceLeDiff, Nat.reduceSub, ↓reduceIte, List.drop_succ_cons, List.drop_zero, List.take_succ_cons, List.take_zero, Bool.false_eq_true, List.nil_append, List.cons_append, Bool.not_true, Bool.not_false, cond_true, cond_false, bne, lv_ret, lv_normal, res1, res2, lv2_some, res_var, res_cell, lvf_v, lvf_slc, res1c, lvo1_some, e_mm, mm_max, mm_min, cl_agg, cl_int, g_agg, e_callv1, cv1_fn, e_slice2, e_clrrow, e_callf2, pick_und, cells_agg, Option.map_some, Option.map_none]
        obtain ⟨k, v', h', g1, g2⟩ := big_in (K := K) (b := b) (ts := ts) (c := c) hb1 (by omega) n j (h ++ [.box [.v (.int .i64 k1), .v (.string s1), .v (.int .i64 n1), c1, b1, .v (.int .i64 vs)]]) [.junk, b, ts, .junk, .ptr h.length 0, .junk, .junk, .junk, .junk, c, .v (.int .i64 n), .v (.int .i64 j), .v (.bool true), .v (.bool false), b1, .v (.int .i64 bl.length), .v (.int .i64 0), .junk, .junk, .junk, .junk, .junk, .junk, .junk, .junk, .junk, .junk, .junk, .junk] rfl
        rw [pre, g1]
        rcases g2 with ⟨rfl, rfl⟩ | ⟨rfl, g2⟩
        · refine ⟨.normal, [.junk, b, ts, .junk, .junk, .junk, .junk, .junk, .junk, c, .v (.int .i64 n), .v (.int .i64 (j + 1)), .junk, .junk, b1, .v (.int .i64 bl.length), .v (.int .i64 bl.length), .v (.bool false), .junk, .junk, .junk, .junk, .junk, .junk, .junk, .junk, .junk, .junk, .junk], h', ?_, .inl ⟨rfl, rfl⟩⟩
          simp only [V6b, c6_15, hw, run_nil, run_cons, stp_plain, stp_guard, put_some, pass_eq, pick_tt, pick_ff, pick_tf, pick_ft, pick_u, reg_some, thn_normal, thn_exit, thn_ret, cnd_t, cnd_f, blk_normal, blk_ret, blk_exit, x_seq, x_region, x_cond, x_block, x_loop, x_ret, x_exit, x_skip, e_mov, e_pick, pk_t, pk_f, withH_some, e_box, e_load, e_store, stH_some, e_nil, e_bin, e_eqv, eqH_f, eqH_t, e_un, e_fa, e_ia, ia_eq, nat_eq, natV_nat, e_len, lnH_some, e_extract, ex_0, ex_1, e_call0, e_call1, e_call2, e_call3, pc0_eq, pc1_some, pc2_some, pc3_some, fin_some, g_var0, g_vars, g_loc0, g_locs, g_int, g_bool, g_str, g_sl, s_none, s_zero, s_succ, cl_nil, cl_str, cl_bool, cl_slc, cl_own, evFa, evNil, asEl, evBin, intBin, strBin, evUn, len_nil, len_slc, len_str, clr, List.length_nil, List.length_cons, List.getElem?_cons_zero, List.getElem?_cons_succ, Nat.reduceAdd, Nat.zero_add, Nat.add_zero, Nat.reduceLeDiff, Nat.reduceSub, ↓reduceIte, List.drop_succ_cons, List.drop_zero, List.take_succ_cons, List.take_zero, Bool.false_eq_true, List.nil_append, List.cons_append, Bool.not_true, Bool.not_false, cond_true, cond_false, bne, lv_ret, lv_normal, res1, res2, lv2_some, res_var, res_cell, lvf_v, lvf_slc, res1c, lvo1_some, e_mm, mm_max, mm_min, cl_agg, cl_int, g_agg, e_callv1, cv1_fn, e_slice2, e_clrrow, e_callf2, pick_und, cells_agg, Option.map_some, Option.map_none]
        · exact ⟨.ret, v', h', by simp only [run_nil, run_cons, stp_plain, stp_guard, put_some, pass_eq, pick_tt, pick_ff, pick_tf, pick_ft, pick_u, reg_some, thn_normal, thn_exit, thn_ret, cnd_t, cnd_f, blk_normal, blk_ret, blk_exit, x_seq, x_region, x_cond, x_block, x_loop, x_ret, x_exit, x_skip, e_mov, e_pick, pk_t, pk_f, withH_some, e_box, e_load, e_store, stH_some, e_nil, e_bin, e_eqv, eqH_f, eqH_t, e_un, e_fa, e_ia, ia_eq, nat_eq, natV_nat, e_len, lnH_some, e_extract, ex_0, ex_1, e_call0, e_call1, e_call2, e_call3, pc0_eq, pc1_some, pc2_some, pc3_some, fin_some, g_var0, g_vars, g_loc0, g_locs, g_int, g_bool, g_str, g_sl, s_none, s_zero, s_succ, cl_nil, cl_str, cl_bool, cl_slc, cl_own, evFa, evNil, asEl, evBin, intBin, strBin, evUn, len_nil, len_slc, len_str, clr, List.length_nil, List.length_cons, List.getElem?_cons_zero, List.getElem?_cons_succ, Nat.reduceAdd, Nat.zero_add, Nat.add_zero, Nat.reduceLeDiff, Nat.reduceSub, ↓reduceIte, List.drop_succ_cons, List.drop_zero, List.take_succ_cons, List.take_zero, Bool.false_eq_true, List.nil_append, List.cons_append, Bool.not_true, Bool.not_false, cond_true, cond_false, bne, lv_ret, lv_normal, res1, res2, lv2_some, res_var, res_cell, lvf_v, lvf_slc, res1c, lvo1_some, e_mm, mm_max, mm_min, cl_agg, cl_int, g_agg, e_callv1, cv1_fn, e_slice2, e_clrrow, e_callf2, pick_und, cells_agg, Option.map_some, Option.map_none], .inr ⟨rfl, g2⟩⟩
theorem big_c {bs : List (Int × Tm)} {es : List AV} (hs : Sl 5 b es) (hes : AllB es bs) (hm : es.length ≤ maxLen) (hK : es.length < K) (h : List AO) (v : List AV) (hv : clr K6c v = V6c ts b es.length 0 .junk) :
    ∃ e v' h', loopN (exec (callW F) K c6_23) K6c K v h = some (e, v', h') ∧ ((e = .exit 4 ∧ v' = V6c ts b es.length es.length (.v (.bool false))) ∨ (e = .ret ∧ Yes6 v')) := by
  obtain ⟨e, v', h', g1, g2, g3⟩ := loop_rule0 (call := callW F) (K := K) (b := c6_23) (keep := K6c) (fun j v h => v = V6c ts b es.length j .junk)
    (fun e v h => (e = .exit 4 ∧ v = V6c ts b es.length es.length (.v (.bool false))) ∨ (e = .ret ∧ Yes6 v)) es.length (m := K) (v := v) (h := h) hK hv (by
      rintro j v h hj rfl
      by_cases hjl : j < es.length
      · have he : es[j]? = some es[j] := List.getElem?_eq_getElem hjl
        obtain ⟨v1, t, hB⟩ := hes.mem es[j] (List.getElem_mem hjl)
        have q1 := fun h : List AO => hs.ia he h
        have q2 := hB.elm.ld
        have q3 := fun h : List AO => hB.elm.st h (z := [.v (.int .i64 0), .v (.int .i64 0), .v (.string ⟨#[]⟩), .v (.int .i64 0), .v (.slice none 0 0)]) rfl
        have hlt := lt_t hjl
        have hw := wrap_succ hjl hm
        generalize es[j] = e at *
        cases hB with
        | mk _ cs _ hT =>
          have q4 : ∀ h : List AO, evLoad (h ++ [.box (.v (.int .i64 v1) :: cs)]) true 4 (.ptr h.length 1) = some (.agg cs) := fun h => by
            rw [ld_new]
            cases hT with | mk k s n c l hc => rfl
          have sn := fun h : List AO => hT.snap (h := h)
          have hf := few_ok t _ 20 hT
          simp only [cells_agg] at q1 q2 q3
          cases hq : decide (fewT t 20 ≥ 0) with
          | true =>
            rw [hq] at hf
            refine ⟨.normal, [.junk, .junk, ts, .junk, .junk, .junk, .ptr h.length 0, .junk, .junk, .junk, .junk, .junk, .junk, .junk, .junk, .junk, .junk, .junk, .junk, b, .v (.int .i64 es.length), .v (.int .i64 ((j + 1 : Nat) : Int)), .v (.bool true), .v (.bool false), .junk, .junk, .junk, .junk, .junk], h ++ [.box (.v (.int .i64 v1) :: cs)], ?_, hjl, rfl⟩
            simp only [V6c, c6_23, c6_18, c6_19, c6_20, c6_22, hlt, q1, q2, q3, q4, sn, hf, hw, z5, bx_l, snapi, run_nil, run_cons, stp_plain, stp_guard, put_some, pass_eq, pick_tt, pick_ff, pick_tf, pick_ft, pick_u, reg_some, thn_normal, thn_exit, thn_ret, cnd_t, cnd_f, blk_normal, blk_ret, blk_exit, x_seq, x_region, x_cond, x_block, x_loop, x_ret, x_exit, x_skip, e_mov, e_pick, pk_t, pk_f, withH_some, e_box, e_load, e_store, stH_some, e_nil, e_bin, e_eqv, eqH_f, eqH_t, e_un, e_fa, e_ia, ia_eq, nat_eq, natV_nat, e_len, lnH_some, e_extract, ex_0, ex_1, e_call0, e_call1, e_call2, e_call3, pc0_eq, pc1_some, pc2_some, pc3_some, fin_some, g_var0, g_vars, g_loc0, g_locs, g_int, g_bool, g_str, g_sl, s_none, s_zero, s_succ, cl_nil, cl_str, cl_bool, cl_slc, cl_own, evFa, evNil, asEl, evBin, intBin, strBin, evUn, len_nil, len_slc, len_str, clr, List.length_nil, List.length_cons, List.getElem?_cons_zero, List.getElem?_cons_succ, Nat.reduceAdd, Nat.zero_add, Nat.add_zero, Nat.reduceLeDiff, Nat.reduceSub, ↓reduceIte, List.drop_succ_cons, List.drop_zero, List.take_succ_cons, List.take_zero, Bool.false_eq_true, List.nil_append, List.cons_append, Bool.not_true, Bool.not_false, cond_true, cond_false, bne, lv_ret, lv_normal, res1, res2, lv2_some, res_var, res_cell, lvf_v, lvf_slc, res1c, lvo1_some, e_mm, mm_max, mm_min, cl_agg, cl_int, g_agg, e_callv1, cv1_fn, e_slice2, e_clrrow, e_callf2, pick_und, cells_agg, Option.map_some, Option.map_none]
          | false =>
            rw [hq] at hf
            refine ⟨.ret, [.junk, .junk, ts, .v (.bool true), .junk, .junk, .ptr h.length 0, .junk, .junk, .junk, .junk, .junk, .junk, .junk, .junk, .junk, .junk, .junk, .junk, b, .v (.int .i64 es.length), .v (.int .i64 j), .v (.bool true), .v (.bool true), .junk, .junk, .junk, .junk, .junk], h ++ [.box (.v (.int .i64 v1) :: cs)], ?_, .inr ⟨rfl, rfl⟩⟩
            simp only [V6c, c6_23, c6_18, c6_19, c6_20, c6_21, hlt, q1, q2, q3, q4, sn, hf, z5, bx_l, snapi, run_nil, run_cons, stp_plain, stp_guard, put_some, pass_eq, pick_tt, pick_ff, pick_tf, pick_ft, pick_u, reg_some, thn_normal, thn_exit, thn_ret, cnd_t, cnd_f, blk_normal, blk_ret, blk_exit, x_seq, x_region, x_cond, x_block, x_loop, x_ret, x_exit, x_skip, e_mov, e_pick, pk_t, pk_f, withH_some, e_box, e_load, e_store, stH_some, e_nil, e_bin, e_eqv, eqH_f, eqH_t, e_un, e_fa, e_ia, ia_eq, nat_eq, natV_nat, e_len, lnH_some, e_extract, ex_0, ex_1, e_call0, e_call1, e_call2, e_call3, pc0_eq, pc1_some, pc2_some, pc3_some, fin_some, g_var0, g_vars, g_loc0, g_locs, g_int, g_bool, g_str, g_sl, s_none, s_zero, s_succ, cl_nil, cl_str, cl_bool, cl_slc, cl_own, evFa, evNil, asEl, evBin, intBin, strBin, evUn, len_nil, len_slc, len_str, clr, List.length_nil, List.length_cons, List.getElem?_cons_zero, List.getElem?_cons_succ, Nat.reduceAdd, Nat.zero_add, Nat.add_zero, Nat.reduceLeDiff, Nat.reduceSub, ↓reduceIte, List.drop_succ_cons, List.drop_zero, List.take_succ_cons, List.take_zero, Bool.false_eq_true, List.nil_append, List.cons_append, Bool.not_true, Bool.not_false, cond_true, cond_false, bne, lv_ret, lv_normal, res1, res2, lv2_some, res_var, res_cell, lvf_v, lvf_slc, res1c, lvo1_some, e_mm, mm_max, mm_min, cl_agg, cl_int, g_agg, e_callv1, cv1_fn, e_slice2, e_clrrow, e_callf2, pick_und, cells_agg, Option.map_some, Option.map_none]
      · have hje : j = es.length := by omega
        subst hje
        have hlt := lt_f (n := es.length)
        refine ⟨.exit 4, V6c ts b es.length es.length (.v (.bool false)), h, ?_, .inl ⟨rfl, rfl⟩⟩
        simp only [V6c, c6_23, c6_18, hlt, run_nil, run_cons, stp_plain, stp_guard, put_some, pass_eq, pick_tt, pick_ff, pick_tf, pick_ft, pick_u, reg_some, thn_normal, thn_exit, thn_ret, cnd_t, cnd_f, blk_normal, blk_ret, blk_exit, x_seq, x_region, x_cond, x_block, x_loop, x_ret, x_exit, x_skip, e_mov, e_pick, pk_t, pk_f, withH_some, e_box, e_load, e_store, stH_some, e_nil, e_bin, e_eqv, eqH_f, eqH_t, e_un, e_fa, e_ia, ia_eq, nat_eq, natV_nat, e_len, lnH_some, e_extract, ex_0, ex_1, e_call0, e_call1, e_call2, e_call3, pc0_eq, pc1_some, pc2_some, pc3_some, fin_some, g_var0, g_vars, g_loc0, g_locs, g_int, g_bool, g_str, g_sl, s_none, s_zero, s_succ, cl_nil, cl_str, cl_bool, cl_slc, cl_own, evFa, evNil, asEl, evBin, intBin, strBin, evUn, len_nil, len_slc, len_str, clr, List.length_nil, List.length_cons, List.getElem?_cons_zero, List.getElem?_cons_succ, Nat.reduceAdd, Nat.zero_add, Nat.add_zero, Nat.reduceLeDiff, Nat.reduceSub, ↓reduceIte, List.drop_succ_cons, List.drop_zero, List.take_succ_cons, List.take_zero, Bool.false_eq_true, List.nil_append, List.cons_append, Bool.not_true, Bool.not_false, cond_true, cond_false, bne, lv_ret, lv_normal, res1, res2, lv2_some, res_var, res_cell, lvf_v, lvf_slc, res1c, lvo1_some, e_mm, mm_max, mm_min, cl_agg, cl_int, g_agg, e_callv1, cv1_fn, e_slice2, e_clrrow, e_callf2, pick_und, cells_agg, Option.map_some, Option.map_none])
  exact ⟨e, v', h', g1, g3⟩
theorem big_d {l : List Tm} {es : List AV} (hs : Sl 4 ts es) (hes : All2 es l) (hm : es.length ≤ maxLen) (hK : es.length < K) (h : List AO) (v : List AV) (hv : clr K6d v = V6d ts es.length 0 .junk) :
    ∃ e v' h', loopN (exec (callW F) K c6_30) K6d K v h = some (e, v', h') ∧ ((e = .exit 6 ∧ v' = V6d ts es.length es.length (.v (.bool false))) ∨ (e = .ret ∧ Yes6 v')) := by
  obtain ⟨e, v', h', g1, g2, g3⟩ := loop_rule0 (call := callW F) (K := K) (b := c6_30) (keep := K6d) (fun j v h => v = V6d ts es.length j .junk)
    (fun e v h => (e = .exit 6 ∧ v = V6d ts es.length es.length (.v (.bool false))) ∨ (e = .ret ∧ Yes6 v)) es.length (m := K) (v := v) (h := h) hK hv (by
      rintro j v h hj rfl
      by_cases hjl : j < es.length
      · have he : es[j]? = some es[j] := List.getElem?_eq_getElem hjl
        obtain ⟨t, _, hT⟩ := hes.mem es[j] (List.getElem_mem hjl)
        have q1 := fun h : List AO => hs.ia he h
        have q2 := hT.elm.ld
        have q3 := fun h : List AO => hT.elm.st h (z := [.v (.int .i64 0), .v (.string ⟨#[]⟩), .v (.int .i64 0), .v (.slice none 0 0)]) rfl
        have q4 := hT.elm.ldn
        have sn := fun h : List AO => hT.snap (h := h)
        have hf := few_ok t _ 200 hT
        have hlt := lt_t hjl
        have hw := wrap_succ hjl hm
        cases hq : decide (fewT t 200 ≥ 0) with
        | true =>
          rw [hq] at hf
          refine ⟨.normal, [.junk, .junk, .junk, .junk, .junk, .junk, .junk, .ptr h.length 0, .junk, .junk, .junk, .junk, .junk, .junk, .junk, .junk, .junk, .junk, .junk, .junk, .junk, .junk, .junk, .junk, ts, .v (.int .i64 es.length), .v (.int .i64 ((j + 1 : Nat) : Int)), .v (.bool true), .v (.bool false)], h ++ [.box (es[j]).cells], ?_, hjl, rfl⟩
          simp only [V6d, c6_30, c6_25, c6_26, c6_27, c6_29, hlt, q1, q2, q3, q4, sn, hf, hw, q9z, bx_l, snapi, run_nil, run_cons, stp_plain, stp_guard, put_some, pass_eq, pick_tt, pick_ff, pick_tf, pick_ft, pick_u, reg_some, thn_normal, thn_exit, thn_ret, cnd_t, cnd_f, blk_normal, blk_ret, blk_exit, x_seq, x_region, x_cond, x_block, x_loop, x_ret, x_exit, x_skip, e_mov, e_pick, pk_t, pk_f, withH_some, e_box, e_load, e_store, stH_some, e_nil, e_bin, e_eqv, eqH_f, eqH_t, e_un, e_fa, e_ia, ia_eq, nat_eq, natV_nat, e_len, lnH_some, e_extract, ex_0, ex_1, e_call0, e_call1, e_call2, e_call3, pc0_eq, pc1_some, pc2_some, pc3_some, fin_some, g_var0, g_vars, g_loc0, g_locs, g_int, g_bool, g_str, g_sl, s_none, s_zero, s_succ, cl_nil, cl_str, cl_bool, cl_slc, cl_own, evFa, evNil, asEl, evBin, intBin, strBin, evUn, len_nil, len_slc, len_str, clr, List.length_nil, List.length_cons, List.getElem?_cons_zero, List.getElem?_cons_succ, Nat.reduceAdd, Nat.zero_add, Nat.add_zero, Nat.reduceLeDiff, Nat.reduceSub, ↓reduceIte, List.drop_succ_cons, List.drop_zero, List.take_succ_cons, List.take_zero, Bool.false_eq_true, List.nil_append, List.cons_append, Bool.not_true, Bool.not_false, cond_true, cond_false, bne, lv_ret, lv_normal, res1, res2, lv2_some, res_var, res_cell, lvf_v, lvf_slc, res1c, lvo1_some, e_mm, mm_max, mm_min, cl_agg, cl_int, g_agg, e_callv1, cv1_fn, e_slice2, e_clrrow, e_callf2, pick_und, cells_agg, Option.map_some, Option.map_none]
        | false =>
          rw [hq] at hf
          refine ⟨.ret, [.junk, .junk, .junk, .v (.bool true), .junk, .junk, .junk, .ptr h.length 0, .junk, .junk, .junk, .junk, .junk, .junk, .junk, .junk, .junk, .junk, .junk, .junk, .junk, .junk, .junk, .junk, ts, .v (.int .i64 es.length), .v (.int .i64 j), .v (.bool true), .v (.bool true)], h ++ [.box (es[j]).cells], ?_, .inr ⟨rfl, rfl⟩⟩
          simp only [V6d, c6_30, c6_25, c6_26, c6_27, c6_28, hlt, q1, q2, q3, q4, sn, hf, q9z, bx_l, snapi, run_nil, run_cons, stp_plain, stp_guard, put_some, pass_eq, pick_tt, pick_ff, pick_tf, pick_ft, pick_u, reg_some, thn_normal, thn_exit, thn_ret, cnd_t, cnd_f, blk_normal, blk_ret, blk_exit, x_seq, x_region, x_cond, x_block, x_loop, x_ret, x_exit, x_skip, e_mov, e_pick, pk_t, pk_f, withH_some, e_box, e_load, e_store, stH_some, e_nil, e_bin, e_eqv, eqH_f, eqH_t, e_un, e_fa, e_ia, ia_eq, nat_eq, natV_nat, e_len, lnH_some, e_extract, ex_0, ex_1, e_call0, e_call1, e_call2, e_call3, pc0_eq, pc1_some, pc2_some, pc3_some, fin_some, g_var0, g_vars, g_loc0, g_locs, g_int, g_bool, g_str, g_sl, s_none, s_zero, s_succ, cl_nil, cl_str, cl_bool, cl_slc, cl_own, evFa, evNil, asEl, evBin, intBin, strBin, evUn, len_nil, len_slc, len_str, clr, List.length_nil, List.length_cons, List.getElem?_cons_zero, List.getElem?_cons_succ, Nat.reduceAdd, Nat.zero_add, Nat.add_zero, Nat.reduceLeDiff, Nat.reduceSub, ↓reduceIte, List.drop_succ_cons, List.drop_zero, List.take_succ_cons, List.take_zero, Bool.false_eq_true, List.nil_append, List.cons_append, Bool.not_true, Bool.not_false, cond_true, cond_false, bne, lv_ret, lv_normal, res1, res2, lv2_some, res_var, res_cell, lvf_v, lvf_slc, res1c, lvo1_some, e_mm, mm_max, mm_min, cl_agg, cl_int, g_agg, e_callv1, cv1_fn, e_slice2, e_clrrow, e_callf2, pick_und, cells_agg, Option.map_some, Option.map_none]
      · have hje : j = es.length := by omega
        subst hje
        have hlt := lt_f (n := es.length)
        refine ⟨.exit 6, V6d ts es.length es.length (.v (.bool false)), h, ?_, .inl ⟨rfl, rfl⟩⟩
        simp only [V6d, c6_30, c6_25, hlt, run_nil, run_cons, stp_plain, stp_guard, put_some, pass_eq, pick_tt, pick_ff, pick_tf, pick_ft, pick_u, reg_some, thn_normal, thn_exit, thn_ret, cnd_t, cnd_f, blk_normal, blk_ret, blk_exit, x_seq, x_region, x_cond, x_block, x_loop, x_ret, x_exit, x_skip, e_mov, e_pick, pk_t, pk_f, withH_some, e_box, e_load, e_store, stH_some, e_nil, e_bin, e_eqv, eqH_f, eqH_t, e_un, e_fa, e_ia, ia_eq, nat_eq, natV_nat, e_len, lnH_some, e_extract, ex_0, ex_1, e_call0, e_call1, e_call2, e_call3, pc0_eq, pc1_some, pc2_some, pc3_some, fin_some, g_var0, g_vars, g_loc0, g_locs, g_int, g_bool, g_str, g_sl, s_none, s_zero, s_succ, cl_nil, cl_str, cl_bool, cl_slc, cl_own, evFa, evNil, asEl, evBin, intBin, strBin, evUn, len_nil, len_slc, len_str, clr, List.length_nil, List.length_cons, List.getElem?_cons_zero, List.getElem?_cons_succ, Nat.reduceAdd, Nat.zero_add, Nat.add_zero, Nat.reduceLeDiff, Nat.reduceSub, ↓reduceIte, List.drop_succ_cons, List.drop_zero, List.take_succ_cons, List.take_zero, Bool.false_eq_true, List.nil_append, List.cons_append, Bool.not_true, Bool.not_false, cond_true, cond_false, bne, lv_ret, lv_normal, res1, res2, lv2_some, res_var, res_cell, lvf_v, lvf_slc, res1c, lvo1_some, e_mm, mm_max, mm_min, cl_agg, cl_int, g_agg, e_callv1, cv1_fn, e_slice2, e_clrrow, e_callf2, pick_und, cells_agg, Option.map_some, Option.map_none])
  exact ⟨e, v', h', g1, g3⟩
theorem big_a {p : List Cl} {es : List AV} (hs : Sl 6 c es) (hes : AllR IsCl es p) (hm : es.length ≤ maxLen) (hK : es.length < K) (hK' : 60 < K) (h : List AO) (v : List AV) (hv : clr K6a v = V6a b ts c es.length 0 .junk) :
    ∃ e v' h', loopN (exec (callW F) K c6_16) K6a K v h = some (e, v', h') ∧ ((e = .exit 0 ∧ v' = V6a b ts c es.length es.length (.v (.bool false))) ∨ (e = .ret ∧ Yes6 v')) := by
  obtain ⟨e, v', h', g1, g2, g3⟩ := loop_rule0 (call := callW F) (K := K) (b := c6_16) (keep := K6a) (fun j v h => v = V6a b ts c es.length j .junk)
    (fun e v h => (e = .exit 0 ∧ v = V6a b ts c es.length es.length (.v (.bool false))) ∨ (e = .ret ∧ Yes6 v)) es.length (m := K) (v := v) (h := h) hK hv (by
      rintro j v h hj rfl
      by_cases hjl : j < es.length
      · have he : es[j]? = some es[j] := List.getElem?_eq_getElem hjl
        obtain ⟨x, _, hx⟩ := hes.mem es[j] (List.getElem_mem hjl)
        obtain ⟨k, v', h', g1, g2⟩ := big_step (b := b) (ts := ts) (c := c) (n := es.length) (i := j) (fun h => hs.ia he h) (by omega) (lt_t hjl) (by rw [wrap_succ hjl hm]; simp) hx hK' h
        rcases g2 with ⟨rfl, g2⟩ | ⟨rfl, g2⟩
        · exact ⟨.normal, v', h', g1, hjl, by rw [g2]; simp⟩
        · exact ⟨.ret, v', h', g1, .inr ⟨rfl, g2⟩⟩
      · have hje : j = es.length := by omega
        subst hje
        have hlt := lt_f (n := es.length)
        refine ⟨.exit 0, V6a b ts c es.length es.length (.v (.bool false)), h, ?_, .inl ⟨rfl, rfl⟩⟩
        simp only [V6a, c6_16, c6_4, hlt, run_nil, run_cons, stp_plain, stp_guard, put_some, pass_eq, pick_tt, pick_ff, pick_tf, pick_ft, pick_u, reg_some, thn_normal, thn_exit, thn_ret, cnd_t, cnd_f, blk_normal, blk_ret, blk_exit, x_seq, x_region, x_cond, x_block, x_loop, x_ret, x_exit, x_skip, e_mov, e_pick, pk_t, pk_f, withH_some, e_box, e_load, e_store, stH_some, e_nil, e_bin, e_eqv, eqH_f, eqH_t, e_un, e_fa, e_ia, ia_eq, nat_eq, natV_nat, e_len, lnH_some, e_extract, ex_0, ex_1, e_call0, e_call1, e_call2, e_call3, pc0_eq, pc1_some, pc2_some, pc3_some, fin_some, g_var0, g_vars, g_loc0, g_locs, g_int, g_bool, g_str, g_sl, s_none, s_zero, s_succ, cl_nil, cl_str, cl_bool, cl_slc, cl_own, evFa, evNil, asEl, evBin, intBin, strBin, evUn, len_nil, len_slc, len_str, clr, List.length_nil, List.length_cons, List.getElem?_cons_zero, List.getElem?_cons_succ, Nat.reduceAdd, Nat.zero_add, Nat.add_zero, Nat.reduceLeDiff, Nat.reduceSub, ↓reduceIte, List.drop_succ_cons, List.drop_zero, List.take_succ_cons, List.take_zero, Bool.false_eq_true, List.nil_append, List.cons_append, Bool.not_true, Bool.not_false, cond_true, cond_false, bne, lv_ret, lv_normal, res1, res2, lv2_some, res_var, res_cell, lvf_v, lvf_slc, res1c, lvo1_some, e_mm, mm_max, mm_min, cl_agg, cl_int, g_agg, e_callv1, cv1_fn, e_slice2, e_clrrow, e_callf2, pick_und, cells_agg, Option.map_some, Option.map_none])
  exact ⟨e, v', h', g1, g3⟩
end
theorem yes_lv {v : List AV} {h : List AO} (hy : Yes6 v) : lv c6.res (some (.ret, v, h)) = some (.v (.bool true), []) := by
  rw [show c6.res = [.var 3] from rfl, lv_ret, res1, getO_of hy]
  rfl
theorem big_ok {c b ts : AV} {p : List Cl} {bs : List (Int × Tm)} {l : List Tm} (hp : IsS 6 IsCl c p) (hb : IsB b bs) (hts : IsL ts l) : ∃ r, callW F 6 [c, b, ts] [] = some (.v (.bool r), []) ∧ (r = false → p.length ≤ 60 ∧ bs.length ≤ 60) := by
  obtain ⟨es, hs, hes, hm⟩ := hp
  obtain ⟨ebs, hbs, hbes, hbm⟩ := hb.sl
  obtain ⟨els, hls, hles, hlm⟩ := hts.sl
  have n1 := fun h : List AO => hs.len h
  have n2 := fun h : List AO => hbs.len h
  have n3 := fun h : List AO => hls.len h
  have l1 := hes.length
  have l2 := hbes.length
  have l3 := hles.length
  have st6 : start c6 [c, b, ts] = [c, b, ts, .v undef, .v undef, .v undef, .v undef, .v undef, .v undef, .v undef, .v undef, .v undef, .v undef, .v undef, .v undef, .v undef, .v undef, .v undef, .v undef, .v undef, .v undef, .v undef, .v undef, .v undef, .v undef, .v undef, .v undef, .v undef, .v undef] := rfl
  cases h1 : decide ((es.length : Int) > 60) with
  | true =>
    refine ⟨true, callW_pure (c := c6) rfl rfl 0 ?_, fun h => by cases h⟩
    simp only [c6, start, List.replicate, c6_0, c6_1, c6_2, n1, n2, n3, h1, run_nil, run_cons, stp_plain, stp_guard, put_some, pass_eq, pick_tt, pick_ff, pick_tf, pick_ft, pick_u, reg_some, thn_normal, thn_exit, thn_ret, cnd_t, cnd_f, blk_normal, blk_ret, blk_exit, x_seq, x_region, x_cond, x_block, x_loop, x_ret, x_exit, x_skip, e_mov, e_pick, pk_t, pk_f, withH_some, e_box, e_load, e_store, stH_some, e_nil, e_bin, e_eqv, eqH_f, eqH_t, e_un, e_fa, e_ia, ia_eq, nat_eq, natV_nat, e_len, lnH_some, e_extract, ex_0, ex_1, e_call0, e_call1, e_call2, e_call3, pc0_eq, pc1_some, pc2_some, pc3_some, fin_some, g_var0, g_vars, g_loc0, g_locs, g_int, g_bool, g_str, g_sl, s_none, s_zero, s_succ, cl_nil, cl_str, cl_bool, cl_slc, cl_own, evFa, evNil, asEl, evBin, intBin, strBin, evUn, len_nil, len_slc, len_str, clr, List.length_nil, List.length_cons, List.getElem?_cons_zero, List.getElem?_cons_succ, Nat.reduceAdd, Nat.zero_add, Nat.add_zero, Nat.reduceLeDiff, Nat.reduceSub, ↓reduceIte, List.drop_succ_cons, List.drop_zero, List.take_succ_cons, List.take_zero, Bool.false_eq_true, List.nil_append, List.cons_append, Bool.not_true, Bool.not_false, cond_true, cond_false, bne, lv_ret, lv_normal, res1, res2, lv2_some, res_var, res_cell, lvf_v, lvf_slc, res1c, lvo1_some, e_mm, mm_max, mm_min, cl_agg, cl_int, g_agg, e_callv1, cv1_fn, e_slice2, e_clrrow, e_callf2, pick_und, cells_agg, Option.map_some, Option.map_none]
  | false =>
  cases h2 : decide ((ebs.length : Int) > 60) with
  | true =>
    refine ⟨true, callW_pure (c := c6) rfl rfl 0 ?_, fun h => by cases h⟩
    simp only [c6, start, List.replicate, c6_0, c6_1, c6_2, n1, n2, n3, h1, h2, run_nil, run_cons, stp_plain, stp_guard, put_some, pass_eq, pick_tt, pick_ff, pick_tf, pick_ft, pick_u, reg_some, thn_normal, thn_exit, thn_ret, cnd_t, cnd_f, blk_normal, blk_ret, blk_exit, x_seq, x_region, x_cond, x_block, x_loop, x_ret, x_exit, x_skip, e_mov, e_pick, pk_t, pk_f, withH_some, e_box, e_load, e_store, stH_some, e_nil, e_bin, e_eqv, eqH_f, eqH_t, e_un, e_fa, e_ia, ia_eq, nat_eq, natV_nat, e_len, lnH_some, e_extract, ex_0, ex_1, e_call0, e_call1, e_call2, e_call3, pc0_eq, pc1_some, pc2_some, pc3_some, fin_some, g_var0, g_vars, g_loc0, g_locs, g_int, g_bool, g_str, g_sl, s_none, s_zero, s_succ, cl_nil, cl_str, cl_bool, cl_slc, cl_own, evFa, evNil, asEl, evBin, intBin, strBin, evUn, len_nil, len_slc, len_str, clr, List.length_nil, List.length_cons, List.getElem?_cons_zero, List.getElem?_cons_succ, Nat.reduceAdd, Nat.zero_add, Nat.add_zero, Nat.reduceLeDiff, Nat.reduceSub, ↓reduceIte, List.drop_succ_cons, List.drop_zero, List.take_succ_cons, List.take_zero, Bool.false_eq_true, List.nil_append, List.cons_append, Bool.not_true, Bool.not_false, cond_true, cond_false, bne, lv_ret, lv_normal, res1, res2, lv2_some, res_var, res_cell, lvf_v, lvf_slc, res1c, lvo1_some, e_mm, mm_max, mm_min, cl_agg, cl_int, g_agg, e_callv1, cv1_fn, e_slice2, e_clrrow, e_callf2, pick_und, cells_agg, Option.map_some, Option.map_none]
  | false =>
  cases h3 : decide ((els.length : Int) > 60) with
  | true =>
    refine ⟨true, callW_pure (c := c6) rfl rfl 0 ?_, fun h => by cases h⟩
    simp only [c6, start, List.replicate, c6_0, c6_1, c6_2, n1, n2, n3, h1, h2, h3, run_nil, run_cons, stp_plain, stp_guard, put_some, pass_eq, pick_tt, pick_ff, pick_tf, pick_ft, pick_u, reg_some, thn_normal, thn_exit, thn_ret, cnd_t, cnd_f, blk_normal, blk_ret, blk_exit, x_seq, x_region, x_cond, x_block, x_loop, x_ret, x_exit, x_skip, e_mov, e_pick, pk_t, pk_f, withH_some, e_box, e_load, e_store, stH_some, e_nil, e_bin, e_eqv, eqH_f, eqH_t, e_un, e_fa, e_ia, ia_eq, nat_eq, natV_nat, e_len, lnH_some, e_extract, ex_0, ex_1, e_call0, e_call1, e_call2, e_call3, pc0_eq, pc1_some, pc2_some, pc3_some, fin_some, g_var0, g_vars, g_loc0, g_locs, g_int, g_bool, g_str, g_sl, s_none, s_zero, s_succ, cl_nil, cl_str, cl_bool, cl_slc, cl_own, evFa, evNil, asEl, evBin, intBin, strBin, evUn, len_nil, len_slc, len_str, clr, List.length_nil, List.length_cons, List.getElem?_cons_zero, List.getElem?_cons_succ, Nat.reduceAdd, Nat.zero_add, Nat.add_zero, Nat.reduceLeDiff, Nat.reduceSub, ↓reduceIte, List.drop_succ_cons, List.drop_zero, List.take_succ_cons, List.take_zero, Bool.false_eq_true, List.nil_append, List.cons_append, Bool.not_true, Bool.not_false, cond_true, cond_false, bne, lv_ret, lv_normal, res1, res2, lv2_some, res_var, res_cell, lvf_v, lvf_slc, res1c, lvo1_some, e_mm, mm_max, mm_min, cl_agg, cl_int, g_agg, e_callv1, cv1_fn, e_slice2, e_clrrow, e_callf2, pick_und, cells_agg, Option.map_some, Option.map_none]
  | false =>
  simp only [decide_eq_false_iff_not] at h1 h2 h3
  have b1 : es.length ≤ 60 := by omega
  have b2 : ebs.length ≤ 60 := by omega
  have b3 : els.length ≤ 60 := by omega
  have d1 : decide ((es.length : Int) > 60) = false := by simpa using h1
  have d2 : decide ((ebs.length : Int) > 60) = false := by simpa using h2
  have d3 : decide ((els.length : Int) > 60) = false := by simpa using h3
  let rest3 : CC := .seq (.region [] [] c6_31) .ret
  let rest2 : CC := .seq (.seq (.region [] [] c6_24) (.block 6 (.loop K6d [] c6_30))) rest3
  let rest1 : CC := .seq (.seq (.region [] [] c6_17) (.block 4 (.loop K6c [] c6_23))) rest2
  have pre : exec (callW F) 100 c6.body (start c6 [c, b, ts]) [] = thn (callW F) 100 rest1 (blk 0 (loopN (exec (callW F) 100 c6_16) K6a 100 [c, b, ts, .v (.bool false), .v undef, .v undef, .v undef, .v undef, .v (.bool false), c, .v (.int .i64 es.length), .v (.int .i64 0), .v undef, .v undef, .v undef, .v undef, .v undef, .v undef, .v undef, .v undef, .v undef, .v undef, .v undef, .v undef, .v undef, .v undef, .v undef, .v undef, .v undef] [])) := by
    rw [show c6.body = (.seq (.region [] [] c6_0) (.seq (.seq (.region [] [] c6_1) (.cond (.var 8) (.seq (.region [] [] c6_2) .ret) .skip)) (.seq (.seq (.region [] [] c6_3) (.block 0 (.loop K6a [] c6_16))) rest1))) from rfl, st6]
    generalize rest1 = r1
    generalize c6_16 = bb
    simp only [c6_0, c6_1, c6_3, n1, n2, n3, d1, d2, d3, run_nil, run_cons, stp_plain, stp_guard, put_some, pass_eq, pick_tt, pick_ff, pick_tf, pick_ft, pick_u, reg_some, thn_normal, thn_exit, thn_ret, cnd_t, cnd_f, blk_normal, blk_ret, blk_exit, x_seq, x_region, x_cond, x_block, x_loop, x_ret, x_exit, x_skip, e_mov, e_pick, pk_t, pk_f, withH_some, e_box, e_load, e_store, stH_some, e_nil, e_bin, e_eqv, eqH_f, eqH_t, e_un, e_fa, e_ia, ia_eq, nat_eq, natV_nat, e_len, lnH_some, e_extract, ex_0, ex_1, e_call0, e_call1, e_call2, e_call3, pc0_eq, pc1_some, pc2_some, pc3_some, fin_some, g_var0, g_vars, g_loc0, g_locs, g_int, g_bool, g_str, g_sl, s_none, s_zero, s_succ, cl_nil, cl_str, cl_bool, cl_slc, cl_own, evFa, evNil, asEl, evBin, intBin, strBin, evUn, len_nil, len_slc, len_str, clr, List.length_nil, List.length_cons, List.getElem?_cons_zero, List.getElem?_cons_succ, Nat.reduceAdd, Nat.zero_add, Nat.add_zero, Nat.reduceLeDiff, Nat.reduceSub, ↓reduceIte, List.drop_succ_cons, List.drop_zero, List.take_succ_cons, List.take_zero, Bool.false_eq_true, List.nil_append, List.cons_append, Bool.not_true, Bool.not_false, cond_true, cond_false, bne, lv_ret, lv_normal, res1, res2, lv2_some, res_var, res_cell, lvf_v, lvf_slc, res1c, lvo1_some, e_mm, mm_max, mm_min, cl_agg, cl_int, g_agg, e_callv1, cv1_fn, e_slice2, e_clrrow, e_callf2, pick_und, cells_agg, Option.map_some, Option.map_none]
  obtain ⟨e, v', h', g1, g2⟩ := big_a (K := 100) (b := b) (ts := ts) hs hes hm (by omega) (by omega) [] [c, b, ts, .v (.bool false), .v undef, .v undef, .v undef, .v undef, .v (.bool false), c, .v (.int .i64 es.length), .v (.int .i64 0), .v undef, .v undef, .v undef, .v undef, .v undef, .v undef, .v undef, .v undef, .v undef, .v undef, .v undef, .v undef, .v undef, .v undef, .v undef, .v undef, .v undef] rfl
  rcases g2 with ⟨rfl, rfl⟩ | ⟨rfl, g2⟩
  rotate_left
  · refine ⟨true, callW_pure (c := c6) rfl rfl 100 ?_, fun h => by cases h⟩
    rw [pre, g1, blk_ret, thn_ret]
    exact yes_lv g2
  have pre2 : ∀ h, exec (callW F) 100 rest1 (V6a b ts c es.length es.length (.v (.bool false))) h = thn (callW F) 100 rest2 (blk 4 (loopN (exec (callW F) 100 c6_23) K6c 100 [.junk, b, ts, .junk, .junk, .junk, .junk, .junk, .junk, c, .v (.int .i64 es.length), .v (.int .i64 es.length), .v (.bool false), .junk, .junk, .junk, .junk, .junk, .junk, b, .v (.int .i64 ebs.length), .v (.int .i64 0), .junk, .junk, .junk, .junk, .junk, .junk, .junk] h)) := by
    intro h
    rw [show rest1 = .seq (.seq (.region [] [] c6_17) (.block 4 (.loop K6c [] c6_23))) rest2 from rfl]
    generalize rest2 = r2
    generalize c6_23 = bb
    simp only [V6a, c6_17, n2, run_nil, run_cons, stp_plain, stp_guard, put_some, pass_eq, pick_tt, pick_ff, pick_tf, pick_ft, pick_u, reg_some, thn_normal, thn_exit, thn_ret, cnd_t, cnd_f, blk_normal, blk_ret, blk_exit, x_seq, x_region, x_cond, x_block, x_loop, x_ret, x_exit, x_skip, e_mov, e_pick, pk_t, pk_f, withH_some, e_box, e_load, e_store, stH_some, e_nil, e_bin, e_eqv, eqH_f, eqH_t, e_un, e_fa, e_ia, ia_eq, nat_eq, natV_nat, e_len, lnH_some, e_extract, ex_0, ex_1, e_call0, e_call1, e_call2, e_call3, pc0_eq, pc1_some, pc2_some, pc3_some, fin_some, g_var0, g_vars, g_loc0, g_locs, g_int, g_bool, g_str, g_sl, s_none, s_zero, s_succ, cl_nil, cl_str, cl_bool, cl_slc, cl_own, evFa, evNil, asEl, evBin, intBin, strBin, evUn, len_nil, len_slc, len_str, clr, List.length_nil, List.length_cons, List.getElem?_cons_zero, List.getElem?_cons_succ, Nat.reduceAdd, Nat.zero_add, Nat.add_zero, Nat.reduceLeDiff, Nat.reduceSub, ↓reduceIte, List.drop_succ_cons, List.drop_zero, List.take_succ_cons, List.take_zero, Bool.false_eq_true, List.nil_append, List.cons_append, Bool.not_true, Bool.not_false, cond_true, cond_false, bne, lv_ret, lv_normal, res1, res2, lv2_some, res_var, res_cell, lvf_v, lvf_slc, res1c, lvo1_some, e_mm, mm_max, mm_min, cl_agg, cl_int, g_agg, e_callv1, cv1_fn, e_slice2, e_clrrow, e_callf2, pick_und, cells_agg, Option.map_some, Option.map_none]
  obtain ⟨e, v', h2', g3, g4⟩ := big_c (K := 100) (ts := ts) hbs hbes hbm (by omega) h' [.junk, b, ts, .junk, .junk, .junk, .junk, .junk, .junk, c, .v (.int .i64 es.length), .v (.int .i64 es.length), .v (.bool false), .junk, .junk, .junk, .junk, .junk, .junk, b, .v (.int .i64 ebs.length), .v (.int .i64 0), .junk, .junk, .junk, .junk, .junk, .junk, .junk] rfl
  rcases g4 with ⟨rfl, rfl⟩ | ⟨rfl, g4⟩
  rotate_left
  · refine ⟨true, callW_pure (c := c6) rfl rfl 100 ?_, fun h => by cases h⟩
    rw [pre, g1, blk_exit, thn_normal, pre2, g3, blk_ret, thn_ret]
    exact yes_lv g4
  have pre3 : ∀ h, exec (callW F) 100 rest2 (V6c ts b ebs.length ebs.length (.v (.bool false))) h = thn (callW F) 100 rest3 (blk 6 (loopN (exec (callW F) 100 c6_30) K6d 100 [.junk, .junk, ts, .junk, .junk, .junk, .junk, .junk, .junk, .junk, .junk, .junk, .junk, .junk, .junk, .junk, .junk, .junk, .junk, b, .v (.int .i64 ebs.length), .v (.int .i64 ebs.length), .v (.bool false), .junk, ts, .v (.int .i64 els.length), .v (.int .i64 0), .junk, .junk] h)) := by
    intro h
    rw [show rest2 = .seq (.seq (.region [] [] c6_24) (.block 6 (.loop K6d [] c6_30))) rest3 from rfl]
    generalize rest3 = r3
    generalize c6_30 = bb
    simp only [V6c, c6_24, n3, run_nil, run_cons, stp_plain, stp_guard, put_some, pass_eq, pick_tt, pick_ff, pick_tf, pick_ft, pick_u, reg_some, thn_normal, thn_exit, thn_ret, cnd_t, cnd_f, blk_normal, blk_ret, blk_exit, x_seq, x_region, x_cond, x_block, x_loop, x_ret, x_exit, x_skip, e_mov, e_pick, pk_t, pk_f, withH_some, e_box, e_load, e_store, stH_some, e_nil, e_bin, e_eqv, eqH_f, eqH_t, e_un, e_fa, e_ia, ia_eq, nat_eq, natV_nat, e_len, lnH_some, e_extract, ex_0, ex_1, e_call0, e_call1, e_call2, e_call3, pc0_eq, pc1_some, pc2_some, pc3_some, fin_some, g_var0, g_vars, g_loc0, g_locs, g_int, g_bool, g_str, g_sl, s_none, s_zero, s_succ, cl_nil, cl_str, cl_bool, cl_slc, cl_own, evFa, evNil, asEl, evBin, intBin, strBin, evUn, len_nil, len_slc, len_str, clr, List.length_nil, List.length_cons, List.getElem?_cons_zero, List.getElem?_cons_succ, Nat.reduceAdd, Nat.zero_add, Nat.add_zero, Nat.reduceLeDiff, Nat.reduceSub, ↓reduceIte, List.drop_succ_cons, List.drop_zero, List.take_succ_cons, List.take_zero, Bool.false_eq_true, List.nil_append, List.cons_append, Bool.not_true, Bool.not_false, cond_true, cond_false, bne, lv_ret, lv_normal, res1, res2, lv2_some, res_var, res_cell, lvf_v, lvf_slc, res1c, lvo1_some, e_mm, mm_max, mm_min, cl_agg, cl_int, g_agg, e_callv1, cv1_fn, e_slice2, e_clrrow, e_callf2, pick_und, cells_agg, Option.map_some, Option.map_none]
  obtain ⟨e, v', h3', g5, g6⟩ := big_d (K := 100) hls hles hlm (by omega) h2' [.junk, .junk, ts, .junk, .junk, .junk, .junk, .junk, .junk, .junk, .junk, .junk, .junk, .junk, .junk, .junk, .junk, .junk, .junk, b, .v (.int .i64 ebs.length), .v (.int .i64 ebs.length), .v (.bool false), .junk, ts, .v (.int .i64 els.length), .v (.int .i64 0), .junk, .junk] rfl
  rcases g6 with ⟨rfl, rfl⟩ | ⟨rfl, g6⟩
  rotate_left
  · refine ⟨true, callW_pure (c := c6) rfl rfl 100 ?_, fun h => by cases h⟩
    rw [pre, g1, blk_exit, thn_normal, pre2, g3, blk_exit, thn_normal, pre3, g5, blk_ret, thn_ret]
    exact yes_lv g6
  refine ⟨false, callW_pure (c := c6) rfl rfl 100 ?_, fun _ => ⟨by omega, by omega⟩⟩
  rw [pre, g1, blk_exit, thn_normal, pre2, g3, blk_exit, thn_normal, pre3, g5, blk_exit, thn_normal]
  simp only [rest3, V6d, c6, c6_31, run_nil, run_cons, stp_plain, stp_guard, put_some, pass_eq, pick_tt, pick_ff, pick_tf, pick_ft, pick_u, reg_some, thn_normal, thn_exit, thn_ret, cnd_t, cnd_f, blk_normal, blk_ret, blk_exit, x_seq, x_region, x_cond, x_block, x_loop, x_ret, x_exit, x_skip, e_mov, e_pick, pk_t, pk_f, withH_some, e_box, e_load, e_store, stH_some, e_nil, e_bin, e_eqv, eqH_f, eqH_t, e_un, e_fa, e_ia, ia_eq, nat_eq, natV_nat, e_len, lnH_some, e_extract, ex_0, ex_1, e_call0, e_call1, e_call2, e_call3, pc0_eq, pc1_some, pc2_some, pc3_some, fin_some, g_var0, g_vars, g_loc0, g_locs, g_int, g_bool, g_str, g_sl, s_none, s_zero, s_succ, cl_nil, cl_str, cl_bool, cl_slc, cl_own, evFa, evNil, asEl, evBin, intBin, strBin, evUn, len_nil, len_slc, len_str, clr, List.length_nil, List.length_cons, List.getElem?_cons_zero, List.getElem?_cons_succ, Nat.reduceAdd, Nat.zero_add, Nat.add_zero, Nat.reduceLeDiff, Nat.reduceSub, ↓reduceIte, List.drop_succ_cons, List.drop_zero, List.take_succ_cons, List.take_zero, Bool.false_eq_true, List.nil_append, List.cons_append, Bool.not_true, Bool.not_false, cond_true, cond_false, bne, lv_ret, lv_normal, res1, res2, lv2_some, res_var, res_cell, lvf_v, lvf_slc, res1c, lvo1_some, e_mm, mm_max, mm_min, cl_agg, cl_int, g_agg, e_callv1, cv1_fn, e_slice2, e_clrrow, e_callf2, pick_und, cells_agg, Option.map_some, Option.map_none]
end Go.AE.Ytchiacliefahdaa
end

/-! IndexVars in plain Lean. -/
section
set_option linter.unusedVariables false
set_option linter.unusedSimpArgs false
namespace Go.AE.Ytchiacliefahdaa
open Go Go.AE Go.Proofs.Ytchiacliefahdaa

/-- the numbers below n -/
def upTo (n : Nat) : List Int := (List.range n).map fun (i : Nat) => (i : Int)
theorem upTo_succ (n : Nat) : upTo (n + 1) = upTo n ++ [(n : Int)] := by simp [upTo, List.range_succ]
theorem upTo_len (n : Nat) : (upTo n).length = n := by simp [upTo]
theorem intsV_app (l m : List Int) : intsV (l ++ m) = intsV l ++ intsV m := by simp [intsV]
def varV (n : Int) : AV := .agg [.v (.int .i64 1), .v (.string ⟨#[]⟩), .v (.int .i64 n), .v (.slice none 0 0)]
def varT (n : Int) : Tm := .mk 1 ⟨#[]⟩ n []
theorem isT_var (n : Int) : IsT (varV n) (varT n) := .mk _ _ _ _ _ .nil
theorem var_ok (n : Int) : callW F 8 [.v (.int .i64 n)] [] = some (varV n, []) := by
  have z : (ofVal (.agg #[.int .i64 0, .string ⟨#[]⟩, .int .i64 0, .slice none 0 0])).cl = some zeroC := q9z
  have zl : toL [.int .i64 0, .string ⟨#[]⟩, .int .i64 0, .slice none 0 0] = zeroC := rfl
  have b1 : evBuild [.v (.int .i64 n), .ptr 0 0] [.v (.int .i64 n)] zeroC [(0, 1, .k (.int .i64 1)), (2, 1, .loc 0)] = some [.v (.int .i64 1), .v (.string ⟨#[]⟩), .v (.int .i64 n), .v (.slice none 0 0)] := rfl
  have st : evStore [.box zeroC] 4 (.ptr 0 0) (.agg [.v (.int .i64 1), .v (.string ⟨#[]⟩), .v (.int .i64 n), .v (.slice none 0 0)]) = some [.box [.v (.int .i64 1), .v (.string ⟨#[]⟩), .v (.int .i64 n), .v (.slice none 0 0)]] := rfl
  have ld : evLoad [.box [.v (.int .i64 1), .v (.string ⟨#[]⟩), .v (.int .i64 n), .v (.slice none 0 0)]] true 4 (.ptr 0 0) = some (varV n) := rfl
  have lf : lvf [.box [.v (.int .i64 1), .v (.string ⟨#[]⟩), .v (.int .i64 n), .v (.slice none 0 0)]] (varV n) = some (varV n, []) := rfl
  refine callW_pure (c := c8) rfl rfl 0 ?_
  simp only [c8, start, List.replicate, c8_0, c8_1, z, zl, b1, st, ld, lf, e_build, bdH_some, run_nil, run_cons, stp_plain, stp_guard, put_some, pass_eq, pick_tt, pick_ff, pick_tf, pick_ft, pick_u, reg_some, thn_normal, thn_exit, thn_ret, cnd_t, cnd_f, blk_normal, blk_ret, blk_exit, x_seq, x_region, x_cond, x_block, x_loop, x_ret, x_exit, x_skip, e_mov, e_pick, pk_t, pk_f, withH_some, e_box, e_load, e_store, stH_some, e_nil, e_bin, e_eqv, eqH_f, eqH_t, e_un, e_fa, e_ia, ia_eq, nat_eq, natV_nat, e_len, lnH_some, e_extract, ex_0, ex_1, e_call0, e_call1, e_call2, e_call3, pc0_eq, pc1_some, pc2_some, pc3_some, fin_some, g_var0, g_vars, g_loc0, g_locs, g_int, g_bool, g_str, g_sl, s_none, s_zero, s_succ, cl_nil, cl_str, cl_bool, cl_slc, cl_own, evFa, evNil, asEl, evBin, intBin, strBin, evUn, len_nil, len_slc, len_str, clr, List.length_nil, List.length_cons, List.getElem?_cons_zero, List.getElem?_cons_succ, Nat.reduceAdd, Nat.zero_add, Nat.add_zero, Nat.reduceLeDiff, Nat.reduceSub, ↓reduceIte, List.drop_succ_cons, List.drop_zero, List.take_succ_cons, List.take_zero, Bool.false_eq_true, List.nil_append, List.cons_append, Bool.not_true, Bool.not_false, cond_true, cond_false, bne, lv_ret, lv_normal, res1, res2, lv2_some, res_var, res_cell, lvf_v, lvf_slc, res1c, lvo1_some, e_mm, mm_max, mm_min, cl_agg, cl_int, g_agg, e_callv1, cv1_fn, e_slice2, e_clrrow, e_callf2, pick_und, cells_agg, Option.map_some, Option.map_none, bx_some]
def compV (s : ByteArray) (c : AV) : AV := .agg [.v (.int .i64 4), .v (.string s), .v (.int .i64 0), c]
theorem isT_comp {c : AV} {l : List Tm} (s : ByteArray) (h : IsL c l) : IsT (compV s c) (.mk 4 s 0 l) := .mk _ _ _ _ _ h
theorem comp_ok {c : AV} {l : List Tm} (s : ByteArray) (h : IsL c l) : callW F 7 [.v (.string s), c] [] = some (compV s c, []) := by
  have z : (ofVal (.agg #[.int .i64 0, .string ⟨#[]⟩, .int .i64 0, .slice none 0 0])).cl = some zeroC := q9z
  have zl : toL [.int .i64 0, .string ⟨#[]⟩, .int .i64 0, .slice none 0 0] = zeroC := rfl
  have cc : c.cl = some [c] := by cases h <;> rfl
  have st : evStore [.box zeroC] 4 (.ptr 0 0) (.agg [.v (.int .i64 4), .v (.string s), .v (.int .i64 0), c]) = some [.box [.v (.int .i64 4), .v (.string s), .v (.int .i64 0), c]] := by cases h <;> rfl
  have ld : evLoad [.box [.v (.int .i64 4), .v (.string s), .v (.int .i64 0), c]] true 4 (.ptr 0 0) = some (compV s c) := rfl
  have lf : lvf [.box [.v (.int .i64 4), .v (.string s), .v (.int .i64 0), c]] (compV s c) = some (compV s c, []) := by cases h <;> rfl
  have b1 : evBuild [.v (.string s), c, .ptr 0 0] [c, .v (.string s)] zeroC [(0, 1, .k (.int .i64 4)), (1, 1, .loc 1), (3, 1, .loc 0)] = some [.v (.int .i64 4), .v (.string s), .v (.int .i64 0), c] := by cases h <;> rfl
  refine callW_pure (c := c7) rfl rfl 0 ?_
  simp only [c7, start, List.replicate, c7_0, c7_1, z, zl, b1, st, ld, lf, e_build, bdH_some, run_nil, run_cons, stp_plain, stp_guard, put_some, pass_eq, pick_tt, pick_ff, pick_tf, pick_ft, pick_u, reg_some, thn_normal, thn_exit, thn_ret, cnd_t, cnd_f, blk_normal, blk_ret, blk_exit, x_seq, x_region, x_cond, x_block, x_loop, x_ret, x_exit, x_skip, e_mov, e_pick, pk_t, pk_f, withH_some, e_box, e_load, e_store, stH_some, e_nil, e_bin, e_eqv, eqH_f, eqH_t, e_un, e_fa, e_ia, ia_eq, nat_eq, natV_nat, e_len, lnH_some, e_extract, ex_0, ex_1, e_call0, e_call1, e_call2, e_call3, pc0_eq, pc1_some, pc2_some, pc3_some, fin_some, g_var0, g_vars, g_loc0, g_locs, g_int, g_bool, g_str, g_sl, s_none, s_zero, s_succ, cl_nil, cl_str, cl_bool, cl_slc, cl_own, evFa, evNil, asEl, evBin, intBin, strBin, evUn, len_nil, len_slc, len_str, clr, List.length_nil, List.length_cons, List.getElem?_cons_zero, List.getElem?_cons_succ, Nat.reduceAdd, Nat.zero_add, Nat.add_zero, Nat.reduceLeDiff, Nat.reduceSub, ↓reduceIte, List.drop_succ_cons, List.drop_zero, List.take_succ_cons, List.take_zero, Bool.false_eq_true, List.nil_append, List.cons_append, Bool.not_true, Bool.not_false, cond_true, cond_false, bne, lv_ret, lv_normal, res1, res2, lv2_some, res_var, res_cell, lvf_v, lvf_slc, res1c, lvo1_some, e_mm, mm_max, mm_min, cl_agg, cl_int, g_agg, e_callv1, cv1_fn, e_slice2, e_clrrow, e_callf2, pick_und, cells_agg, Option.map_some, Option.map_none, bx_some]

def K3 : List Bool := [true, true, false, true, false, true, true, false, false, false, false, false, false, true, true, false]
def V3 (c nv acc : AV) (len i : Int) (x7 x15 : AV) : List AV := [c, nv, .junk, .ptr 0 0, .junk, .v (.bool true), acc, x7, .junk, .junk, .junk, .junk, .junk, .v (.int .i64 len), .v (.int .i64 i), x15]
theorem vars_loop {K n : Nat} {c nv : AV} {cs : List AV} (hn : n ≤ 60) (hK : n < K) (h : List AO) (hb : h[0]? = some (.box cs)) (v : List AV) (hv : clr K3 v = V3 c nv (.v (.slice none 0 0)) n 0 .junk .junk) :
    ∃ acc x7 h', loopN (exec (callW F) K c3_10) K3 K v h = some (.exit 0, V3 c nv acc n n x7 (.v (.bool false)), h') ∧ h'[0]? = some (.box cs) ∧ Acc 1 h' acc (intsV (upTo n)) := by
  obtain ⟨e, v', h', g1, g2, g3⟩ := loop_rule0 (call := callW F) (K := K) (b := c3_10) (keep := K3) (fun i v h' => ∃ acc, v = V3 c nv acc n i .junk .junk ∧ h'[0]? = some (.box cs) ∧ Acc 1 h' acc (intsV (upTo i)))
    (fun e v h' => ∃ acc x7, e = .exit 0 ∧ v = V3 c nv acc n n x7 (.v (.bool false)) ∧ h'[0]? = some (.box cs) ∧ Acc 1 h' acc (intsV (upTo n))) n (m := K) (v := v) (h := h) hK ⟨_, hv, hb, .nil⟩ (by
      rintro i v h' hi ⟨acc, rfl, hb, ha⟩
      by_cases hil : i < n
      · have hlt := lt_t hil
        have hw := wrap_succ hil (by have : maxLen = 9223372036854775807 := rfl; omega)
        have ci : (AV.v (.int .i64 (i : Int))).cl = some [.v (.int .i64 (i : Int))] := rfl
        have sn : ∀ h : List AO, (AV.v (.int .i64 (i : Int))).snap1 h = some (.v (.int .i64 (i : Int))) := fun _ => rfl
        have bsl : ∀ h : List AO, bs1 h 1 (some (.v (.int .i64 (i : Int)))) = some (.slc 1 true true [.v (.int .i64 (i : Int))], h) := fun h => bs1_some rfl rfl
        obtain ⟨acc', h2, a1, a2, a3⟩ := ha.add' (bytes := 8) (x := .slc 1 true true [.v (.int .i64 (i : Int))]) elems_one (by
          rw [intsV_len, upTo_len]; exact fits_small (by simp; omega) (by omega))
        have e1 : intsV (upTo i) ++ [.v (.int .i64 (i : Int))] = intsV (upTo (i + 1)) := by rw [upTo_succ, intsV_app]; rfl
        rw [e1] at a2
        refine ⟨.normal, V3 c nv acc' n ((i + 1 : Nat) : Int) (.v (.int .i64 i)) (.v (.bool true)), h2, ?_, hil, acc', rfl, a3.box hb, a2⟩
        simp only [V3, c3_10, c3_6, c3_7, c3_8, c3_9, hlt, hw, sn, bsl, a1, e_bslice1, e_append, run_nil, run_cons, stp_plain, stp_guard, put_some, pass_eq, pick_tt, pick_ff, pick_tf, pick_ft, pick_u, reg_some, thn_normal, thn_exit, thn_ret, cnd_t, cnd_f, blk_normal, blk_ret, blk_exit, x_seq, x_region, x_cond, x_block, x_loop, x_ret, x_exit, x_skip, e_mov, e_pick, pk_t, pk_f, withH_some, e_box, e_load, e_store, stH_some, e_nil, e_bin, e_eqv, eqH_f, eqH_t, e_un, e_fa, e_ia, ia_eq, nat_eq, natV_nat, e_len, lnH_some, e_extract, ex_0, ex_1, e_call0, e_call1, e_call2, e_call3, pc0_eq, pc1_some, pc2_some, pc3_some, fin_some, g_var0, g_vars, g_loc0, g_locs, g_int, g_bool, g_str, g_sl, s_none, s_zero, s_succ, cl_nil, cl_str, cl_bool, cl_slc, cl_own, evFa, evNil, asEl, evBin, intBin, strBin, evUn, len_nil, len_slc, len_str, clr, List.length_nil, List.length_cons, List.getElem?_cons_zero, List.getElem?_cons_succ, Nat.reduceAdd, Nat.zero_add, Nat.add_zero, Nat.reduceLeDiff, Nat.reduceSub, ↓reduceIte, List.drop_succ_cons, List.drop_zero, List.take_succ_cons, List.take_zero, Bool.false_eq_true, List.nil_append, List.cons_append, Bool.not_true, Bool.not_false, cond_true, cond_false, bne, lv_ret, lv_normal, res1, res2, lv2_some, res_var, res_cell, lvf_v, lvf_slc, res1c, lvo1_some, e_mm, mm_max, mm_min, cl_agg, cl_int, g_agg, e_callv1, cv1_fn, e_slice2, e_clrrow, e_callf2, pick_und, cells_agg, Option.map_some, Option.map_none, bx_some]
      · have hie : i = n := by omega
        subst hie
        have hlt := lt_f (n := i)
        refine ⟨.exit 0, V3 c nv acc i i .junk (.v (.bool false)), h', ?_, acc, .junk, rfl, rfl, hb, ha⟩
        simp only [V3, c3_10, c3_6, hlt, run_nil, run_cons, stp_plain, stp_guard, put_some, pass_eq, pick_tt, pick_ff, pick_tf, pick_ft, pick_u, reg_some, thn_normal, thn_exit, thn_ret, cnd_t, cnd_f, blk_normal, blk_ret, blk_exit, x_seq, x_region, x_cond, x_block, x_loop, x_ret, x_exit, x_skip, e_mov, e_pick, pk_t, pk_f, withH_some, e_box, e_load, e_store, stH_some, e_nil, e_bin, e_eqv, eqH_f, eqH_t, e_un, e_fa, e_ia, ia_eq, nat_eq, natV_nat, e_len, lnH_some, e_extract, ex_0, ex_1, e_call0, e_call1, e_call2, e_call3, pc0_eq, pc1_some, pc2_some, pc3_some, fin_some, g_var0, g_vars, g_loc0, g_locs, g_int, g_bool, g_str, g_sl, s_none, s_zero, s_succ, cl_nil, cl_str, cl_bool, cl_slc, cl_own, evFa, evNil, asEl, evBin, intBin, strBin, evUn, len_nil, len_slc, len_str, clr, List.length_nil, List.length_cons, List.getElem?_cons_zero, List.getElem?_cons_succ, Nat.reduceAdd, Nat.zero_add, Nat.add_zero, Nat.reduceLeDiff, Nat.reduceSub, ↓reduceIte, List.drop_succ_cons, List.drop_zero, List.take_succ_cons, List.take_zero, Bool.false_eq_true, List.nil_append, List.cons_append, Bool.not_true, Bool.not_false, cond_true, cond_false, bne, lv_ret, lv_normal, res1, res2, lv2_some, res_var, res_cell, lvf_v, lvf_slc, res1c, lvo1_some, e_mm, mm_max, mm_min, cl_agg, cl_int, g_agg, e_callv1, cv1_fn, e_slice2, e_clrrow, e_callf2, pick_und, cells_agg, Option.map_some, Option.map_none, bx_some])
  obtain ⟨acc, x7, rfl, rfl, h1, h2⟩ := g3
  exact ⟨acc, x7, h', g1, h1, h2⟩

theorem clash_var1 (n : Int) (t : Tm) : clashT (varT n) t = false := by
  cases t; rfl
theorem clash_var2 (n : Int) (t : Tm) : clashT t (varT n) = false := by
  cases t; simp [clashT, varT]
theorem keep_all {p : List Cl} {t : Tm} {l : List Int} (h : ∀ i ∈ l, dropsT p t i = false) : keepT p t l = l := by
  unfold keepT
  rw [List.filter_eq_self]
  intro i hi
  simp [h i hi]
theorem drops_var (p : List Cl) (n i : Int) : dropsT p (varT n) i = false := by
  unfold dropsT
  split
  · rfl
  · split
    · rfl
    · split
      · rfl
      · exact clash_var1 n _
theorem keeps_var (p : List Cl) (l : List Int) (k : Int) (s : ByteArray) (n m : Int) (ts : List Tm) : keepsT p l [] (.mk k s m (varT n :: ts)) = l := by
  have hw : walkT [] 1996 (varT n) = (varT n, 0, 1996) := rfl
  simp only [keepsT, argsT, hw, if_true]
  exact keep_all fun i _ => drops_var p n i
theorem walk_none (f : Nat) (t : Tm) : walkT [] f t = (t, 0, f) := by
  have hb : bound [] t = none := by cases t; simp [bound, lookT]
  cases f <;> simp [walkT, hb]
theorem keeps_last (p : List Cl) (q : Cl) (n : Int) (ts us : List Tm) (g : Tm) (k m k' m' : Int) (s s' : ByteArray) (hq : q.hd = .mk k s m (varT n :: ts)) : keepsT (p ++ [q]) [(p.length : Int)] [] (.mk k' s' m' (g :: us)) = [(p.length : Int)] := by
  simp only [keepsT, argsT, walk_none, if_true]
  refine keep_all fun i hi => ?_
  obtain rfl : i = (p.length : Int) := by simpa using hi
  have h1 : ¬ ((p.length : Int) < 0) := by omega
  have h2 : (p ++ [q])[((p.length : Int)).toNat]? = some q := by simp
  simp only [dropsT, if_neg h1, h2, hq, argsT]
  exact clash_var2 n g

theorem vars_ok {c a : AV} {p : List Cl} {n : Int} {g : Tm} (hp : IsS 6 IsCl c p) (ha : IsT a g) : callW F 3 [c, .v (.int .i64 n), a] [] = some (.v (.bool true), []) := by
  have hlive := live_ok
  have hbts : IsL (.slc 4 true true [a]) [g] := .slc _ _ _ _ (.one ha) (by simp [maxLen])
  obtain ⟨bg, hbg, hbl⟩ := big_ok hp .nil hbts
  obtain ⟨es, hes, hcl, hmax⟩ := hp
  have hp : IsS 6 IsCl c p := ⟨es, hes, hcl, hmax⟩
  have sc : ∀ h : List AO, c.snap1 h = some c := fun h => hes.snap h
  have nc := fun h : List AO => hes.len h
  have sa := fun h : List AO => ha.snap (h := h)
  have sn : ∀ h : List AO, (AV.v (.slice none 0 0)).snap1 h = some (.v (.slice none 0 0)) := fun _ => rfl
  have snn : ∀ h : List AO, (AV.v (.int .i64 n)).snap1 h = some (.v (.int .i64 n)) := fun _ => rfl
  have st : ∀ h : List AO, (AV.slc 4 true true [a]).snap1 h = some (.slc 4 true true [a]) := fun _ => rfl
  have cla := ha.cl.1
  have cla2 := ha.cl.2
  have ll : ∀ h : List AO, h[0]? = some (.box a.cells) → evLoad h true 4 (.ptr 0 0) = some a := fun h hb => by
    have := ha.ld []
    have e1 : evLoad h true 4 (.ptr 0 0) = evLoad [.box a.cells] true 4 (.ptr 0 0) := by simp only [evLoad, hb]; rfl
    rw [e1]; cases ha; rfl
  have ll0 := ll [.box a.cells] rfl
  have bsl : ∀ h : List AO, bs1 h 4 (some a) = some (.slc 4 true true [a], h) := fun h => bs1_some ha.cl.1 ha.cl.2
  have st3 : start c3 [c, .v (.int .i64 n), a] = [c, .v (.int .i64 n), a, .v undef, .v undef, .v undef, .v undef, .v undef, .v undef, .v undef, .v undef, .v undef, .v undef, .v undef, .v undef, .v undef] := rfl
  cases bg with
  | true =>
    refine callW_pure (c := c3) rfl rfl 0 ?_
    simp only [c3, start, List.replicate, c3_0, c3_1, c3_2, c3_3, hlive, hbg, cla, ll0, bsl, sc, sa, st, sn, e_bslice1, run_nil, run_cons, stp_plain, stp_guard, put_some, pass_eq, pick_tt, pick_ff, pick_tf, pick_ft, pick_u, reg_some, thn_normal, thn_exit, thn_ret, cnd_t, cnd_f, blk_normal, blk_ret, blk_exit, x_seq, x_region, x_cond, x_block, x_loop, x_ret, x_exit, x_skip, e_mov, e_pick, pk_t, pk_f, withH_some, e_box, e_load, e_store, stH_some, e_nil, e_bin, e_eqv, eqH_f, eqH_t, e_un, e_fa, e_ia, ia_eq, nat_eq, natV_nat, e_len, lnH_some, e_extract, ex_0, ex_1, e_call0, e_call1, e_call2, e_call3, pc0_eq, pc1_some, pc2_some, pc3_some, fin_some, g_var0, g_vars, g_loc0, g_locs, g_int, g_bool, g_str, g_sl, s_none, s_zero, s_succ, cl_nil, cl_str, cl_bool, cl_slc, cl_own, evFa, evNil, asEl, evBin, intBin, strBin, evUn, len_nil, len_slc, len_str, clr, List.length_nil, List.length_cons, List.getElem?_cons_zero, List.getElem?_cons_succ, Nat.reduceAdd, Nat.zero_add, Nat.add_zero, Nat.reduceLeDiff, Nat.reduceSub, ↓reduceIte, List.drop_succ_cons, List.drop_zero, List.take_succ_cons, List.take_zero, Bool.false_eq_true, List.nil_append, List.cons_append, Bool.not_true, Bool.not_false, cond_true, cond_false, bne, lv_ret, lv_normal, res1, res2, lv2_some, res_var, res_cell, lvf_v, lvf_slc, res1c, lvo1_some, e_mm, mm_max, mm_min, cl_agg, cl_int, g_agg, e_callv1, cv1_fn, e_slice2, e_clrrow, e_callf2, pick_und, cells_agg, Option.map_some, Option.map_none, bx_some]
  | false =>
  obtain ⟨hpl, _⟩ := hbl rfl
  have hel : es.length = p.length := hcl.length
  obtain ⟨acc, x7, h1, g1, g2, g3⟩ := vars_loop (K := 100) (n := p.length) (c := c) (nv := .v (.int .i64 n)) (cs := a.cells) hpl (by omega) [.box a.cells] rfl [c, .v (.int .i64 n), a, .ptr 0 0, .v (.bool false), .v (.bool true), .v (.slice none 0 0), .v undef, .v undef, .v undef, .v undef, .v undef, .v (.bool false), .v (.int .i64 p.length), .v (.int .i64 0), .v undef] rfl
  -- the clauses and one more
  obtain ⟨m1, h2, b1, b2, b3⟩ := (Acc.nil (sz := 6) (h := h1)).add' (bytes := 88) (x := c) (hes.elems h1) (by
    rw [hel]; exact fits_small (by simp; omega) (by omega))
  have p2 := b3.box g2
  have l2 := ll h2 p2
  have hv := var_ok n
  have bv : ∀ h : List AO, bs2 h 4 (some (varV n)) (some a) = some (.slc 4 true true [varV n, a], h) := fun h => by
    simp only [bs2, varV, cl_agg]; simp [cla, cla2]
  have bv2 : ∀ h : List AO, bs2 h 4 (some a) (some a) = some (.slc 4 true true [a, a], h) := fun h => by
    simp [bs2, cla, cla2]
  have sv : ∀ h : List AO, (varV n).snap1 h = some (varV n) := fun _ => rfl
  have hgl : IsL (.slc 4 true true [varV n, a]) [varT n, g] := .slc _ _ _ _ (.cons _ _ _ _ (isT_var n) (.one ha)) (by simp [maxLen])
  have hgl2 : IsL (.slc 4 true true [a, a]) [g, g] := .slc _ _ _ _ (.cons _ _ _ _ ha (.one ha)) (by simp [maxLen])
  have hc1 := comp_ok ⟨#[112]⟩ hgl
  have hc2 := comp_ok ⟨#[112]⟩ hgl2
  have ss : ∀ h : List AO, (AV.v (.string ⟨#[112]⟩)).snap1 h = some (.v (.string ⟨#[112]⟩)) := fun _ => rfl
  have st2 : ∀ h : List AO, (AV.slc 4 true true [varV n, a]).snap1 h = some (.slc 4 true true [varV n, a]) := fun _ => rfl
  have st4 : ∀ h : List AO, (AV.slc 4 true true [a, a]).snap1 h = some (.slc 4 true true [a, a]) := fun _ => rfl
  obtain ⟨q, hqd⟩ : ∃ q : AV, AV.agg [.v (.int .i64 4), .v (.string ⟨#[112]⟩), .v (.int .i64 0), .slc 4 true true [varV n, a], .v (.slice none 0 0), .v (.int .i64 0)] = q := ⟨_, rfl⟩
  have hq : IsCl q ⟨.mk 4 ⟨#[112]⟩ 0 [varT n, g], [], 0⟩ := hqd ▸ .mk _ _ _ _ _ hgl _ _ .nil _
  have z6 : toL [.int .i64 0, .string ⟨#[]⟩, .int .i64 0, .slice none 0 0, .slice none 0 0, .int .i64 0] = [.v (.int .i64 0), .v (.string ⟨#[]⟩), .v (.int .i64 0), .v (.slice none 0 0), .v (.slice none 0 0), .v (.int .i64 0)] := rfl
  have sq : ∀ h : List AO, q.snap1 h = some q := fun _ => hqd ▸ rfl
  have bq0 : ∀ h : List AO, bdH h (some [.v (.int .i64 4), .v (.string ⟨#[112]⟩), .v (.int .i64 0), .slc 4 true true [varV n, a], .v (.slice none 0 0), .v (.int .i64 0)]) = some (q, h) := fun _ => hqd ▸ rfl
  have bq : ∀ h : List AO, bs1 h 6 (some q) = some (.slc 6 true true [q], h) := fun h => hqd ▸ bs1_some rfl rfl
  obtain ⟨m2, h3, d1, d2, d3⟩ := b2.add' (bytes := 88) (x := .slc 6 true true [q]) elems_one (by
    simp only [List.nil_append, hel]; exact fits_small (by simp; omega) (by omega))
  simp only [List.nil_append] at d2
  have p3 := d3.box p2
  have l3 := ll h3 p3
  have g4 : Acc 1 h3 acc (intsV (upTo p.length)) := (g3.oth b3 (by decide)).oth d3 (by decide)
  -- the numbers and one more
  have sl : ∀ h : List AO, (AV.v (.int .i64 (p.length : Int))).snap1 h = some (.v (.int .i64 (p.length : Int))) := fun _ => rfl
  have bl : ∀ h : List AO, bs1 h 1 (some (.v (.int .i64 (p.length : Int)))) = some (.slc 1 true true [.v (.int .i64 (p.length : Int))], h) := fun h => bs1_some rfl rfl
  obtain ⟨acc2, h4, f1, f2, f3⟩ := g4.add' (bytes := 8) (x := .slc 1 true true [.v (.int .i64 (p.length : Int))]) elems_one (by
    rw [intsV_len, upTo_len]; exact fits_small (by simp; omega) (by omega))
  have f2e : intsV (upTo p.length) ++ [.v (.int .i64 (p.length : Int))] = intsV (upTo (p.length + 1)) := by rw [upTo_succ, intsV_app]; rfl
  rw [f2e] at f2
  have p4 := f3.box p3
  have l4 := ll h4 p4
  have d4 : Acc 6 h4 m2 (es ++ [q]) := d2.oth f3 (by decide)
  have hp2 : AllR IsCl (es ++ [q]) (p ++ [⟨.mk 4 ⟨#[112]⟩ 0 [varT n, g], [], 0⟩]) := hcl.app (.one hq)
  -- what is handed on
  obtain ⟨x1, x2⟩ := d4.fxd
  have f4 : Acc 1 (raise1 h4 m2) acc2 (intsV (upTo (p.length + 1))) := f2.oth x2 (by decide)
  obtain ⟨x3, x4⟩ := f4.fxd
  have x5 := x1.oth x4 (by decide)
  obtain ⟨m3, y1, y2⟩ := x5.snap
  obtain ⟨l5, y3, y4⟩ := x3.snap
  have mle : (es ++ [q]).length ≤ maxLen := by have : maxLen = 9223372036854775807 := rfl; simp; omega
  have mll : (intsV (upTo (p.length + 1))).length ≤ maxLen := by have : maxLen = 9223372036854775807 := rfl; rw [intsV_len, upTo_len]; omega
  have cg : IsT (compV ⟨#[112]⟩ (.slc 4 true true [varV n, a])) (.mk 4 ⟨#[112]⟩ 0 [varT n, g]) := isT_comp _ hgl
  have cg2 : IsT (compV ⟨#[112]⟩ (.slc 4 true true [a, a])) (.mk 4 ⟨#[112]⟩ 0 [g, g]) := isT_comp _ hgl2
  obtain ⟨r, hr, hk⟩ := keep_ok (c := m3) (x := l5) (b := .v (.slice none 0 0)) (bs := []) ⟨_, y2, hp2, mle⟩ (by simp; omega) ⟨_, y4, allR_ints _, mll⟩ (by rw [upTo_len]; omega) .nil (by simp) cg
  rw [List.reverse_nil, keeps_var] at hr
  have ra : ∀ {a : AV} {g : Tm}, IsT a g → ∀ h, raise1 h a = h := by
    intro a g ha h
    cases ha with
    | mk k s n c l hc => cases hc <;> rfl
  have rn : ∀ h, raise1 h (.v (.slice none 0 0)) = h := fun _ => rfl
  have sg := fun h : List AO => cg.snap (h := h)
  have sg2 := fun h : List AO => cg2.snap (h := h)
  have cf1 : cf (callW F) 9 h4 [m2, acc2, .v (.slice none 0 0), compV ⟨#[112]⟩ (.slc 4 true true [varV n, a])] = some (r, raise1 (raise1 h4 m2) acc2) :=
    cf_of (by simp only [List.foldl_cons, List.foldl_nil, rn, ra cg]) (by simp [y1, y3, sn, sg]) hk
  have x6 := x5.acc
  have p5 := x4.box (x2.box p4)
  generalize raise1 (raise1 h4 m2) acc2 = h5 at cf1 x6 p5
  have l5' := ll h5 p5
  obtain ⟨x7', x8⟩ := x6.fxd
  obtain ⟨m4, y5, y6⟩ := x7'.snap
  have hl1 : IsS 1 IsI (.slc 1 true true [.v (.int .i64 (p.length : Int))]) [(p.length : Int)] := ⟨_, .slc _ _ _, allR_ints [(p.length : Int)], by simp [maxLen]⟩
  obtain ⟨r2, hr2, hk2⟩ := keep_ok (c := m4) (b := .v (.slice none 0 0)) (bs := []) ⟨_, y6, hp2, mle⟩ (by simp; omega) hl1 (by simp) .nil (by simp) cg2
  rw [List.reverse_nil, keeps_last _ _ n _ _ _ _ _ _ _ _ _ rfl] at hr2
  have cf2 : cf (callW F) 9 h5 [m2, .slc 1 true true [.v (.int .i64 (p.length : Int))], .v (.slice none 0 0), compV ⟨#[112]⟩ (.slc 4 true true [a, a])] = some (r2, raise1 h5 m2) :=
    cf_of (by simp only [List.foldl_cons, List.foldl_nil, rn, ra cg2]; rfl) (by simp [y5, sn, sg2]; rfl) hk2
  obtain ⟨rs, s1, s2, _⟩ := hr
  obtain ⟨rs2, s3, s4, _⟩ := hr2
  have e1 := ints_of s2
  have e2 := ints_of s4
  subst e1 e2
  have n1 := fun h : List AO => s1.len h
  have n2 := fun h : List AO => s3.len h
  simp only [intsV_len, upTo_len] at n1 n2
  have q1 := fun h : List AO => s3.ia (i := 0) (e := .v (.int .i64 (p.length : Int))) rfl h
  have q3 : ∀ (h : List AO) (n : Int), evLoad h false 1 (.ip (AV.v (.int .i64 n)).cells) = some (.v (.int .i64 n)) := fun _ _ => rfl
  have hw := wrap_succ (i := p.length) (len := p.length + 1) (by omega) (by have : maxLen = 9223372036854775807 := rfl; omega)
  have z0 : natV (.v (.int .i64 0)) = some 0 := rfl
  have ap : ∀ x0 x1 x2 l, apB (x0 :: x1 :: x2 :: .ptr 0 0 :: l) (none, 3) = true := fun _ _ _ _ => rfl
  have n11 : ((((1 : Nat) : Int)) == 1) = true := rfl
  have ccv : (compV ⟨#[112]⟩ (.slc 4 true true [varV n, a])).cl = some [.v (.int .i64 4), .v (.string ⟨#[112]⟩), .v (.int .i64 0), .slc 4 true true [varV n, a]] := rfl
  have b6 : ∀ (vars : List AV) (env : List AV), bd1 vars env [.v (.int .i64 0), .v (.string ⟨#[]⟩), .v (.int .i64 0), .v (.slice none 0 0), .v (.slice none 0 0), .v (.int .i64 0)] 0 4 [] (some [.v (.int .i64 4), .v (.string ⟨#[112]⟩), .v (.int .i64 0), .slc 4 true true [varV n, a]]) = some [.v (.int .i64 4), .v (.string ⟨#[112]⟩), .v (.int .i64 0), .slc 4 true true [varV n, a], .v (.slice none 0 0), .v (.int .i64 0)] := fun _ _ => rfl
  rw [hel] at nc
  refine callW_pure (c := c3) rfl rfl 100 ?_
  rw [show c3.body = (.seq (.region [] [] c3_0) (.seq (.region [] [] c3_1) (.seq (.seq (.region [] [] c3_2) (.cond (.var 12) (.seq (.region [] [] c3_3) .ret) .skip)) (.seq (.region [] [] c3_4) (.seq (.seq (.region [] [] c3_5) (.block 0 (.loop K3 [] c3_10))) (.seq (.region [] [(none, 3)] c3_11) (.seq (.region [] [] c3_12) (.seq (.region [] [(none, 3)] c3_13) (.seq (.region [] [] c3_14) (.seq (.region [] [] c3_15) .ret)))))))))) from rfl, st3, show c3.res = [.var 4] from rfl]
  generalize c3_10 = bb at g1 ⊢
  simp only [c3_0, c3_1, c3_2, c3_4, c3_5, hlive, hbg, cla, ll0, bsl, sc, sa, st, sn, nc, g1, V3, e_bslice1, run_nil, run_cons, stp_plain, stp_guard, put_some, pass_eq, pick_tt, pick_ff, pick_tf, pick_ft, pick_u, reg_some, thn_normal, thn_exit, thn_ret, cnd_t, cnd_f, blk_normal, blk_ret, blk_exit, x_seq, x_region, x_cond, x_block, x_loop, x_ret, x_exit, x_skip, e_mov, e_pick, pk_t, pk_f, withH_some, e_box, e_load, e_store, stH_some, e_nil, e_bin, e_eqv, eqH_f, eqH_t, e_un, e_fa, e_ia, ia_eq, nat_eq, natV_nat, e_len, lnH_some, e_extract, ex_0, ex_1, e_call0, e_call1, e_call2, e_call3, pc0_eq, pc1_some, pc2_some, pc3_some, fin_some, g_var0, g_vars, g_loc0, g_locs, g_int, g_bool, g_str, g_sl, s_none, s_zero, s_succ, cl_nil, cl_str, cl_bool, cl_slc, cl_own, evFa, evNil, asEl, evBin, intBin, strBin, evUn, len_nil, len_slc, len_str, clr, List.length_nil, List.length_cons, List.getElem?_cons_zero, List.getElem?_cons_succ, Nat.reduceAdd, Nat.zero_add, Nat.add_zero, Nat.reduceLeDiff, Nat.reduceSub, ↓reduceIte, List.drop_succ_cons, List.drop_zero, List.take_succ_cons, List.take_zero, Bool.false_eq_true, List.nil_append, List.cons_append, Bool.not_true, Bool.not_false, cond_true, cond_false, bne, lv_ret, lv_normal, res1, res2, lv2_some, res_var, res_cell, lvf_v, lvf_slc, res1c, lvo1_some, e_mm, mm_max, mm_min, cl_agg, cl_int, g_agg, e_callv1, cv1_fn, e_slice2, e_clrrow, e_callf2, pick_und, cells_agg, Option.map_some, Option.map_none, bx_some]
  simp only [c3_11, c3_12, x_region_ap, ap, apR_t, b1, hv, l2, bv, hc1, z6, b6, ccv, bd_cons, snn, sv, sa, ss, st2, sq, bq, d1, nc, bq0, e_bslice1, e_bslice2, e_append, e_build, run_nil, run_cons, stp_plain, stp_guard, put_some, pass_eq, pick_tt, pick_ff, pick_tf, pick_ft, pick_u, reg_some, thn_normal, thn_exit, thn_ret, cnd_t, cnd_f, blk_normal, blk_ret, blk_exit, x_seq, x_region, x_cond, x_block, x_loop, x_ret, x_exit, x_skip, e_mov, e_pick, pk_t, pk_f, withH_some, e_box, e_load, e_store, stH_some, e_nil, e_bin, e_eqv, eqH_f, eqH_t, e_un, e_fa, e_ia, ia_eq, nat_eq, natV_nat, e_len, lnH_some, e_extract, ex_0, ex_1, e_call0, e_call1, e_call2, e_call3, pc0_eq, pc1_some, pc2_some, pc3_some, fin_some, g_var0, g_vars, g_loc0, g_locs, g_int, g_bool, g_str, g_sl, s_none, s_zero, s_succ, cl_nil, cl_str, cl_bool, cl_slc, cl_own, evFa, evNil, asEl, evBin, intBin, strBin, evUn, len_nil, len_slc, len_str, clr, List.length_nil, List.length_cons, List.getElem?_cons_zero, List.getElem?_cons_succ, Nat.reduceAdd, Nat.zero_add, Nat.add_zero, Nat.reduceLeDiff, Nat.reduceSub, ↓reduceIte, List.drop_succ_cons, List.drop_zero, List.take_succ_cons, List.take_zero, Bool.false_eq_true, List.nil_append, List.cons_append, Bool.not_true, Bool.not_false, cond_true, cond_false, bne, lv_ret, lv_normal, res1, res2, lv2_some, res_var, res_cell, lvf_v, lvf_slc, res1c, lvo1_some, e_mm, mm_max, mm_min, cl_agg, cl_int, g_agg, e_callv1, cv1_fn, e_slice2, e_clrrow, e_callf2, pick_und, cells_agg, Option.map_some, Option.map_none, bx_some]
  simp only [c3_13, c3_14, x_region_ap, ap, apR_t, bl, sl, f1, hv, l4, bv, bv2, hc1, hc2, snn, sv, sa, ss, st2, st4, cf1, cf2, l5', e_callf, e_bslice1, e_bslice2, e_append, List.map_cons, List.map_nil, run_nil, run_cons, stp_plain, stp_guard, put_some, pass_eq, pick_tt, pick_ff, pick_tf, pick_ft, pick_u, reg_some, thn_normal, thn_exit, thn_ret, cnd_t, cnd_f, blk_normal, blk_ret, blk_exit, x_seq, x_region, x_cond, x_block, x_loop, x_ret, x_exit, x_skip, e_mov, e_pick, pk_t, pk_f, withH_some, e_box, e_load, e_store, stH_some, e_nil, e_bin, e_eqv, eqH_f, eqH_t, e_un, e_fa, e_ia, ia_eq, nat_eq, natV_nat, e_len, lnH_some, e_extract, ex_0, ex_1, e_call0, e_call1, e_call2, e_call3, pc0_eq, pc1_some, pc2_some, pc3_some, fin_some, g_var0, g_vars, g_loc0, g_locs, g_int, g_bool, g_str, g_sl, s_none, s_zero, s_succ, cl_nil, cl_str, cl_bool, cl_slc, cl_own, evFa, evNil, asEl, evBin, intBin, strBin, evUn, len_nil, len_slc, len_str, clr, List.length_nil, List.length_cons, List.getElem?_cons_zero, List.getElem?_cons_succ, Nat.reduceAdd, Nat.zero_add, Nat.add_zero, Nat.reduceLeDiff, Nat.reduceSub, ↓reduceIte, List.drop_succ_cons, List.drop_zero, List.take_succ_cons, List.take_zero, Bool.false_eq_true, List.nil_append, List.cons_append, Bool.not_true, Bool.not_false, cond_true, cond_false, bne, lv_ret, lv_normal, res1, res2, lv2_some, res_var, res_cell, lvf_v, lvf_slc, res1c, lvo1_some, e_mm, mm_max, mm_min, cl_agg, cl_int, g_agg, e_callv1, cv1_fn, e_slice2, e_clrrow, e_callf2, pick_und, cells_agg, Option.map_some, Option.map_none, bx_some]
  simp only [c3_15, n1, n2, q1, q3, z0, n11, hw, beq_self_eq_true, run_nil, run_cons, stp_plain, stp_guard, put_some, pass_eq, pick_tt, pick_ff, pick_tf, pick_ft, pick_u, reg_some, thn_normal, thn_exit, thn_ret, cnd_t, cnd_f, blk_normal, blk_ret, blk_exit, x_seq, x_region, x_cond, x_block, x_loop, x_ret, x_exit, x_skip, e_mov, e_pick, pk_t, pk_f, withH_some, e_box, e_load, e_store, stH_some, e_nil, e_bin, e_eqv, eqH_f, eqH_t, e_un, e_fa, e_ia, ia_eq, nat_eq, natV_nat, e_len, lnH_some, e_extract, ex_0, ex_1, e_call0, e_call1, e_call2, e_call3, pc0_eq, pc1_some, pc2_some, pc3_some, fin_some, g_var0, g_vars, g_loc0, g_locs, g_int, g_bool, g_str, g_sl, s_none, s_zero, s_succ, cl_nil, cl_str, cl_bool, cl_slc, cl_own, evFa, evNil, asEl, evBin, intBin, strBin, evUn, len_nil, len_slc, len_str, clr, List.length_nil, List.length_cons, List.getElem?_cons_zero, List.getElem?_cons_succ, Nat.reduceAdd, Nat.zero_add, Nat.add_zero, Nat.reduceLeDiff, Nat.reduceSub, ↓reduceIte, List.drop_succ_cons, List.drop_zero, List.take_succ_cons, List.take_zero, Bool.false_eq_true, List.nil_append, List.cons_append, Bool.not_true, Bool.not_false, cond_true, cond_false, bne, lv_ret, lv_normal, res1, res2, lv2_some, res_var, res_cell, lvf_v, lvf_slc, res1c, lvo1_some, e_mm, mm_max, mm_min, cl_agg, cl_int, g_agg, e_callv1, cv1_fn, e_slice2, e_clrrow, e_callf2, pick_und, cells_agg, Option.map_some, Option.map_none, bx_some]
end Go.AE.Ytchiacliefahdaa
end

/-! What comes in, out of its types. -/
section
set_option linter.unusedVariables false
namespace Go.AE.Ytchiacliefahdaa
open Go Go.AE Go.Proofs.Ytchiacliefahdaa
theorem tmTy : TmTy T 3 9 2 25 23 := ⟨⟨_, rfl, rfl⟩, ⟨_, rfl, rfl⟩, ⟨_, rfl, rfl⟩, ⟨_, _, _, _, _, rfl, rfl, rfl, rfl, rfl, rfl, rfl, rfl⟩, ⟨_, rfl, rfl⟩⟩
theorem cls_in {a : AV} (w : WT T 22 a.cells) (e : asEl ti22.agg a.cells = some a) : ∃ p, IsS 6 IsCl a p := by
  obtain ⟨c, l, h, hl⟩ := wt_cls tmTy (tC := 32) (tCs := 22) rfl rfl rfl rfl rfl rfl rfl rfl rfl w
  rw [one_cell e h]; exact ⟨l, hl⟩
theorem ints_in {a : AV} (w : WT T 28 a.cells) (e : asEl ti28.agg a.cells = some a) : ∃ p, IsS 1 IsI a p := by
  obtain ⟨c, l, h, hl⟩ := wt_ints (t := 28) (e := 3) rfl rfl rfl rfl rfl rfl w
  rw [one_cell e h]; exact ⟨l, hl⟩
theorem binds_in {a : AV} (w : WT T 35 a.cells) (e : asEl ti35.agg a.cells = some a) : ∃ p, IsB a p := by
  obtain ⟨c, l, h, hl⟩ := wt_binds tmTy (tB := 41) (tBs := 35) rfl rfl rfl rfl rfl rfl rfl rfl w
  rw [one_cell e h]; exact ⟨l, hl⟩
theorem term_in {a : AV} (w : WT T 25 a.cells) (e : asEl ti25.agg a.cells = some a) : ∃ p, IsT a p := by
  obtain ⟨x, hx⟩ := tmTy.term w
  rw [agg_cells e]; exact ⟨x, hx⟩
theorem int_in {a : AV} (w : WT T 2 a.cells) (e : asEl ti2.agg a.cells = some a) : ∃ n : Int, a = .v (.int .i64 n) ∧ (Lit.int .i64 n).wf = true := by
  obtain ⟨n, h, hn⟩ := wt_int_of (t := 2) (k := .i64) rfl rfl w
  exact ⟨n, one_cell e h, hn⟩
end Go.AE.Ytchiacliefahdaa
end

/-! What all rows of this program need. -/
section
set_option linter.unusedVariables false
namespace Go.Proofs.Ytchiacliefahdaa
open Go Go.AE Go.Proofs Go.ChangeShapes Go.WideShapes Go.ChangeAt Go.RowKit
open Go.ChangeMaps (open_string shut_string)

theorem own : ownKnob Try.prog.godebug = none := by kernel_rfl
theorem laidOut : laidOutB Try.prog = true := by kernel_rfl
theorem mixed : Try.prog.follows .mixedOrders = true := by kernel_rfl
def G : List TypeId := [2, 3, 9, 22, 23, 25, 28, 32, 35, 41]
theorem hG : goodB T G = true := by kernel_rfl

/-- What a call comes to that is handed what came in. -/
theorem law_calls {f : FuncId} {args : List AV} {vals : Array Value} {W : World} (hK : K W.heap.size W) (ha : ArgsRep (AllCells W) W [] args vals) {n : Nat} (he : callN F n f args [] = some (.v (.bool true), [])) :
    Calls Try.prog f vals W fun e W' => e = .returned (.bool true) ∧ Below W.heap.size W W' := by
  have hI : AE.Inv W.heap.size W (AllCells W) [] W [] := ⟨Below.refl _ _, Nat.le_refl _, rfl, fun id o L h => by simp at h, fun id L h => by simp at h, fun i j Li Lj h => by simp at h, fun b x h => h⟩
  refine ((callN_ok mixed hT hKs hF n W.heap.size W hK).calls f args [] _ _ he (AllCells W) [] W vals hI ha).mono fun e W' h => ?_
  obtain ⟨v, I', σ', rfl, hI', _, hr⟩ := h
  cases hr
  exact ⟨rfl, hI'.below⟩
end Go.Proofs.Ytchiacliefahdaa
end

/-! The row of IndexVars, out of its plain law. -/
section
set_option linter.unusedVariables false
namespace Go.Proofs.Ytchiacliefahdaa
open Go Go.AE Go.Proofs Go.ChangeShapes Go.WideShapes Go.ChangeAt Go.RowKit
open Go.ChangeMaps (open_string shut_string)
namespace indexVars
theorem args {I : Cells} {W : World} {a0 a1 a2 : AV} {v0 v1 v2 : Value} (r0 : Rep I W [] a0 v0) (r1 : Rep I W [] a1 v1) (r2 : Rep I W [] a2 v2) : ArgsRep I W [] [a0, a1, a2] #[v0, v1, v2] := by
  refine ⟨rfl, fun i a h => ?_⟩
  match i, h with
  | 0, h => cases h; exact r0
  | 1, h => cases h; exact r1
  | 2, h => cases h; exact r2
def Plain : Prop := ∀ a0 a1 a2 : AV, WT T 22 a0.cells → asEl ti22.agg a0.cells = some a0 → WT T 2 a1.cells → asEl ti2.agg a1.cells = some a1 → WT T 25 a2.cells → asEl ti25.agg a2.cells = some a2 →
  ∃ n, callN F n 3 [a0, a1, a2] [] = some (.v (.bool true), [])

set_option maxRecDepth 100000 in
theorem lifted (plain : Plain) (os : Os) (started : os.Started) (H : Type) (enc : TypeId × Value → H) :
    ReturnsInHanded {} Try.checked os 3 .any (Rows.indexVarsSpec.pre6 enc Try.prog Try.f3 Rows.indexVarsRow.domain false) (Rows.indexVarsSpec.post enc Try.prog Try.f3 false true false false) := by
  refine returnsInHanded_of_change_sized (C := Try.checked) own started (by kernel_rfl) Try.func3
    (ChangeSpec.witness6 (enc := enc) (C := Try.checked) false ⟨#[], #[ti22.zero, ti2.zero, ti25.zero], []⟩ 8 (by kernel_rfl) (by kernel_rfl) (by kernel_rfl) (by kernel_rfl)) ?_
  intro W base args' ds gs before hval0 hW hcnd hsz0 _
  have hval : ∀ (j : Nat) t v, Try.f3.params[j]? = some t → args'[j]? = some v → Value.okWide Try.prog W .any base t v := hval0
  have hW' := hW
  obtain ⟨p, q, hA0, hV, rfl, hfz, hnd⟩ := hW
  have hA : DataW.TrodAll enc Try.prog W 0 (fun _ => true) true Try.f3.params.toList args'.toList ds p := hA0
  rw [Try.params3] at hA hval
  obtain ⟨v0, vs0, d0, ds0, p0, q0, hargs, rfl, rfl, h0, r0⟩ := trodAll_cons hA
  obtain ⟨v1, vs1, d1, ds1, p1, q1, rfl, rfl, rfl, h1, r1⟩ := trodAll_cons r0
  obtain ⟨v2, vs2, d2, ds2, p2, q2, rfl, rfl, rfl, h2, r2⟩ := trodAll_cons r1
  obtain ⟨rfl, rfl, rfl⟩ := trodAll_nil r2
  obtain rfl : args' = #[v0, v1, v2] := by cases args'; simp_all
  obtain ⟨rfl, rfl⟩ := trodVars_none hV
  obtain ⟨a0, w0, e0, x0⟩ := trod_arg hT hG (t := 22) (i := ti22) (by decide) rfl (hval 0 22 v0 rfl rfl) h0
  obtain ⟨a1, w1, e1, x1⟩ := trod_arg hT hG (t := 2) (i := ti2) (by decide) rfl (hval 1 2 v1 rfl rfl) h1
  obtain ⟨a2, w2, e2, x2⟩ := trod_arg hT hG (t := 25) (i := ti25) (by decide) rfl (hval 2 25 v2 rfl rfl) h2
  have l0 : ∀ x ∈ p0, x.block < W.heap.size := by obtain ⟨m, hm⟩ := h0; exact DataW.trod_lt m _ _ _ hm
  have l1 : ∀ x ∈ p1, x.block < W.heap.size := by obtain ⟨m, hm⟩ := h1; exact DataW.trod_lt m _ _ _ hm
  have l2 : ∀ x ∈ p2, x.block < W.heap.size := by obtain ⟨m, hm⟩ := h2; exact DataW.trod_lt m _ _ _ hm
  obtain ⟨n, hn⟩ := plain a0 a1 a2 w0 e0 w1 e1 w2 e2
  refine (law_calls trivial (args x0 x1 x2) hn).mono fun e W' ⟨he, bel⟩ => ?_
  subst he
  exact ⟨_, rfl, _, _, _, [], _, [], hW', trodAll_mk1 (shut_bool Try.underlying4 _),
    (trodAll_cons_mk (Below.trod laidOut (by kernel_rfl) (of_decide_eq_true (by kernel_rfl)) h0 bel l0) (trodAll_cons_mk (Below.trod laidOut (by kernel_rfl) (of_decide_eq_true (by kernel_rfl)) h1 bel l1) (trodAll_cons_mk (Below.trod laidOut (by kernel_rfl) (of_decide_eq_true (by kernel_rfl)) h2 bel l2) trodAll_mk0))), rfl, bel.frame _, fun h => by cases h⟩
theorem over (plain : Plain) : Rows.indexVarsRow.holds Try.pinned (OpenSpec.ofChange Rows.indexVarsSpec) :=
  OpenClaim.holds_of_wide 3 Try.f3 rfl rfl rfl rfl rfl rfl rfl ⟨rfl, rfl, rfl, rfl, rfl⟩ rfl rfl rfl rfl rfl (by kernel_rfl) Try.func3 (by kernel_rfl)
    (of_decide_eq_true (by kernel_rfl)) (by unfold Func.isWrapper; first | (rw [if_pos (by decide +kernel)]; kernel_rfl) | (rw [if_neg (by decide +kernel)]; exact ⟨rfl, rfl⟩))
    (fun os started H enc _ => lifted plain os started H enc)
theorem proved (plain : Plain) : Rows.IndexVarsSaid := over plain
end indexVars
end Go.Proofs.Ytchiacliefahdaa
end
