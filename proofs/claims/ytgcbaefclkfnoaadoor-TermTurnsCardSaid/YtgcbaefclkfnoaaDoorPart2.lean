/- Texts of this claim, put together. -/
import Derived.Test.YtgcbaefclkfnoaaDoorPart1
import Derived.Test.YtgcbaefclkfnoaaDoorEval3
import Derived.Test.YtgcbaefclkfnoaaDoorEval4
/-! Size and Deep, the program's and the document's. -/
section
set_option linter.unusedVariables false
set_option linter.unusedSimpArgs false
namespace Go.AE.YtgcbaefclkfnoaaDoor
open Go Go.AE Go.Proofs.YtgcbaefclkfnoaaDoor

mutual
def sizI : Tm → Int
  | .mk _ _ _ l => sizL l 1
def sizL : List Tm → Int → Int
  | [], m => m
  | a :: l, m => sizL l (IntKind.i64.wrap (m + sizI a))
end
mutual
def depI : Tm → Int
  | .mk _ _ _ l => IntKind.i64.wrap (depL l 0 + 1)
def depL : List Tm → Int → Int
  | [], m => m
  | a :: l, m => depL l (max m (depI a))
end
def Vfold (c : AV) (m n i : Int) (x4 x8 : AV) : List AV := [.junk, .junk, .junk, .v (.int .i64 m), x4, c, .v (.int .i64 n), .v (.int .i64 i), x8]
theorem size_ok : ∀ (N : Nat) (t : Tm) (a : AV), SizeOf.sizeOf t < N → IsT a t → callW F 27 [a] [] = some (.v (.int .i64 (sizI t)), []) := by
  intro N
  induction N with
  | zero => intro t a h; omega
  | succ N ih =>
    intro t a hN ha
    cases ha with
    | mk k s n c l hc =>
    obtain ⟨es, hs, hes, hm⟩ := hc.sl
    have hll := hes.length
    refine callW_pure (c := c27) rfl rfl (l.length + 1) ?_
    have q1 := fun h : List AO => hs.len h
    obtain ⟨e, v', h', g1, g2, g3⟩ := loop_rule0 (call := callW F) (K := l.length + 1) (b := c27_7) (keep := [false, false, false, true, false, true, true, true, false])
      (fun i v h => ∃ m', v = Vfold c m' es.length i .junk .junk ∧ sizL (l.drop i) m' = sizL l 1)
      (fun e v h => e = .exit 0 ∧ ∃ x4, v = Vfold c (sizL l 1) es.length es.length x4 (.v (.bool false)))
      l.length (m := l.length + 1) (v := [.agg [.v (.int .i64 k), .v (.string s), .v (.int .i64 n), c], .ptr 0 0, .v (.int .i64 0), .v (.int .i64 1), .v undef, c, .v (.int .i64 es.length), .v (.int .i64 0), .v undef]) (h := [.box 24 [.v (.int .i64 k), .v (.string s), .v (.int .i64 n), c]])
      (by omega) ⟨_, rfl, rfl⟩ (by
        rintro i v h hi ⟨m', rfl, hR⟩
        by_cases hil : i < es.length
        · have hil' : i < l.length := by omega
          have hT := hes.at hil hil'
          have hlt := lt_t hil
          have he : es[i]? = some es[i] := List.getElem?_eq_getElem hil
          have q2 := fun h : List AO => hs.ia he h
          have hf := hT.facts
          have hd : l.drop i = l[i] :: l.drop (i + 1) := List.drop_eq_getElem_cons hil'
          have hw := wrap_succ hil hm
          rw [hd, sizL] at hR
          have hc := ih l[i] es[i] (by have := IsL.mem_size (k := k) (n := n) (s := s) (List.getElem_mem hil'); omega) hT
          refine ⟨.normal, [.junk, .junk, .junk, .v (.int .i64 (IntKind.i64.wrap (m' + sizI l[i]))), .ptr h.length 0, c, .v (.int .i64 es.length), .v (.int .i64 ((i + 1 : Nat) : Int)), .v (.bool true)], h ++ [.box 24 es[i].cells], ?_, by omega, _, rfl, hR⟩
          simp only [Vfold, c27_7, c27_3, c27_4, c27_5, c27_6, hlt, q1, q2, hf, hc, hw, q9z, e_mm, mm_max, run_nil, run_cons, stp_plain, stp_guard, put_some, pass_eq, pick_tt, pick_ff, pick_tf, pick_ft, pick_u, reg_some, thn_normal, thn_exit, thn_ret, cnd_t, cnd_f, blk_normal, blk_ret, blk_exit, x_seq, x_region, x_cond, x_block, x_loop, x_ret, x_exit, x_skip, e_mov, e_pick, pk_t, pk_f, withH_some, e_box, e_load, e_store, stH_some, e_nil, e_bin, e_eqv, eqH_f, eqH_t, e_un, e_fa, e_ia, ia_eq, nat_eq, natV_nat, e_len, lnH_some, e_extract, ex_0, ex_1, e_call0, e_call1, e_call2, e_call3, pc0_eq, pc1_some, pc2_some, pc3_some, fin_some, g_var0, g_vars, g_loc0, g_locs, g_int, g_bool, g_str, g_sl, s_none, s_zero, s_succ, cl_nil, cl_str, cl_bool, cl_slc, cl_own, evFa, evNil, asEl, evBin, intBin, strBin, evUn, len_nil, len_slc, len_str, clr, List.length_nil, List.length_cons, List.getElem?_cons_zero, List.getElem?_cons_succ, Nat.reduceAdd, Nat.zero_add, Nat.add_zero, Nat.reduceLeDiff, Nat.reduceSub, ↓reduceIte, List.drop_succ_cons, List.drop_zero, List.take_succ_cons, List.take_zero, Bool.false_eq_true, List.nil_append, List.cons_append, Bool.not_true, Bool.not_false, cond_true, cond_false, bne, lv_ret, lv_normal, res1, res2, lv2_some, res_var, res_cell, lvf_v, lvf_slc, res1c, lvo1_some, e_mm, mm_max, mm_min, cl_agg, cl_int, g_agg, e_callv1, cv1_fn, e_slice2, e_clrrow, e_callf2, pick_und, cells_agg, Option.map_some, Option.map_none, bx_some]
        · have hie : i = es.length := by omega
          subst hie
          have hlt := lt_f (n := es.length)
          rw [List.drop_of_length_le (by omega), sizL] at hR
          refine ⟨.exit 0, Vfold c m' es.length es.length .junk (.v (.bool false)), h, ?_, rfl, _, by rw [hR]⟩
          simp only [Vfold, c27_7, c27_3, hlt, run_nil, run_cons, stp_plain, stp_guard, put_some, pass_eq, pick_tt, pick_ff, pick_tf, pick_ft, pick_u, reg_some, thn_normal, thn_exit, thn_ret, cnd_t, cnd_f, blk_normal, blk_ret, blk_exit, x_seq, x_region, x_cond, x_block, x_loop, x_ret, x_exit, x_skip, e_mov, e_pick, pk_t, pk_f, withH_some, e_box, e_load, e_store, stH_some, e_nil, e_bin, e_eqv, eqH_f, eqH_t, e_un, e_fa, e_ia, ia_eq, nat_eq, natV_nat, e_len, lnH_some, e_extract, ex_0, ex_1, e_call0, e_call1, e_call2, e_call3, pc0_eq, pc1_some, pc2_some, pc3_some, fin_some, g_var0, g_vars, g_loc0, g_locs, g_int, g_bool, g_str, g_sl, s_none, s_zero, s_succ, cl_nil, cl_str, cl_bool, cl_slc, cl_own, evFa, evNil, asEl, evBin, intBin, strBin, evUn, len_nil, len_slc, len_str, clr, List.length_nil, List.length_cons, List.getElem?_cons_zero, List.getElem?_cons_succ, Nat.reduceAdd, Nat.zero_add, Nat.add_zero, Nat.reduceLeDiff, Nat.reduceSub, ↓reduceIte, List.drop_succ_cons, List.drop_zero, List.take_succ_cons, List.take_zero, Bool.false_eq_true, List.nil_append, List.cons_append, Bool.not_true, Bool.not_false, cond_true, cond_false, bne, lv_ret, lv_normal, res1, res2, lv2_some, res_var, res_cell, lvf_v, lvf_slc, res1c, lvo1_some, e_mm, mm_max, mm_min, cl_agg, cl_int, g_agg, e_callv1, cv1_fn, e_slice2, e_clrrow, e_callf2, pick_und, cells_agg, Option.map_some, Option.map_none, bx_some])
    have e5 : evLoad [.box 24 [.v (.int .i64 k), .v (.string s), .v (.int .i64 n), c]] false 1 (.ptr 0 3) = some c := rfl
    rw [sizI]
    rw [show c27.body = (.seq (.region [] [] c27_0) (.seq (.region [] [] c27_1) (.seq (.seq (.region [] [] c27_2) (.block 0 (.loop [false, false, false, true, false, true, true, true, false] [] c27_7))) (.seq (.region [] [] c27_8) .ret)))) from rfl, show c27.res = [.var 2] from rfl]
    rw [show start c27 [.agg [.v (.int .i64 k), .v (.string s), .v (.int .i64 n), c]] = [.agg [.v (.int .i64 k), .v (.string s), .v (.int .i64 n), c], .v undef, .v undef, .v undef, .v undef, .v undef, .v undef, .v undef, .v undef] from rfl]
    obtain ⟨rfl, x4, rfl⟩ := g3
    generalize c27_7 = bb at g1 ⊢
    simp only [Vfold, c27_0, c27_1, c27_2, c27_8, e5, q1, g1, run_nil, run_cons, stp_plain, stp_guard, put_some, pass_eq, pick_tt, pick_ff, pick_tf, pick_ft, pick_u, reg_some, thn_normal, thn_exit, thn_ret, cnd_t, cnd_f, blk_normal, blk_ret, blk_exit, x_seq, x_region, x_cond, x_block, x_loop, x_ret, x_exit, x_skip, e_mov, e_pick, pk_t, pk_f, withH_some, e_box, e_load, e_store, stH_some, e_nil, e_bin, e_eqv, eqH_f, eqH_t, e_un, e_fa, e_ia, ia_eq, nat_eq, natV_nat, e_len, lnH_some, e_extract, ex_0, ex_1, e_call0, e_call1, e_call2, e_call3, pc0_eq, pc1_some, pc2_some, pc3_some, fin_some, g_var0, g_vars, g_loc0, g_locs, g_int, g_bool, g_str, g_sl, s_none, s_zero, s_succ, cl_nil, cl_str, cl_bool, cl_slc, cl_own, evFa, evNil, asEl, evBin, intBin, strBin, evUn, len_nil, len_slc, len_str, clr, List.length_nil, List.length_cons, List.getElem?_cons_zero, List.getElem?_cons_succ, Nat.reduceAdd, Nat.zero_add, Nat.add_zero, Nat.reduceLeDiff, Nat.reduceSub, ↓reduceIte, List.drop_succ_cons, List.drop_zero, List.take_succ_cons, List.take_zero, Bool.false_eq_true, List.nil_append, List.cons_append, Bool.not_true, Bool.not_false, cond_true, cond_false, bne, lv_ret, lv_normal, res1, res2, lv2_some, res_var, res_cell, lvf_v, lvf_slc, res1c, lvo1_some, e_mm, mm_max, mm_min, cl_agg, cl_int, g_agg, e_callv1, cv1_fn, e_slice2, e_clrrow, e_callf2, pick_und, cells_agg, Option.map_some, Option.map_none, bx_some]
theorem rsize_ok : ∀ (N : Nat) (t : Tm) (a : AV), SizeOf.sizeOf t < N → IsT a t → callW F 28 [a] [] = some (.v (.int .i64 (sizI t)), []) := by
  intro N
  induction N with
  | zero => intro t a h; omega
  | succ N ih =>
    intro t a hN ha
    cases ha with
    | mk k s n c l hc =>
    obtain ⟨es, hs, hes, hm⟩ := hc.sl
    have hll := hes.length
    refine callW_pure (c := c28) rfl rfl (l.length + 1) ?_
    have q1 := fun h : List AO => hs.len h
    obtain ⟨e, v', h', g1, g2, g3⟩ := loop_rule0 (call := callW F) (K := l.length + 1) (b := c28_7) (keep := [false, false, false, true, false, true, true, true, false])
      (fun i v h => ∃ m', v = Vfold c m' es.length i .junk .junk ∧ sizL (l.drop i) m' = sizL l 1)
      (fun e v h => e = .exit 0 ∧ ∃ x4, v = Vfold c (sizL l 1) es.length es.length x4 (.v (.bool false)))
      l.length (m := l.length + 1) (v := [.agg [.v (.int .i64 k), .v (.string s), .v (.int .i64 n), c], .ptr 0 0, .v (.int .i64 0), .v (.int .i64 1), .v undef, c, .v (.int .i64 es.length), .v (.int .i64 0), .v undef]) (h := [.box 24 [.v (.int .i64 k), .v (.string s), .v (.int .i64 n), c]])
      (by omega) ⟨_, rfl, rfl⟩ (by
        rintro i v h hi ⟨m', rfl, hR⟩
        by_cases hil : i < es.length
        · have hil' : i < l.length := by omega
          have hT := hes.at hil hil'
          have hlt := lt_t hil
          have he : es[i]? = some es[i] := List.getElem?_eq_getElem hil
          have q2 := fun h : List AO => hs.ia he h
          have hf := hT.facts
          have hd : l.drop i = l[i] :: l.drop (i + 1) := List.drop_eq_getElem_cons hil'
          have hw := wrap_succ hil hm
          rw [hd, sizL] at hR
          have hc := ih l[i] es[i] (by have := IsL.mem_size (k := k) (n := n) (s := s) (List.getElem_mem hil'); omega) hT
          refine ⟨.normal, [.junk, .junk, .junk, .v (.int .i64 (IntKind.i64.wrap (m' + sizI l[i]))), .ptr h.length 0, c, .v (.int .i64 es.length), .v (.int .i64 ((i + 1 : Nat) : Int)), .v (.bool true)], h ++ [.box 24 es[i].cells], ?_, by omega, _, rfl, hR⟩
          simp only [Vfold, c28_7, c28_3, c28_4, c28_5, c28_6, hlt, q1, q2, hf, hc, hw, q9z, e_mm, mm_max, run_nil, run_cons, stp_plain, stp_guard, put_some, pass_eq, pick_tt, pick_ff, pick_tf, pick_ft, pick_u, reg_some, thn_normal, thn_exit, thn_ret, cnd_t, cnd_f, blk_normal, blk_ret, blk_exit, x_seq, x_region, x_cond, x_block, x_loop, x_ret, x_exit, x_skip, e_mov, e_pick, pk_t, pk_f, withH_some, e_box, e_load, e_store, stH_some, e_nil, e_bin, e_eqv, eqH_f, eqH_t, e_un, e_fa, e_ia, ia_eq, nat_eq, natV_nat, e_len, lnH_some, e_extract, ex_0, ex_1, e_call0, e_call1, e_call2, e_call3, pc0_eq, pc1_some, pc2_some, pc3_some, fin_some, g_var0, g_vars, g_loc0, g_locs, g_int, g_bool, g_str, g_sl, s_none, s_zero, s_succ, cl_nil, cl_str, cl_bool, cl_slc, cl_own, evFa, evNil, asEl, evBin, intBin, strBin, evUn, len_nil, len_slc, len_str, clr, List.length_nil, List.length_cons, List.getElem?_cons_zero, List.getElem?_cons_succ, Nat.reduceAdd, Nat.zero_add, Nat.add_zero, Nat.reduceLeDiff, Nat.reduceSub, ↓reduceIte, List.drop_succ_cons, List.drop_zero, List.take_succ_cons, List.take_zero, Bool.false_eq_true, List.nil_append, List.cons_append, Bool.not_true, Bool.not_false, cond_true, cond_false, bne, lv_ret, lv_normal, res1, res2, lv2_some, res_var, res_cell, lvf_v, lvf_slc, res1c, lvo1_some, e_mm, mm_max, mm_min, cl_agg, cl_int, g_agg, e_callv1, cv1_fn, e_slice2, e_clrrow, e_callf2, pick_und, cells_agg, Option.map_some, Option.map_none, bx_some]
        · have hie : i = es.length := by omega
          subst hie
          have hlt := lt_f (n := es.length)
          rw [List.drop_of_length_le (by omega), sizL] at hR
          refine ⟨.exit 0, Vfold c m' es.length es.length .junk (.v (.bool false)), h, ?_, rfl, _, by rw [hR]⟩
          simp only [Vfold, c28_7, c28_3, hlt, run_nil, run_cons, stp_plain, stp_guard, put_some, pass_eq, pick_tt, pick_ff, pick_tf, pick_ft, pick_u, reg_some, thn_normal, thn_exit, thn_ret, cnd_t, cnd_f, blk_normal, blk_ret, blk_exit, x_seq, x_region, x_cond, x_block, x_loop, x_ret, x_exit, x_skip, e_mov, e_pick, pk_t, pk_f, withH_some, e_box, e_load, e_store, stH_some, e_nil, e_bin, e_eqv, eqH_f, eqH_t, e_un, e_fa, e_ia, ia_eq, nat_eq, natV_nat, e_len, lnH_some, e_extract, ex_0, ex_1, e_call0, e_call1, e_call2, e_call3, pc0_eq, pc1_some, pc2_some, pc3_some, fin_some, g_var0, g_vars, g_loc0, g_locs, g_int, g_bool, g_str, g_sl, s_none, s_zero, s_succ, cl_nil, cl_str, cl_bool, cl_slc, cl_own, evFa, evNil, asEl, evBin, intBin, strBin, evUn, len_nil, len_slc, len_str, clr, List.length_nil, List.length_cons, List.getElem?_cons_zero, List.getElem?_cons_succ, Nat.reduceAdd, Nat.zero_add, Nat.add_zero, Nat.reduceLeDiff, Nat.reduceSub, ↓reduceIte, List.drop_succ_cons, List.drop_zero, List.take_succ_cons, List.take_zero, Bool.false_eq_true, List.nil_append, List.cons_append, Bool.not_true, Bool.not_false, cond_true, cond_false, bne, lv_ret, lv_normal, res1, res2, lv2_some, res_var, res_cell, lvf_v, lvf_slc, res1c, lvo1_some, e_mm, mm_max, mm_min, cl_agg, cl_int, g_agg, e_callv1, cv1_fn, e_slice2, e_clrrow, e_callf2, pick_und, cells_agg, Option.map_some, Option.map_none, bx_some])
    have e5 : evLoad [.box 24 [.v (.int .i64 k), .v (.string s), .v (.int .i64 n), c]] false 1 (.ptr 0 3) = some c := rfl
    rw [sizI]
    rw [show c28.body = (.seq (.region [] [] c28_0) (.seq (.region [] [] c28_1) (.seq (.seq (.region [] [] c28_2) (.block 0 (.loop [false, false, false, true, false, true, true, true, false] [] c28_7))) (.seq (.region [] [] c28_8) .ret)))) from rfl, show c28.res = [.var 2] from rfl]
    rw [show start c28 [.agg [.v (.int .i64 k), .v (.string s), .v (.int .i64 n), c]] = [.agg [.v (.int .i64 k), .v (.string s), .v (.int .i64 n), c], .v undef, .v undef, .v undef, .v undef, .v undef, .v undef, .v undef, .v undef] from rfl]
    obtain ⟨rfl, x4, rfl⟩ := g3
    generalize c28_7 = bb at g1 ⊢
    simp only [Vfold, c28_0, c28_1, c28_2, c28_8, e5, q1, g1, run_nil, run_cons, stp_plain, stp_guard, put_some, pass_eq, pick_tt, pick_ff, pick_tf, pick_ft, pick_u, reg_some, thn_normal, thn_exit, thn_ret, cnd_t, cnd_f, blk_normal, blk_ret, blk_exit, x_seq, x_region, x_cond, x_block, x_loop, x_ret, x_exit, x_skip, e_mov, e_pick, pk_t, pk_f, withH_some, e_box, e_load, e_store, stH_some, e_nil, e_bin, e_eqv, eqH_f, eqH_t, e_un, e_fa, e_ia, ia_eq, nat_eq, natV_nat, e_len, lnH_some, e_extract, ex_0, ex_1, e_call0, e_call1, e_call2, e_call3, pc0_eq, pc1_some, pc2_some, pc3_some, fin_some, g_var0, g_vars, g_loc0, g_locs, g_int, g_bool, g_str, g_sl, s_none, s_zero, s_succ, cl_nil, cl_str, cl_bool, cl_slc, cl_own, evFa, evNil, asEl, evBin, intBin, strBin, evUn, len_nil, len_slc, len_str, clr, List.length_nil, List.length_cons, List.getElem?_cons_zero, List.getElem?_cons_succ, Nat.reduceAdd, Nat.zero_add, Nat.add_zero, Nat.reduceLeDiff, Nat.reduceSub, ↓reduceIte, List.drop_succ_cons, List.drop_zero, List.take_succ_cons, List.take_zero, Bool.false_eq_true, List.nil_append, List.cons_append, Bool.not_true, Bool.not_false, cond_true, cond_false, bne, lv_ret, lv_normal, res1, res2, lv2_some, res_var, res_cell, lvf_v, lvf_slc, res1c, lvo1_some, e_mm, mm_max, mm_min, cl_agg, cl_int, g_agg, e_callv1, cv1_fn, e_slice2, e_clrrow, e_callf2, pick_und, cells_agg, Option.map_some, Option.map_none, bx_some]
theorem deep_ok : ∀ (N : Nat) (t : Tm) (a : AV), SizeOf.sizeOf t < N → IsT a t → callW F 25 [a] [] = some (.v (.int .i64 (depI t)), []) := by
  intro N
  induction N with
  | zero => intro t a h; omega
  | succ N ih =>
    intro t a hN ha
    cases ha with
    | mk k s n c l hc =>
    obtain ⟨es, hs, hes, hm⟩ := hc.sl
    have hll := hes.length
    refine callW_pure (c := c25) rfl rfl (l.length + 1) ?_
    have q1 := fun h : List AO => hs.len h
    obtain ⟨e, v', h', g1, g2, g3⟩ := loop_rule0 (call := callW F) (K := l.length + 1) (b := c25_7) (keep := [false, false, false, true, false, true, true, true, false])
      (fun i v h => ∃ m', v = Vfold c m' es.length i .junk .junk ∧ depL (l.drop i) m' = depL l 0)
      (fun e v h => e = .exit 0 ∧ ∃ x4, v = Vfold c (depL l 0) es.length es.length x4 (.v (.bool false)))
      l.length (m := l.length + 1) (v := [.agg [.v (.int .i64 k), .v (.string s), .v (.int .i64 n), c], .ptr 0 0, .v (.int .i64 0), .v (.int .i64 0), .v undef, c, .v (.int .i64 es.length), .v (.int .i64 0), .v undef]) (h := [.box 24 [.v (.int .i64 k), .v (.string s), .v (.int .i64 n), c]])
      (by omega) ⟨_, rfl, rfl⟩ (by
        rintro i v h hi ⟨m', rfl, hR⟩
        by_cases hil : i < es.length
        · have hil' : i < l.length := by omega
          have hT := hes.at hil hil'
          have hlt := lt_t hil
          have he : es[i]? = some es[i] := List.getElem?_eq_getElem hil
          have q2 := fun h : List AO => hs.ia he h
          have hf := hT.facts
          have hd : l.drop i = l[i] :: l.drop (i + 1) := List.drop_eq_getElem_cons hil'
          have hw := wrap_succ hil hm
          rw [hd, depL] at hR
          have hc := ih l[i] es[i] (by have := IsL.mem_size (k := k) (n := n) (s := s) (List.getElem_mem hil'); omega) hT
          refine ⟨.normal, [.junk, .junk, .junk, .v (.int .i64 (max m' (depI l[i]))), .ptr h.length 0, c, .v (.int .i64 es.length), .v (.int .i64 ((i + 1 : Nat) : Int)), .v (.bool true)], h ++ [.box 24 es[i].cells], ?_, by omega, _, rfl, hR⟩
          simp only [Vfold, c25_7, c25_3, c25_4, c25_5, c25_6, hlt, q1, q2, hf, hc, hw, q9z, e_mm, mm_max, run_nil, run_cons, stp_plain, stp_guard, put_some, pass_eq, pick_tt, pick_ff, pick_tf, pick_ft, pick_u, reg_some, thn_normal, thn_exit, thn_ret, cnd_t, cnd_f, blk_normal, blk_ret, blk_exit, x_seq, x_region, x_cond, x_block, x_loop, x_ret, x_exit, x_skip, e_mov, e_pick, pk_t, pk_f, withH_some, e_box, e_load, e_store, stH_some, e_nil, e_bin, e_eqv, eqH_f, eqH_t, e_un, e_fa, e_ia, ia_eq, nat_eq, natV_nat, e_len, lnH_some, e_extract, ex_0, ex_1, e_call0, e_call1, e_call2, e_call3, pc0_eq, pc1_some, pc2_some, pc3_some, fin_some, g_var0, g_vars, g_loc0, g_locs, g_int, g_bool, g_str, g_sl, s_none, s_zero, s_succ, cl_nil, cl_str, cl_bool, cl_slc, cl_own, evFa, evNil, asEl, evBin, intBin, strBin, evUn, len_nil, len_slc, len_str, clr, List.length_nil, List.length_cons, List.getElem?_cons_zero, List.getElem?_cons_succ, Nat.reduceAdd, Nat.zero_add, Nat.add_zero, Nat.reduceLeDiff, Nat.reduceSub, ↓reduceIte, List.drop_succ_cons, List.drop_zero, List.take_succ_cons, List.take_zero, Bool.false_eq_true, List.nil_append, List.cons_append, Bool.not_true, Bool.not_false, cond_true, cond_false, bne, lv_ret, lv_normal, res1, res2, lv2_some, res_var, res_cell, lvf_v, lvf_slc, res1c, lvo1_some, e_mm, mm_max, mm_min, cl_agg, cl_int, g_agg, e_callv1, cv1_fn, e_slice2, e_clrrow, e_callf2, pick_und, cells_agg, Option.map_some, Option.map_none, bx_some]
        · have hie : i = es.length := by omega
          subst hie
          have hlt := lt_f (n := es.length)
          rw [List.drop_of_length_le (by omega), depL] at hR
          refine ⟨.exit 0, Vfold c m' es.length es.length .junk (.v (.bool false)), h, ?_, rfl, _, by rw [hR]⟩
          simp only [Vfold, c25_7, c25_3, hlt, run_nil, run_cons, stp_plain, stp_guard, put_some, pass_eq, pick_tt, pick_ff, pick_tf, pick_ft, pick_u, reg_some, thn_normal, thn_exit, thn_ret, cnd_t, cnd_f, blk_normal, blk_ret, blk_exit, x_seq, x_region, x_cond, x_block, x_loop, x_ret, x_exit, x_skip, e_mov, e_pick, pk_t, pk_f, withH_some, e_box, e_load, e_store, stH_some, e_nil, e_bin, e_eqv, eqH_f, eqH_t, e_un, e_fa, e_ia, ia_eq, nat_eq, natV_nat, e_len, lnH_some, e_extract, ex_0, ex_1, e_call0, e_call1, e_call2, e_call3, pc0_eq, pc1_some, pc2_some, pc3_some, fin_some, g_var0, g_vars, g_loc0, g_locs, g_int, g_bool, g_str, g_sl, s_none, s_zero, s_succ, cl_nil, cl_str, cl_bool, cl_slc, cl_own, evFa, evNil, asEl, evBin, intBin, strBin, evUn, len_nil, len_slc, len_str, clr, List.length_nil, List.length_cons, List.getElem?_cons_zero, List.getElem?_cons_succ, Nat.reduceAdd, Nat.zero_add, Nat.add_zero, Nat.reduceLeDiff, Nat.reduceSub, ↓reduceIte, List.drop_succ_cons, List.drop_zero, List.take_succ_cons, List.take_zero, Bool.false_eq_true, List.nil_append, List.cons_append, Bool.not_true, Bool.not_false, cond_true, cond_false, bne, lv_ret, lv_normal, res1, res2, lv2_some, res_var, res_cell, lvf_v, lvf_slc, res1c, lvo1_some, e_mm, mm_max, mm_min, cl_agg, cl_int, g_agg, e_callv1, cv1_fn, e_slice2, e_clrrow, e_callf2, pick_und, cells_agg, Option.map_some, Option.map_none, bx_some])
    have e5 : evLoad [.box 24 [.v (.int .i64 k), .v (.string s), .v (.int .i64 n), c]] false 1 (.ptr 0 3) = some c := rfl
    rw [depI]
    rw [show c25.body = (.seq (.region [] [] c25_0) (.seq (.region [] [] c25_1) (.seq (.seq (.region [] [] c25_2) (.block 0 (.loop [false, false, false, true, false, true, true, true, false] [] c25_7))) (.seq (.region [] [] c25_8) .ret)))) from rfl, show c25.res = [.var 2] from rfl]
    rw [show start c25 [.agg [.v (.int .i64 k), .v (.string s), .v (.int .i64 n), c]] = [.agg [.v (.int .i64 k), .v (.string s), .v (.int .i64 n), c], .v undef, .v undef, .v undef, .v undef, .v undef, .v undef, .v undef, .v undef] from rfl]
    obtain ⟨rfl, x4, rfl⟩ := g3
    generalize c25_7 = bb at g1 ⊢
    simp only [Vfold, c25_0, c25_1, c25_2, c25_8, e5, q1, g1, Int.add_comm 1, run_nil, run_cons, stp_plain, stp_guard, put_some, pass_eq, pick_tt, pick_ff, pick_tf, pick_ft, pick_u, reg_some, thn_normal, thn_exit, thn_ret, cnd_t, cnd_f, blk_normal, blk_ret, blk_exit, x_seq, x_region, x_cond, x_block, x_loop, x_ret, x_exit, x_skip, e_mov, e_pick, pk_t, pk_f, withH_some, e_box, e_load, e_store, stH_some, e_nil, e_bin, e_eqv, eqH_f, eqH_t, e_un, e_fa, e_ia, ia_eq, nat_eq, natV_nat, e_len, lnH_some, e_extract, ex_0, ex_1, e_call0, e_call1, e_call2, e_call3, pc0_eq, pc1_some, pc2_some, pc3_some, fin_some, g_var0, g_vars, g_loc0, g_locs, g_int, g_bool, g_str, g_sl, s_none, s_zero, s_succ, cl_nil, cl_str, cl_bool, cl_slc, cl_own, evFa, evNil, asEl, evBin, intBin, strBin, evUn, len_nil, len_slc, len_str, clr, List.length_nil, List.length_cons, List.getElem?_cons_zero, List.getElem?_cons_succ, Nat.reduceAdd, Nat.zero_add, Nat.add_zero, Nat.reduceLeDiff, Nat.reduceSub, ↓reduceIte, List.drop_succ_cons, List.drop_zero, List.take_succ_cons, List.take_zero, Bool.false_eq_true, List.nil_append, List.cons_append, Bool.not_true, Bool.not_false, cond_true, cond_false, bne, lv_ret, lv_normal, res1, res2, lv2_some, res_var, res_cell, lvf_v, lvf_slc, res1c, lvo1_some, e_mm, mm_max, mm_min, cl_agg, cl_int, g_agg, e_callv1, cv1_fn, e_slice2, e_clrrow, e_callf2, pick_und, cells_agg, Option.map_some, Option.map_none, bx_some]
theorem rdeep_ok : ∀ (N : Nat) (t : Tm) (a : AV), SizeOf.sizeOf t < N → IsT a t → callW F 26 [a] [] = some (.v (.int .i64 (depI t)), []) := by
  intro N
  induction N with
  | zero => intro t a h; omega
  | succ N ih =>
    intro t a hN ha
    cases ha with
    | mk k s n c l hc =>
    obtain ⟨es, hs, hes, hm⟩ := hc.sl
    have hll := hes.length
    refine callW_pure (c := c26) rfl rfl (l.length + 1) ?_
    have q1 := fun h : List AO => hs.len h
    obtain ⟨e, v', h', g1, g2, g3⟩ := loop_rule0 (call := callW F) (K := l.length + 1) (b := c26_7) (keep := [false, false, false, true, false, true, true, true, false])
      (fun i v h => ∃ m', v = Vfold c m' es.length i .junk .junk ∧ depL (l.drop i) m' = depL l 0)
      (fun e v h => e = .exit 0 ∧ ∃ x4, v = Vfold c (depL l 0) es.length es.length x4 (.v (.bool false)))
      l.length (m := l.length + 1) (v := [.agg [.v (.int .i64 k), .v (.string s), .v (.int .i64 n), c], .ptr 0 0, .v (.int .i64 0), .v (.int .i64 0), .v undef, c, .v (.int .i64 es.length), .v (.int .i64 0), .v undef]) (h := [.box 24 [.v (.int .i64 k), .v (.string s), .v (.int .i64 n), c]])
      (by omega) ⟨_, rfl, rfl⟩ (by
        rintro i v h hi ⟨m', rfl, hR⟩
        by_cases hil : i < es.length
        · have hil' : i < l.length := by omega
          have hT := hes.at hil hil'
          have hlt := lt_t hil
          have he : es[i]? = some es[i] := List.getElem?_eq_getElem hil
          have q2 := fun h : List AO => hs.ia he h
          have hf := hT.facts
          have hd : l.drop i = l[i] :: l.drop (i + 1) := List.drop_eq_getElem_cons hil'
          have hw := wrap_succ hil hm
          rw [hd, depL] at hR
          have hc := ih l[i] es[i] (by have := IsL.mem_size (k := k) (n := n) (s := s) (List.getElem_mem hil'); omega) hT
          refine ⟨.normal, [.junk, .junk, .junk, .v (.int .i64 (max m' (depI l[i]))), .ptr h.length 0, c, .v (.int .i64 es.length), .v (.int .i64 ((i + 1 : Nat) : Int)), .v (.bool true)], h ++ [.box 24 es[i].cells], ?_, by omega, _, rfl, hR⟩
          simp only [Vfold, c26_7, c26_3, c26_4, c26_5, c26_6, hlt, q1, q2, hf, hc, hw, q9z, e_mm, mm_max, run_nil, run_cons, stp_plain, stp_guard, put_some, pass_eq, pick_tt, pick_ff, pick_tf, pick_ft, pick_u, reg_some, thn_normal, thn_exit, thn_ret, cnd_t, cnd_f, blk_normal, blk_ret, blk_exit, x_seq, x_region, x_cond, x_block, x_loop, x_ret, x_exit, x_skip, e_mov, e_pick, pk_t, pk_f, withH_some, e_box, e_load, e_store, stH_some, e_nil, e_bin, e_eqv, eqH_f, eqH_t, e_un, e_fa, e_ia, ia_eq, nat_eq, natV_nat, e_len, lnH_some, e_extract, ex_0, ex_1, e_call0, e_call1, e_call2, e_call3, pc0_eq, pc1_some, pc2_some, pc3_some, fin_some, g_var0, g_vars, g_loc0, g_locs, g_int, g_bool, g_str, g_sl, s_none, s_zero, s_succ, cl_nil, cl_str, cl_bool, cl_slc, cl_own, evFa, evNil, asEl, evBin, intBin, strBin, evUn, len_nil, len_slc, len_str, clr, List.length_nil, List.length_cons, List.getElem?_cons_zero, List.getElem?_cons_succ, Nat.reduceAdd, Nat.zero_add, Nat.add_zero, Nat.reduceLeDiff, Nat.reduceSub, ↓reduceIte, List.drop_succ_cons, List.drop_zero, List.take_succ_cons, List.take_zero, Bool.false_eq_true, List.nil_append, List.cons_append, Bool.not_true, Bool.not_false, cond_true, cond_false, bne, lv_ret, lv_normal, res1, res2, lv2_some, res_var, res_cell, lvf_v, lvf_slc, res1c, lvo1_some, e_mm, mm_max, mm_min, cl_agg, cl_int, g_agg, e_callv1, cv1_fn, e_slice2, e_clrrow, e_callf2, pick_und, cells_agg, Option.map_some, Option.map_none, bx_some]
        · have hie : i = es.length := by omega
          subst hie
          have hlt := lt_f (n := es.length)
          rw [List.drop_of_length_le (by omega), depL] at hR
          refine ⟨.exit 0, Vfold c m' es.length es.length .junk (.v (.bool false)), h, ?_, rfl, _, by rw [hR]⟩
          simp only [Vfold, c26_7, c26_3, hlt, run_nil, run_cons, stp_plain, stp_guard, put_some, pass_eq, pick_tt, pick_ff, pick_tf, pick_ft, pick_u, reg_some, thn_normal, thn_exit, thn_ret, cnd_t, cnd_f, blk_normal, blk_ret, blk_exit, x_seq, x_region, x_cond, x_block, x_loop, x_ret, x_exit, x_skip, e_mov, e_pick, pk_t, pk_f, withH_some, e_box, e_load, e_store, stH_some, e_nil, e_bin, e_eqv, eqH_f, eqH_t, e_un, e_fa, e_ia, ia_eq, nat_eq, natV_nat, e_len, lnH_some, e_extract, ex_0, ex_1, e_call0, e_call1, e_call2, e_call3, pc0_eq, pc1_some, pc2_some, pc3_some, fin_some, g_var0, g_vars, g_loc0, g_locs, g_int, g_bool, g_str, g_sl, s_none, s_zero, s_succ, cl_nil, cl_str, cl_bool, cl_slc, cl_own, evFa, evNil, asEl, evBin, intBin, strBin, evUn, len_nil, len_slc, len_str, clr, List.length_nil, List.length_cons, List.getElem?_cons_zero, List.getElem?_cons_succ, Nat.reduceAdd, Nat.zero_add, Nat.add_zero, Nat.reduceLeDiff, Nat.reduceSub, ↓reduceIte, List.drop_succ_cons, List.drop_zero, List.take_succ_cons, List.take_zero, Bool.false_eq_true, List.nil_append, List.cons_append, Bool.not_true, Bool.not_false, cond_true, cond_false, bne, lv_ret, lv_normal, res1, res2, lv2_some, res_var, res_cell, lvf_v, lvf_slc, res1c, lvo1_some, e_mm, mm_max, mm_min, cl_agg, cl_int, g_agg, e_callv1, cv1_fn, e_slice2, e_clrrow, e_callf2, pick_und, cells_agg, Option.map_some, Option.map_none, bx_some])
    have e5 : evLoad [.box 24 [.v (.int .i64 k), .v (.string s), .v (.int .i64 n), c]] false 1 (.ptr 0 3) = some c := rfl
    rw [depI]
    rw [show c26.body = (.seq (.region [] [] c26_0) (.seq (.region [] [] c26_1) (.seq (.seq (.region [] [] c26_2) (.block 0 (.loop [false, false, false, true, false, true, true, true, false] [] c26_7))) (.seq (.region [] [] c26_8) .ret)))) from rfl, show c26.res = [.var 2] from rfl]
    rw [show start c26 [.agg [.v (.int .i64 k), .v (.string s), .v (.int .i64 n), c]] = [.agg [.v (.int .i64 k), .v (.string s), .v (.int .i64 n), c], .v undef, .v undef, .v undef, .v undef, .v undef, .v undef, .v undef, .v undef] from rfl]
    obtain ⟨rfl, x4, rfl⟩ := g3
    generalize c26_7 = bb at g1 ⊢
    simp only [Vfold, c26_0, c26_1, c26_2, c26_8, e5, q1, g1, run_nil, run_cons, stp_plain, stp_guard, put_some, pass_eq, pick_tt, pick_ff, pick_tf, pick_ft, pick_u, reg_some, thn_normal, thn_exit, thn_ret, cnd_t, cnd_f, blk_normal, blk_ret, blk_exit, x_seq, x_region, x_cond, x_block, x_loop, x_ret, x_exit, x_skip, e_mov, e_pick, pk_t, pk_f, withH_some, e_box, e_load, e_store, stH_some, e_nil, e_bin, e_eqv, eqH_f, eqH_t, e_un, e_fa, e_ia, ia_eq, nat_eq, natV_nat, e_len, lnH_some, e_extract, ex_0, ex_1, e_call0, e_call1, e_call2, e_call3, pc0_eq, pc1_some, pc2_some, pc3_some, fin_some, g_var0, g_vars, g_loc0, g_locs, g_int, g_bool, g_str, g_sl, s_none, s_zero, s_succ, cl_nil, cl_str, cl_bool, cl_slc, cl_own, evFa, evNil, asEl, evBin, intBin, strBin, evUn, len_nil, len_slc, len_str, clr, List.length_nil, List.length_cons, List.getElem?_cons_zero, List.getElem?_cons_succ, Nat.reduceAdd, Nat.zero_add, Nat.add_zero, Nat.reduceLeDiff, Nat.reduceSub, ↓reduceIte, List.drop_succ_cons, List.drop_zero, List.take_succ_cons, List.take_zero, Bool.false_eq_true, List.nil_append, List.cons_append, Bool.not_true, Bool.not_false, cond_true, cond_false, bne, lv_ret, lv_normal, res1, res2, lv2_some, res_var, res_cell, lvf_v, lvf_slc, res1c, lvo1_some, e_mm, mm_max, mm_min, cl_agg, cl_int, g_agg, e_callv1, cv1_fn, e_slice2, e_clrrow, e_callf2, pick_und, cells_agg, Option.map_some, Option.map_none, bx_some]
end Go.AE.YtgcbaefclkfnoaaDoor
end

/-! Whether a term may be: the program's Check and the document's. -/
section
set_option linter.unusedVariables false
set_option linter.unusedSimpArgs false
namespace Go.AE.YtgcbaefclkfnoaaDoor
open Go Go.AE Go.Proofs.YtgcbaefclkfnoaaDoor

def chkS (s : ByteArray) : Bool := decide ((s.size : Int) ≤ 255) && Lib.validD s.data.toList
def noS (s : ByteArray) : Bool := s.toList == (⟨#[]⟩ : ByteArray).toList
mutual
def mayT : Tm → Bool
  | .mk k s n l =>
    if (k == 1) = true then ((l.length : Int) == 0) && (noS s && decide (n ≥ 0))
    else if (k == 2) = true then ((l.length : Int) == 0) && ((n == 0) && chkS s)
    else if (k == 3) = true then ((l.length : Int) == 0) && noS s
    else if (k == 4) = true then !((l.length : Int) == 0) && ((n == 0) && (decide ((l.length : Int) ≤ 16) && (chkS s && mayL l)))
    else false
def mayL : List Tm → Bool
  | [] => true
  | a :: l => mayT a && mayL l
end
theorem valid_call (s : ByteArray) (h : s.size ≤ 9223372036854775807) : callW F 75 [.v (.string s)] [] = some (.v (.bool (Lib.validD s.data.toList)), []) := by
  refine callW_oracle (g := validG) rfl ?_
  simp only [validG, h, if_true]
theorem chk_ok (s : ByteArray) : callW F 70 [.v (.string s)] [] = some (.v (.bool (chkS s)), []) := by
  refine callW_pure (c := c70) rfl rfl 0 ?_
  unfold chkS
  cases h1 : decide ((s.size : Int) ≤ 255) with
  | true =>
    have hc := valid_call s (by simp at h1; omega)
    simp only [c70, start, List.replicate, c70_0, c70_1, h1, hc, snap_str, Bool.true_and, run_nil, run_cons, stp_plain, stp_guard, put_some, pass_eq, pick_tt, pick_ff, pick_tf, pick_ft, pick_u, reg_some, thn_normal, thn_exit, thn_ret, cnd_t, cnd_f, blk_normal, blk_ret, blk_exit, x_seq, x_region, x_cond, x_block, x_loop, x_ret, x_exit, x_skip, e_mov, e_pick, pk_t, pk_f, withH_some, e_box, e_load, e_store, stH_some, e_nil, e_bin, e_eqv, eqH_f, eqH_t, e_un, e_fa, e_ia, ia_eq, nat_eq, natV_nat, e_len, lnH_some, e_extract, ex_0, ex_1, e_call0, e_call1, e_call2, e_call3, pc0_eq, pc1_some, pc2_some, pc3_some, fin_some, g_var0, g_vars, g_loc0, g_locs, g_int, g_bool, g_str, g_sl, s_none, s_zero, s_succ, cl_nil, cl_str, cl_bool, cl_slc, cl_own, evFa, evNil, asEl, evBin, intBin, strBin, evUn, len_nil, len_slc, len_str, clr, List.length_nil, List.length_cons, List.getElem?_cons_zero, List.getElem?_cons_succ, Nat.reduceAdd, Nat.zero_add, Nat.add_zero, Nat.reduceLeDiff, Nat.reduceSub, ↓reduceIte, List.drop_succ_cons, List.drop_zero, List.take_succ_cons, List.take_zero, Bool.false_eq_true, List.nil_append, List.cons_append, Bool.not_true, Bool.not_false, cond_true, cond_false, bne, lv_ret, lv_normal, res1, res2, lv2_some, res_var, res_cell, lvf_v, lvf_slc, res1c, lvo1_some, e_mm, mm_max, mm_min, cl_agg, cl_int, g_agg, e_callv1, cv1_fn, e_slice2, e_clrrow, e_callf2, pick_und, cells_agg, Option.map_some, Option.map_none, bx_some]
  | false => simp only [c70, start, List.replicate, c70_0, c70_1, h1, Bool.false_and, run_nil, run_cons, stp_plain, stp_guard, put_some, pass_eq, pick_tt, pick_ff, pick_tf, pick_ft, pick_u, reg_some, thn_normal, thn_exit, thn_ret, cnd_t, cnd_f, blk_normal, blk_ret, blk_exit, x_seq, x_region, x_cond, x_block, x_loop, x_ret, x_exit, x_skip, e_mov, e_pick, pk_t, pk_f, withH_some, e_box, e_load, e_store, stH_some, e_nil, e_bin, e_eqv, eqH_f, eqH_t, e_un, e_fa, e_ia, ia_eq, nat_eq, natV_nat, e_len, lnH_some, e_extract, ex_0, ex_1, e_call0, e_call1, e_call2, e_call3, pc0_eq, pc1_some, pc2_some, pc3_some, fin_some, g_var0, g_vars, g_loc0, g_locs, g_int, g_bool, g_str, g_sl, s_none, s_zero, s_succ, cl_nil, cl_str, cl_bool, cl_slc, cl_own, evFa, evNil, asEl, evBin, intBin, strBin, evUn, len_nil, len_slc, len_str, clr, List.length_nil, List.length_cons, List.getElem?_cons_zero, List.getElem?_cons_succ, Nat.reduceAdd, Nat.zero_add, Nat.add_zero, Nat.reduceLeDiff, Nat.reduceSub, ↓reduceIte, List.drop_succ_cons, List.drop_zero, List.take_succ_cons, List.take_zero, Bool.false_eq_true, List.nil_append, List.cons_append, Bool.not_true, Bool.not_false, cond_true, cond_false, bne, lv_ret, lv_normal, res1, res2, lv2_some, res_var, res_cell, lvf_v, lvf_slc, res1c, lvo1_some, e_mm, mm_max, mm_min, cl_agg, cl_int, g_agg, e_callv1, cv1_fn, e_slice2, e_clrrow, e_callf2, pick_und, cells_agg, Option.map_some, Option.map_none, bx_some]
theorem rchk_ok (s : ByteArray) : callW F 62 [.v (.string s)] [] = some (.v (.bool (chkS s)), []) := by
  refine callW_pure (c := c62) rfl rfl 0 ?_
  unfold chkS
  cases h1 : decide ((s.size : Int) ≤ 255) with
  | true =>
    have hc := valid_call s (by simp at h1; omega)
    simp only [c62, start, List.replicate, c62_0, c62_1, h1, hc, snap_str, Bool.true_and, run_nil, run_cons, stp_plain, stp_guard, put_some, pass_eq, pick_tt, pick_ff, pick_tf, pick_ft, pick_u, reg_some, thn_normal, thn_exit, thn_ret, cnd_t, cnd_f, blk_normal, blk_ret, blk_exit, x_seq, x_region, x_cond, x_block, x_loop, x_ret, x_exit, x_skip, e_mov, e_pick, pk_t, pk_f, withH_some, e_box, e_load, e_store, stH_some, e_nil, e_bin, e_eqv, eqH_f, eqH_t, e_un, e_fa, e_ia, ia_eq, nat_eq, natV_nat, e_len, lnH_some, e_extract, ex_0, ex_1, e_call0, e_call1, e_call2, e_call3, pc0_eq, pc1_some, pc2_some, pc3_some, fin_some, g_var0, g_vars, g_loc0, g_locs, g_int, g_bool, g_str, g_sl, s_none, s_zero, s_succ, cl_nil, cl_str, cl_bool, cl_slc, cl_own, evFa, evNil, asEl, evBin, intBin, strBin, evUn, len_nil, len_slc, len_str, clr, List.length_nil, List.length_cons, List.getElem?_cons_zero, List.getElem?_cons_succ, Nat.reduceAdd, Nat.zero_add, Nat.add_zero, Nat.reduceLeDiff, Nat.reduceSub, ↓reduceIte, List.drop_succ_cons, List.drop_zero, List.take_succ_cons, List.take_zero, Bool.false_eq_true, List.nil_append, List.cons_append, Bool.not_true, Bool.not_false, cond_true, cond_false, bne, lv_ret, lv_normal, res1, res2, lv2_some, res_var, res_cell, lvf_v, lvf_slc, res1c, lvo1_some, e_mm, mm_max, mm_min, cl_agg, cl_int, g_agg, e_callv1, cv1_fn, e_slice2, e_clrrow, e_callf2, pick_und, cells_agg, Option.map_some, Option.map_none, bx_some]
  | false => simp only [c62, start, List.replicate, c62_0, c62_1, h1, Bool.false_and, run_nil, run_cons, stp_plain, stp_guard, put_some, pass_eq, pick_tt, pick_ff, pick_tf, pick_ft, pick_u, reg_some, thn_normal, thn_exit, thn_ret, cnd_t, cnd_f, blk_normal, blk_ret, blk_exit, x_seq, x_region, x_cond, x_block, x_loop, x_ret, x_exit, x_skip, e_mov, e_pick, pk_t, pk_f, withH_some, e_box, e_load, e_store, stH_some, e_nil, e_bin, e_eqv, eqH_f, eqH_t, e_un, e_fa, e_ia, ia_eq, nat_eq, natV_nat, e_len, lnH_some, e_extract, ex_0, ex_1, e_call0, e_call1, e_call2, e_call3, pc0_eq, pc1_some, pc2_some, pc3_some, fin_some, g_var0, g_vars, g_loc0, g_locs, g_int, g_bool, g_str, g_sl, s_none, s_zero, s_succ, cl_nil, cl_str, cl_bool, cl_slc, cl_own, evFa, evNil, asEl, evBin, intBin, strBin, evUn, len_nil, len_slc, len_str, clr, List.length_nil, List.length_cons, List.getElem?_cons_zero, List.getElem?_cons_succ, Nat.reduceAdd, Nat.zero_add, Nat.add_zero, Nat.reduceLeDiff, Nat.reduceSub, ↓reduceIte, List.drop_succ_cons, List.drop_zero, List.take_succ_cons, List.take_zero, Bool.false_eq_true, List.nil_append, List.cons_append, Bool.not_true, Bool.not_false, cond_true, cond_false, bne, lv_ret, lv_normal, res1, res2, lv2_some, res_var, res_cell, lvf_v, lvf_slc, res1c, lvo1_some, e_mm, mm_max, mm_min, cl_agg, cl_int, g_agg, e_callv1, cv1_fn, e_slice2, e_clrrow, e_callf2, pick_und, cells_agg, Option.map_some, Option.map_none, bx_some]

def tb (k n : Int) (s : ByteArray) (c : AV) : AO := .box 24 [.v (.int .i64 k), .v (.string s), .v (.int .i64 n), c]
section
variable {k n : Int} {s : ByteArray} {c : AV} {G : List AO}
theorem tb0 : evLoad (tb k n s c :: G) false 1 (.ptr 0 0) = some (.v (.int .i64 k)) := rfl
theorem tb1 : evLoad (tb k n s c :: G) false 1 (.ptr 0 1) = some (.v (.string s)) := rfl
theorem tb2 : evLoad (tb k n s c :: G) false 1 (.ptr 0 2) = some (.v (.int .i64 n)) := rfl
theorem tb3 : evLoad (tb k n s c :: G) false 1 (.ptr 0 3) = some c := rfl
theorem tb4 : evLoad (tb k n s c :: G) true 4 (.ptr 0 0) = some (.agg [.v (.int .i64 k), .v (.string s), .v (.int .i64 n), c]) := rfl
theorem tbx : bx [] 24 (some [.v (.int .i64 k), .v (.string s), .v (.int .i64 n), c]) = some (.ptr 0 0, [tb k n s c]) := rfl
end

def V54 (b : Bool) (i : Int) (x11 : AV) : List AV := [.junk, .ptr 0 0, .junk, .junk, .v (.bool b), .v (.int .i64 i), .junk, .junk, .junk, .junk, .junk, x11]
def K54 : List Bool := [false, true, false, false, true, true, false, false, false, false, false, false]
theorem may_ok : ∀ (N : Nat) (t : Tm) (a : AV), SizeOf.sizeOf t < N → IsT a t → callW F 54 [a] [] = some (.v (.bool (mayT t)), []) := by
  intro N
  induction N with
  | zero => intro t a h; omega
  | succ N ih =>
    intro t a hN ha
    cases ha with
    | mk k s n c l hc =>
    obtain ⟨es, hs, hes, hm⟩ := hc.sl
    have hll := hes.length
    refine callW_pure (c := c54) rfl rfl (l.length + 1) ?_
    have q1 := fun h : List AO => hs.len h
    rw [hll] at q1
    have hchk := chk_ok s
    have loop : ∀ (b0 : Bool) (v : List AV), clr K54 v = V54 b0 0 .junk → ∃ x11, ∃ i : Int, loopN (exec (callW F) (l.length + 1) c54_15) K54 (l.length + 1) v [tb k n s c] = some (.exit 1, V54 (b0 && mayL l) i x11, [tb k n s c]) := by
      intro b0 v hv
      obtain ⟨e, v', h', g1, g2, g3⟩ := loop_rule0 (call := callW F) (K := l.length + 1) (b := c54_15) (keep := K54)
        (fun i v h => ∃ b, v = V54 b i .junk ∧ (b && mayL (l.drop i)) = (b0 && mayL l) ∧ h = [tb k n s c])
        (fun e v h => e = .exit 1 ∧ (∃ x11, ∃ i : Int, v = V54 (b0 && mayL l) i x11) ∧ h = [tb k n s c])
        l.length (m := l.length + 1) (v := v) (h := [tb k n s c]) (by omega) ⟨b0, hv, rfl, rfl⟩ (by
          rintro i v h hi ⟨b, rfl, hR, rfl⟩
          cases b with
          | false =>
            rw [Bool.false_and] at hR
            refine ⟨.exit 1, V54 false i (.v (.bool false)), _, ?_, rfl, ⟨_, i, by rw [← hR]⟩, rfl⟩
            simp only [V54, c54_15, c54_12, run_nil, run_cons, stp_plain, stp_guard, put_some, pass_eq, pick_tt, pick_ff, pick_tf, pick_ft, pick_u, reg_some, thn_normal, thn_exit, thn_ret, cnd_t, cnd_f, blk_normal, blk_ret, blk_exit, x_seq, x_region, x_cond, x_block, x_loop, x_ret, x_exit, x_skip, e_mov, e_pick, pk_t, pk_f, withH_some, e_box, e_load, e_store, stH_some, e_nil, e_bin, e_eqv, eqH_f, eqH_t, e_un, e_fa, e_ia, ia_eq, nat_eq, natV_nat, e_len, lnH_some, e_extract, ex_0, ex_1, e_call0, e_call1, e_call2, e_call3, pc0_eq, pc1_some, pc2_some, pc3_some, fin_some, g_var0, g_vars, g_loc0, g_locs, g_int, g_bool, g_str, g_sl, s_none, s_zero, s_succ, cl_nil, cl_str, cl_bool, cl_slc, cl_own, evFa, evNil, asEl, evBin, intBin, strBin, evUn, len_nil, len_slc, len_str, clr, List.length_nil, List.length_cons, List.getElem?_cons_zero, List.getElem?_cons_succ, Nat.reduceAdd, Nat.zero_add, Nat.add_zero, Nat.reduceLeDiff, Nat.reduceSub, ↓reduceIte, List.drop_succ_cons, List.drop_zero, List.take_succ_cons, List.take_zero, Bool.false_eq_true, List.nil_append, List.cons_append, Bool.not_true, Bool.not_false, cond_true, cond_false, bne, lv_ret, lv_normal, res1, res2, lv2_some, res_var, res_cell, lvf_v, lvf_slc, res1c, lvo1_some, e_mm, mm_max, mm_min, cl_agg, cl_int, g_agg, e_callv1, cv1_fn, e_slice2, e_clrrow, e_callf2, pick_und, cells_agg, Option.map_some, Option.map_none, bx_some]
          | true =>
            by_cases hil' : i < l.length
            · have hil : i < es.length := by omega
              have hT := hes.at hil hil'
              have hlt := lt_t hil'
              have he : es[i]? = some es[i] := List.getElem?_eq_getElem hil
              have q2 := fun h : List AO => hs.ia he h
              have hf := hT.facts
              have hd : l.drop i = l[i] :: l.drop (i + 1) := List.drop_eq_getElem_cons hil'
              have hw := wrap_succ hil hm
              have hc := ih l[i] es[i] (by have := IsL.mem_size (k := k) (n := n) (s := s) (List.getElem_mem hil'); omega) hT
              rw [hd, mayL, Bool.true_and] at hR
              refine ⟨.normal, V54 (mayT l[i]) ((i + 1 : Nat) : Int) (.v (.bool true)), [tb k n s c], ?_, hil', _, rfl, hR, rfl⟩
              simp only [V54, c54_15, c54_12, c54_13, c54_14, hlt, q1, q2, hf, hc, hw, tb3, run_nil, run_cons, stp_plain, stp_guard, put_some, pass_eq, pick_tt, pick_ff, pick_tf, pick_ft, pick_u, reg_some, thn_normal, thn_exit, thn_ret, cnd_t, cnd_f, blk_normal, blk_ret, blk_exit, x_seq, x_region, x_cond, x_block, x_loop, x_ret, x_exit, x_skip, e_mov, e_pick, pk_t, pk_f, withH_some, e_box, e_load, e_store, stH_some, e_nil, e_bin, e_eqv, eqH_f, eqH_t, e_un, e_fa, e_ia, ia_eq, nat_eq, natV_nat, e_len, lnH_some, e_extract, ex_0, ex_1, e_call0, e_call1, e_call2, e_call3, pc0_eq, pc1_some, pc2_some, pc3_some, fin_some, g_var0, g_vars, g_loc0, g_locs, g_int, g_bool, g_str, g_sl, s_none, s_zero, s_succ, cl_nil, cl_str, cl_bool, cl_slc, cl_own, evFa, evNil, asEl, evBin, intBin, strBin, evUn, len_nil, len_slc, len_str, clr, List.length_nil, List.length_cons, List.getElem?_cons_zero, List.getElem?_cons_succ, Nat.reduceAdd, Nat.zero_add, Nat.add_zero, Nat.reduceLeDiff, Nat.reduceSub, ↓reduceIte, List.drop_succ_cons, List.drop_zero, List.take_succ_cons, List.take_zero, Bool.false_eq_true, List.nil_append, List.cons_append, Bool.not_true, Bool.not_false, cond_true, cond_false, bne, lv_ret, lv_normal, res1, res2, lv2_some, res_var, res_cell, lvf_v, lvf_slc, res1c, lvo1_some, e_mm, mm_max, mm_min, cl_agg, cl_int, g_agg, e_callv1, cv1_fn, e_slice2, e_clrrow, e_callf2, pick_und, cells_agg, Option.map_some, Option.map_none, bx_some]
            · have hie : i = l.length := by omega
              subst hie
              have hlt := lt_f (n := l.length)
              rw [List.drop_of_length_le (Nat.le_refl _), mayL, Bool.and_true] at hR
              refine ⟨.exit 1, V54 true l.length (.v (.bool false)), _, ?_, rfl, ⟨_, _, by rw [← hR]⟩, rfl⟩
              simp only [V54, c54_15, c54_12, hlt, q1, tb3, run_nil, run_cons, stp_plain, stp_guard, put_some, pass_eq, pick_tt, pick_ff, pick_tf, pick_ft, pick_u, reg_some, thn_normal, thn_exit, thn_ret, cnd_t, cnd_f, blk_normal, blk_ret, blk_exit, x_seq, x_region, x_cond, x_block, x_loop, x_ret, x_exit, x_skip, e_mov, e_pick, pk_t, pk_f, withH_some, e_box, e_load, e_store, stH_some, e_nil, e_bin, e_eqv, eqH_f, eqH_t, e_un, e_fa, e_ia, ia_eq, nat_eq, natV_nat, e_len, lnH_some, e_extract, ex_0, ex_1, e_call0, e_call1, e_call2, e_call3, pc0_eq, pc1_some, pc2_some, pc3_some, fin_some, g_var0, g_vars, g_loc0, g_locs, g_int, g_bool, g_str, g_sl, s_none, s_zero, s_succ, cl_nil, cl_str, cl_bool, cl_slc, cl_own, evFa, evNil, asEl, evBin, intBin, strBin, evUn, len_nil, len_slc, len_str, clr, List.length_nil, List.length_cons, List.getElem?_cons_zero, List.getElem?_cons_succ, Nat.reduceAdd, Nat.zero_add, Nat.add_zero, Nat.reduceLeDiff, Nat.reduceSub, ↓reduceIte, List.drop_succ_cons, List.drop_zero, List.take_succ_cons, List.take_zero, Bool.false_eq_true, List.nil_append, List.cons_append, Bool.not_true, Bool.not_false, cond_true, cond_false, bne, lv_ret, lv_normal, res1, res2, lv2_some, res_var, res_cell, lvf_v, lvf_slc, res1c, lvo1_some, e_mm, mm_max, mm_min, cl_agg, cl_int, g_agg, e_callv1, cv1_fn, e_slice2, e_clrrow, e_callf2, pick_und, cells_agg, Option.map_some, Option.map_none, bx_some])
      obtain ⟨rfl, ⟨x11, i, rfl⟩, rfl⟩ := g3
      exact ⟨x11, i, g1⟩
    rw [mayT]
    rw [show c54.body = (.seq (.region [] [] c54_0) (.seq (.region [] [] c54_1) (.seq (.seq (.region [] [] c54_2) (.block 0 (.seq (.region [] [] c54_3) (.cond (.var 7) (.seq (.region [] [] c54_4) .ret) (.seq (.region [] [] c54_5) (.cond (.var 8) (.seq (.region [] [] c54_6) .ret) (.seq (.region [] [] c54_7) (.cond (.var 9) (.seq (.region [] [] c54_8) .ret) (.seq (.region [] [] c54_9) (.cond (.var 10) (.seq (.region [] [] c54_10) (.seq (.seq (.region [] [] c54_11) (.block 1 (.loop K54 [] c54_15))) (.seq (.region [] [] c54_16) .ret))) .skip)))))))))) (.seq (.region [] [] c54_17) .ret)))) from rfl, show c54.res = [.var 2] from rfl]
    rw [show start c54 [.agg [.v (.int .i64 k), .v (.string s), .v (.int .i64 n), c]] = [.agg [.v (.int .i64 k), .v (.string s), .v (.int .i64 n), c], .v undef, .v undef, .v undef, .v undef, .v undef, .v undef, .v undef, .v undef, .v undef, .v undef, .v undef] from rfl]
    generalize c54_15 = bb at loop ⊢
    generalize hA : ((l.length : Int) == 0) = A
    generalize hB : noS s = B
    unfold noS at hB
    generalize hC : decide (n ≥ 0) = C
    generalize hD : (n == 0) = D
    generalize hE : decide ((l.length : Int) ≤ 16) = E
    generalize chkS s = G at hchk ⊢
    cases h1 : (k == 1) with
    | true => cases A <;> cases B <;> simp only [c54_0, c54_1, c54_2, c54_3, c54_4, tbx, tb0, tb1, tb2, tb3, q1, h1, hA, hB, hC, Bool.true_and, Bool.false_and, Bool.and_self, run_nil, run_cons, stp_plain, stp_guard, put_some, pass_eq, pick_tt, pick_ff, pick_tf, pick_ft, pick_u, reg_some, thn_normal, thn_exit, thn_ret, cnd_t, cnd_f, blk_normal, blk_ret, blk_exit, x_seq, x_region, x_cond, x_block, x_loop, x_ret, x_exit, x_skip, e_mov, e_pick, pk_t, pk_f, withH_some, e_box, e_load, e_store, stH_some, e_nil, e_bin, e_eqv, eqH_f, eqH_t, e_un, e_fa, e_ia, ia_eq, nat_eq, natV_nat, e_len, lnH_some, e_extract, ex_0, ex_1, e_call0, e_call1, e_call2, e_call3, pc0_eq, pc1_some, pc2_some, pc3_some, fin_some, g_var0, g_vars, g_loc0, g_locs, g_int, g_bool, g_str, g_sl, s_none, s_zero, s_succ, cl_nil, cl_str, cl_bool, cl_slc, cl_own, evFa, evNil, asEl, evBin, intBin, strBin, evUn, len_nil, len_slc, len_str, clr, List.length_nil, List.length_cons, List.getElem?_cons_zero, List.getElem?_cons_succ, Nat.reduceAdd, Nat.zero_add, Nat.add_zero, Nat.reduceLeDiff, Nat.reduceSub, ↓reduceIte, List.drop_succ_cons, List.drop_zero, List.take_succ_cons, List.take_zero, Bool.false_eq_true, List.nil_append, List.cons_append, Bool.not_true, Bool.not_false, cond_true, cond_false, bne, lv_ret, lv_normal, res1, res2, lv2_some, res_var, res_cell, lvf_v, lvf_slc, res1c, lvo1_some, e_mm, mm_max, mm_min, cl_agg, cl_int, g_agg, e_callv1, cv1_fn, e_slice2, e_clrrow, e_callf2, pick_und, cells_agg, Option.map_some, Option.map_none]
    | false =>
    cases h3 : (k == 3) with
    | true =>
      have h2 : (k == 2) = false := by simp at h3 ⊢; omega
      cases A <;> simp only [c54_0, c54_1, c54_2, c54_3, c54_4, c54_5, c54_6, tbx, tb0, tb1, tb2, tb3, q1, h1, h2, h3, hA, hB, Bool.true_and, Bool.false_and, run_nil, run_cons, stp_plain, stp_guard, put_some, pass_eq, pick_tt, pick_ff, pick_tf, pick_ft, pick_u, reg_some, thn_normal, thn_exit, thn_ret, cnd_t, cnd_f, blk_normal, blk_ret, blk_exit, x_seq, x_region, x_cond, x_block, x_loop, x_ret, x_exit, x_skip, e_mov, e_pick, pk_t, pk_f, withH_some, e_box, e_load, e_store, stH_some, e_nil, e_bin, e_eqv, eqH_f, eqH_t, e_un, e_fa, e_ia, ia_eq, nat_eq, natV_nat, e_len, lnH_some, e_extract, ex_0, ex_1, e_call0, e_call1, e_call2, e_call3, pc0_eq, pc1_some, pc2_some, pc3_some, fin_some, g_var0, g_vars, g_loc0, g_locs, g_int, g_bool, g_str, g_sl, s_none, s_zero, s_succ, cl_nil, cl_str, cl_bool, cl_slc, cl_own, evFa, evNil, asEl, evBin, intBin, strBin, evUn, len_nil, len_slc, len_str, clr, List.length_nil, List.length_cons, List.getElem?_cons_zero, List.getElem?_cons_succ, Nat.reduceAdd, Nat.zero_add, Nat.add_zero, Nat.reduceLeDiff, Nat.reduceSub, ↓reduceIte, List.drop_succ_cons, List.drop_zero, List.take_succ_cons, List.take_zero, Bool.false_eq_true, List.nil_append, List.cons_append, Bool.not_true, Bool.not_false, cond_true, cond_false, bne, lv_ret, lv_normal, res1, res2, lv2_some, res_var, res_cell, lvf_v, lvf_slc, res1c, lvo1_some, e_mm, mm_max, mm_min, cl_agg, cl_int, g_agg, e_callv1, cv1_fn, e_slice2, e_clrrow, e_callf2, pick_und, cells_agg, Option.map_some, Option.map_none]
    | false =>
    cases h2 : (k == 2) with
    | true => cases A <;> cases D <;> simp only [c54_0, c54_1, c54_2, c54_3, c54_4, c54_5, c54_6, c54_7, c54_8, tbx, tb0, tb1, tb2, tb3, q1, h1, h2, h3, hA, hD, hchk, snap_str, Bool.true_and, Bool.false_and, run_nil, run_cons, stp_plain, stp_guard, put_some, pass_eq, pick_tt, pick_ff, pick_tf, pick_ft, pick_u, reg_some, thn_normal, thn_exit, thn_ret, cnd_t, cnd_f, blk_normal, blk_ret, blk_exit, x_seq, x_region, x_cond, x_block, x_loop, x_ret, x_exit, x_skip, e_mov, e_pick, pk_t, pk_f, withH_some, e_box, e_load, e_store, stH_some, e_nil, e_bin, e_eqv, eqH_f, eqH_t, e_un, e_fa, e_ia, ia_eq, nat_eq, natV_nat, e_len, lnH_some, e_extract, ex_0, ex_1, e_call0, e_call1, e_call2, e_call3, pc0_eq, pc1_some, pc2_some, pc3_some, fin_some, g_var0, g_vars, g_loc0, g_locs, g_int, g_bool, g_str, g_sl, s_none, s_zero, s_succ, cl_nil, cl_str, cl_bool, cl_slc, cl_own, evFa, evNil, asEl, evBin, intBin, strBin, evUn, len_nil, len_slc, len_str, clr, List.length_nil, List.length_cons, List.getElem?_cons_zero, List.getElem?_cons_succ, Nat.reduceAdd, Nat.zero_add, Nat.add_zero, Nat.reduceLeDiff, Nat.reduceSub, ↓reduceIte, List.drop_succ_cons, List.drop_zero, List.take_succ_cons, List.take_zero, Bool.false_eq_true, List.nil_append, List.cons_append, Bool.not_true, Bool.not_false, cond_true, cond_false, bne, lv_ret, lv_normal, res1, res2, lv2_some, res_var, res_cell, lvf_v, lvf_slc, res1c, lvo1_some, e_mm, mm_max, mm_min, cl_agg, cl_int, g_agg, e_callv1, cv1_fn, e_slice2, e_clrrow, e_callf2, pick_und, cells_agg, Option.map_some, Option.map_none]
    | false =>
    cases h4 : (k == 4) with
    | false => simp only [c54_0, c54_1, c54_2, c54_3, c54_4, c54_5, c54_6, c54_7, c54_8, c54_9, c54_17, tbx, tb0, tb1, tb2, tb3, q1, h1, h2, h3, h4, run_nil, run_cons, stp_plain, stp_guard, put_some, pass_eq, pick_tt, pick_ff, pick_tf, pick_ft, pick_u, reg_some, thn_normal, thn_exit, thn_ret, cnd_t, cnd_f, blk_normal, blk_ret, blk_exit, x_seq, x_region, x_cond, x_block, x_loop, x_ret, x_exit, x_skip, e_mov, e_pick, pk_t, pk_f, withH_some, e_box, e_load, e_store, stH_some, e_nil, e_bin, e_eqv, eqH_f, eqH_t, e_un, e_fa, e_ia, ia_eq, nat_eq, natV_nat, e_len, lnH_some, e_extract, ex_0, ex_1, e_call0, e_call1, e_call2, e_call3, pc0_eq, pc1_some, pc2_some, pc3_some, fin_some, g_var0, g_vars, g_loc0, g_locs, g_int, g_bool, g_str, g_sl, s_none, s_zero, s_succ, cl_nil, cl_str, cl_bool, cl_slc, cl_own, evFa, evNil, asEl, evBin, intBin, strBin, evUn, len_nil, len_slc, len_str, clr, List.length_nil, List.length_cons, List.getElem?_cons_zero, List.getElem?_cons_succ, Nat.reduceAdd, Nat.zero_add, Nat.add_zero, Nat.reduceLeDiff, Nat.reduceSub, ↓reduceIte, List.drop_succ_cons, List.drop_zero, List.take_succ_cons, List.take_zero, Bool.false_eq_true, List.nil_append, List.cons_append, Bool.not_true, Bool.not_false, cond_true, cond_false, bne, lv_ret, lv_normal, res1, res2, lv2_some, res_var, res_cell, lvf_v, lvf_slc, res1c, lvo1_some, e_mm, mm_max, mm_min, cl_agg, cl_int, g_agg, e_callv1, cv1_fn, e_slice2, e_clrrow, e_callf2, pick_und, cells_agg, Option.map_some, Option.map_none]
    | true =>
      have fin : ∀ (v : List AV) (b0 : Bool), clr K54 v = V54 b0 0 .junk → ∃ x11, ∃ i : Int, loopN (exec (callW F) (l.length + 1) bb) K54 (l.length + 1) v [tb k n s c] = some (.exit 1, V54 (b0 && mayL l) i x11, [tb k n s c]) := fun v b0 hv => loop b0 v hv
      obtain ⟨y1, i1, p1⟩ := fin [.agg [.v (.int .i64 k), .v (.string s), .v (.int .i64 n), c], .ptr 0 0, .v (.bool false), .v (.bool A), .v (.bool (!A && (D && (E && G)))), .v (.int .i64 0), .v (.int .i64 k), .v (.bool false), .v (.bool false), .v (.bool false), .v (.bool true), .v undef] (!A && (D && (E && G))) rfl
      cases A <;> cases D <;> cases E <;> simp only [Bool.not_true, Bool.not_false, Bool.true_and, Bool.false_and] at p1 <;>
        simp only [c54_0, c54_1, c54_2, c54_3, c54_4, c54_5, c54_6, c54_7, c54_8, c54_9, c54_10, c54_11, c54_16, V54, tbx, tb0, tb1, tb2, tb3, q1, h1, h2, h3, h4, hA, hD, hE, hchk, p1, snap_str, Bool.true_and, Bool.false_and, run_nil, run_cons, stp_plain, stp_guard, put_some, pass_eq, pick_tt, pick_ff, pick_tf, pick_ft, pick_u, reg_some, thn_normal, thn_exit, thn_ret, cnd_t, cnd_f, blk_normal, blk_ret, blk_exit, x_seq, x_region, x_cond, x_block, x_loop, x_ret, x_exit, x_skip, e_mov, e_pick, pk_t, pk_f, withH_some, e_box, e_load, e_store, stH_some, e_nil, e_bin, e_eqv, eqH_f, eqH_t, e_un, e_fa, e_ia, ia_eq, nat_eq, natV_nat, e_len, lnH_some, e_extract, ex_0, ex_1, e_call0, e_call1, e_call2, e_call3, pc0_eq, pc1_some, pc2_some, pc3_some, fin_some, g_var0, g_vars, g_loc0, g_locs, g_int, g_bool, g_str, g_sl, s_none, s_zero, s_succ, cl_nil, cl_str, cl_bool, cl_slc, cl_own, evFa, evNil, asEl, evBin, intBin, strBin, evUn, len_nil, len_slc, len_str, clr, List.length_nil, List.length_cons, List.getElem?_cons_zero, List.getElem?_cons_succ, Nat.reduceAdd, Nat.zero_add, Nat.add_zero, Nat.reduceLeDiff, Nat.reduceSub, ↓reduceIte, List.drop_succ_cons, List.drop_zero, List.take_succ_cons, List.take_zero, Bool.false_eq_true, List.nil_append, List.cons_append, Bool.not_true, Bool.not_false, cond_true, cond_false, bne, lv_ret, lv_normal, res1, res2, lv2_some, res_var, res_cell, lvf_v, lvf_slc, res1c, lvo1_some, e_mm, mm_max, mm_min, cl_agg, cl_int, g_agg, e_callv1, cv1_fn, e_slice2, e_clrrow, e_callf2, pick_und, cells_agg, Option.map_some, Option.map_none]
end Go.AE.YtgcbaefclkfnoaaDoor
end

/-! The document's Check; the program's. -/
section
set_option linter.unusedVariables false
set_option linter.unusedSimpArgs false
namespace Go.AE.YtgcbaefclkfnoaaDoor
open Go Go.AE Go.Proofs.YtgcbaefclkfnoaaDoor

def V43 (c : AV) (n i : Int) (x3 x13 x14 : AV) : List AV := [.junk, .junk, .junk, x3, .junk, .junk, .junk, .junk, .junk, .junk, c, .v (.int .i64 n), .v (.int .i64 i), x13, x14]
def K43 : List Bool := [false, false, false, false, false, false, false, false, false, false, true, true, true, false, false]
theorem rmay_ok : ∀ (N : Nat) (t : Tm) (a : AV), SizeOf.sizeOf t < N → IsT a t → callW F 43 [a] [] = some (.v (.bool (mayT t)), []) := by
  intro N
  induction N with
  | zero => intro t a h; omega
  | succ N ih =>
    intro t a hN ha
    cases ha with
    | mk k s n c l hc =>
    obtain ⟨es, hs, hes, hm⟩ := hc.sl
    have hll := hes.length
    refine callW_pure (c := c43) rfl rfl (l.length + 1) ?_
    have q1 := fun h : List AO => hs.len h
    rw [hll] at q1
    have hchk := rchk_ok s
    have loop : ∀ (v : List AV), clr K43 v = V43 c l.length 0 .junk .junk .junk → (mayL l = true ∧ ∃ x3 x14 h, loopN (exec (callW F) (l.length + 1) c43_17) K43 (l.length + 1) v [tb k n s c] = some (.exit 1, V43 c l.length l.length x3 (.v (.bool false)) x14, h)) ∨
        (mayL l = false ∧ ∃ v' h, loopN (exec (callW F) (l.length + 1) c43_17) K43 (l.length + 1) v [tb k n s c] = some (.ret, v', h) ∧ getO v' [] (.var 2) = .v (.bool false)) := by
      intro v hv
      obtain ⟨e, v', h', g1, g2, g3⟩ := loop_rule0 (call := callW F) (K := l.length + 1) (b := c43_17) (keep := K43)
        (fun i v h => v = V43 c l.length i .junk .junk .junk ∧ mayL (l.drop i) = mayL l)
        (fun e v h => (e = .exit 1 ∧ mayL l = true ∧ ∃ x3 x14, v = V43 c l.length l.length x3 (.v (.bool false)) x14) ∨ (e = .ret ∧ mayL l = false ∧ getO v [] (.var 2) = .v (.bool false)))
        l.length (m := l.length + 1) (v := v) (h := [tb k n s c]) (by omega) ⟨hv, rfl⟩ (by
          rintro i v h hi ⟨rfl, hR⟩
          by_cases hil' : i < l.length
          · have hil : i < es.length := by omega
            have hT := hes.at hil hil'
            have hlt := lt_t hil'
            have he : es[i]? = some es[i] := List.getElem?_eq_getElem hil
            have q2 := fun h : List AO => hs.ia he h
            have hf := hT.facts
            have hd : l.drop i = l[i] :: l.drop (i + 1) := List.drop_eq_getElem_cons hil'
            have hw := wrap_succ hil hm
            have hc := ih l[i] es[i] (by have := IsL.mem_size (k := k) (n := n) (s := s) (List.getElem_mem hil'); omega) hT
            rw [hd, mayL] at hR
            cases hb : mayT l[i] with
            | true =>
              rw [hb] at hc hR
              rw [Bool.true_and] at hR
              refine ⟨.normal, V43 c l.length ((i + 1 : Nat) : Int) (.ptr h.length 0) (.v (.bool true)) (.v (.bool false)), h ++ [.box 24 es[i].cells], ?_, hil', rfl, hR⟩
              simp only [V43, c43_17, c43_12, c43_13, c43_14, c43_16, hlt, q2, hf, hc, hw, q9z, run_nil, run_cons, stp_plain, stp_guard, put_some, pass_eq, pick_tt, pick_ff, pick_tf, pick_ft, pick_u, reg_some, thn_normal, thn_exit, thn_ret, cnd_t, cnd_f, blk_normal, blk_ret, blk_exit, x_seq, x_region, x_cond, x_block, x_loop, x_ret, x_exit, x_skip, e_mov, e_pick, pk_t, pk_f, withH_some, e_box, e_load, e_store, stH_some, e_nil, e_bin, e_eqv, eqH_f, eqH_t, e_un, e_fa, e_ia, ia_eq, nat_eq, natV_nat, e_len, lnH_some, e_extract, ex_0, ex_1, e_call0, e_call1, e_call2, e_call3, pc0_eq, pc1_some, pc2_some, pc3_some, fin_some, g_var0, g_vars, g_loc0, g_locs, g_int, g_bool, g_str, g_sl, s_none, s_zero, s_succ, cl_nil, cl_str, cl_bool, cl_slc, cl_own, evFa, evNil, asEl, evBin, intBin, strBin, evUn, len_nil, len_slc, len_str, clr, List.length_nil, List.length_cons, List.getElem?_cons_zero, List.getElem?_cons_succ, Nat.reduceAdd, Nat.zero_add, Nat.add_zero, Nat.reduceLeDiff, Nat.reduceSub, ↓reduceIte, List.drop_succ_cons, List.drop_zero, List.take_succ_cons, List.take_zero, Bool.false_eq_true, List.nil_append, List.cons_append, Bool.not_true, Bool.not_false, cond_true, cond_false, bne, lv_ret, lv_normal, res1, res2, lv2_some, res_var, res_cell, lvf_v, lvf_slc, res1c, lvo1_some, e_mm, mm_max, mm_min, cl_agg, cl_int, g_agg, e_callv1, cv1_fn, e_slice2, e_clrrow, e_callf2, pick_und, cells_agg, Option.map_some, Option.map_none, bx_some]
            | false =>
              rw [hb] at hc hR
              rw [Bool.false_and] at hR
              refine ⟨.ret, [.junk, .junk, .v (.bool false), .ptr h.length 0, .junk, .junk, .junk, .junk, .junk, .junk, c, .v (.int .i64 l.length), .v (.int .i64 i), .v (.bool true), .v (.bool true)], h ++ [.box 24 es[i].cells], ?_, .inr ⟨rfl, hR.symm, rfl⟩⟩
              simp only [V43, c43_17, c43_12, c43_13, c43_14, c43_15, hlt, q2, hf, hc, hw, q9z, run_nil, run_cons, stp_plain, stp_guard, put_some, pass_eq, pick_tt, pick_ff, pick_tf, pick_ft, pick_u, reg_some, thn_normal, thn_exit, thn_ret, cnd_t, cnd_f, blk_normal, blk_ret, blk_exit, x_seq, x_region, x_cond, x_block, x_loop, x_ret, x_exit, x_skip, e_mov, e_pick, pk_t, pk_f, withH_some, e_box, e_load, e_store, stH_some, e_nil, e_bin, e_eqv, eqH_f, eqH_t, e_un, e_fa, e_ia, ia_eq, nat_eq, natV_nat, e_len, lnH_some, e_extract, ex_0, ex_1, e_call0, e_call1, e_call2, e_call3, pc0_eq, pc1_some, pc2_some, pc3_some, fin_some, g_var0, g_vars, g_loc0, g_locs, g_int, g_bool, g_str, g_sl, s_none, s_zero, s_succ, cl_nil, cl_str, cl_bool, cl_slc, cl_own, evFa, evNil, asEl, evBin, intBin, strBin, evUn, len_nil, len_slc, len_str, clr, List.length_nil, List.length_cons, List.getElem?_cons_zero, List.getElem?_cons_succ, Nat.reduceAdd, Nat.zero_add, Nat.add_zero, Nat.reduceLeDiff, Nat.reduceSub, ↓reduceIte, List.drop_succ_cons, List.drop_zero, List.take_succ_cons, List.take_zero, Bool.false_eq_true, List.nil_append, List.cons_append, Bool.not_true, Bool.not_false, cond_true, cond_false, bne, lv_ret, lv_normal, res1, res2, lv2_some, res_var, res_cell, lvf_v, lvf_slc, res1c, lvo1_some, e_mm, mm_max, mm_min, cl_agg, cl_int, g_agg, e_callv1, cv1_fn, e_slice2, e_clrrow, e_callf2, pick_und, cells_agg, Option.map_some, Option.map_none, bx_some]
          · have hie : i = l.length := by omega
            subst hie
            have hlt := lt_f (n := l.length)
            rw [List.drop_of_length_le (Nat.le_refl _), mayL] at hR
            refine ⟨.exit 1, V43 c l.length l.length .junk (.v (.bool false)) .junk, h, ?_, .inl ⟨rfl, hR.symm, _, _, rfl⟩⟩
            simp only [V43, c43_17, c43_12, hlt, run_nil, run_cons, stp_plain, stp_guard, put_some, pass_eq, pick_tt, pick_ff, pick_tf, pick_ft, pick_u, reg_some, thn_normal, thn_exit, thn_ret, cnd_t, cnd_f, blk_normal, blk_ret, blk_exit, x_seq, x_region, x_cond, x_block, x_loop, x_ret, x_exit, x_skip, e_mov, e_pick, pk_t, pk_f, withH_some, e_box, e_load, e_store, stH_some, e_nil, e_bin, e_eqv, eqH_f, eqH_t, e_un, e_fa, e_ia, ia_eq, nat_eq, natV_nat, e_len, lnH_some, e_extract, ex_0, ex_1, e_call0, e_call1, e_call2, e_call3, pc0_eq, pc1_some, pc2_some, pc3_some, fin_some, g_var0, g_vars, g_loc0, g_locs, g_int, g_bool, g_str, g_sl, s_none, s_zero, s_succ, cl_nil, cl_str, cl_bool, cl_slc, cl_own, evFa, evNil, asEl, evBin, intBin, strBin, evUn, len_nil, len_slc, len_str, clr, List.length_nil, List.length_cons, List.getElem?_cons_zero, List.getElem?_cons_succ, Nat.reduceAdd, Nat.zero_add, Nat.add_zero, Nat.reduceLeDiff, Nat.reduceSub, ↓reduceIte, List.drop_succ_cons, List.drop_zero, List.take_succ_cons, List.take_zero, Bool.false_eq_true, List.nil_append, List.cons_append, Bool.not_true, Bool.not_false, cond_true, cond_false, bne, lv_ret, lv_normal, res1, res2, lv2_some, res_var, res_cell, lvf_v, lvf_slc, res1c, lvo1_some, e_mm, mm_max, mm_min, cl_agg, cl_int, g_agg, e_callv1, cv1_fn, e_slice2, e_clrrow, e_callf2, pick_und, cells_agg, Option.map_some, Option.map_none, bx_some])
      rcases g3 with ⟨rfl, h1, x3, x14, rfl⟩ | ⟨rfl, h1, h2⟩
      · exact .inl ⟨h1, x3, x14, h', g1⟩
      · exact .inr ⟨h1, v', h', g1, h2⟩
    rw [mayT]
    rw [show c43.body = (.seq (.region [] [] c43_0) (.seq (.seq (.region [] [] c43_1) (.block 0 (.seq (.region [] [] c43_2) (.cond (.var 5) (.seq (.region [] [] c43_3) .ret) (.seq (.region [] [] c43_4) (.cond (.var 6) (.seq (.region [] [] c43_5) .ret) (.seq (.region [] [] c43_6) (.cond (.var 7) (.seq (.region [] [] c43_7) .ret) (.seq (.region [] [] c43_8) (.cond (.var 8) (.seq (.seq (.region [] [] c43_9) (.cond (.var 9) (.seq (.region [] [] c43_10) .ret) .skip)) (.seq (.seq (.region [] [] c43_11) (.block 1 (.loop K43 [] c43_17))) (.seq (.region [] [] c43_18) .ret))) .skip)))))))))) (.seq (.region [] [] c43_19) .ret))) from rfl, show c43.res = [.var 2] from rfl]
    rw [show start c43 [.agg [.v (.int .i64 k), .v (.string s), .v (.int .i64 n), c]] = [.agg [.v (.int .i64 k), .v (.string s), .v (.int .i64 n), c], .v undef, .v undef, .v undef, .v undef, .v undef, .v undef, .v undef, .v undef, .v undef, .v undef, .v undef, .v undef, .v undef, .v undef] from rfl]
    generalize c43_17 = bb at loop ⊢
    have hA2 : decide ((l.length : Int) < 1) = ((l.length : Int) == 0) := by
      by_cases e : l.length = 0
      · rw [e]; rfl
      · rw [decide_eq_false (by omega)]; symm; simp only [beq_eq_false_iff_ne]; omega
    have hE2 : decide ((l.length : Int) > 16) = !decide ((l.length : Int) ≤ 16) := by
      by_cases e : (l.length : Int) ≤ 16
      · rw [decide_eq_true e, decide_eq_false (by omega)]; rfl
      · rw [decide_eq_false e, decide_eq_true (by omega)]; rfl
    generalize hA : ((l.length : Int) == 0) = A at hA2 ⊢
    generalize hB : noS s = B
    unfold noS at hB
    generalize hC : decide (n ≥ 0) = C
    generalize hD : (n == 0) = D
    generalize hE : decide ((l.length : Int) ≤ 16) = E at hE2 ⊢
    generalize chkS s = G at hchk ⊢
    cases h1 : (k == 1) with
    | true => cases A <;> cases B <;> cases C <;> simp only [c43_0, c43_1, c43_2, c43_3, tbx, tb0, tb1, tb2, tb3, q1, h1, hA, hB, hC, Bool.true_and, Bool.false_and, Bool.and_self, run_nil, run_cons, stp_plain, stp_guard, put_some, pass_eq, pick_tt, pick_ff, pick_tf, pick_ft, pick_u, reg_some, thn_normal, thn_exit, thn_ret, cnd_t, cnd_f, blk_normal, blk_ret, blk_exit, x_seq, x_region, x_cond, x_block, x_loop, x_ret, x_exit, x_skip, e_mov, e_pick, pk_t, pk_f, withH_some, e_box, e_load, e_store, stH_some, e_nil, e_bin, e_eqv, eqH_f, eqH_t, e_un, e_fa, e_ia, ia_eq, nat_eq, natV_nat, e_len, lnH_some, e_extract, ex_0, ex_1, e_call0, e_call1, e_call2, e_call3, pc0_eq, pc1_some, pc2_some, pc3_some, fin_some, g_var0, g_vars, g_loc0, g_locs, g_int, g_bool, g_str, g_sl, s_none, s_zero, s_succ, cl_nil, cl_str, cl_bool, cl_slc, cl_own, evFa, evNil, asEl, evBin, intBin, strBin, evUn, len_nil, len_slc, len_str, clr, List.length_nil, List.length_cons, List.getElem?_cons_zero, List.getElem?_cons_succ, Nat.reduceAdd, Nat.zero_add, Nat.add_zero, Nat.reduceLeDiff, Nat.reduceSub, ↓reduceIte, List.drop_succ_cons, List.drop_zero, List.take_succ_cons, List.take_zero, Bool.false_eq_true, List.nil_append, List.cons_append, Bool.not_true, Bool.not_false, cond_true, cond_false, bne, lv_ret, lv_normal, res1, res2, lv2_some, res_var, res_cell, lvf_v, lvf_slc, res1c, lvo1_some, e_mm, mm_max, mm_min, cl_agg, cl_int, g_agg, e_callv1, cv1_fn, e_slice2, e_clrrow, e_callf2, pick_und, cells_agg, Option.map_some, Option.map_none]
    | false =>
    cases h2 : (k == 2) with
    | true => cases A <;> cases D <;> cases G <;> simp only [c43_0, c43_1, c43_2, c43_3, c43_4, c43_5, tbx, tb0, tb1, tb2, tb3, q1, h1, h2, hA, hD, hchk, snap_str, Bool.true_and, Bool.false_and, run_nil, run_cons, stp_plain, stp_guard, put_some, pass_eq, pick_tt, pick_ff, pick_tf, pick_ft, pick_u, reg_some, thn_normal, thn_exit, thn_ret, cnd_t, cnd_f, blk_normal, blk_ret, blk_exit, x_seq, x_region, x_cond, x_block, x_loop, x_ret, x_exit, x_skip, e_mov, e_pick, pk_t, pk_f, withH_some, e_box, e_load, e_store, stH_some, e_nil, e_bin, e_eqv, eqH_f, eqH_t, e_un, e_fa, e_ia, ia_eq, nat_eq, natV_nat, e_len, lnH_some, e_extract, ex_0, ex_1, e_call0, e_call1, e_call2, e_call3, pc0_eq, pc1_some, pc2_some, pc3_some, fin_some, g_var0, g_vars, g_loc0, g_locs, g_int, g_bool, g_str, g_sl, s_none, s_zero, s_succ, cl_nil, cl_str, cl_bool, cl_slc, cl_own, evFa, evNil, asEl, evBin, intBin, strBin, evUn, len_nil, len_slc, len_str, clr, List.length_nil, List.length_cons, List.getElem?_cons_zero, List.getElem?_cons_succ, Nat.reduceAdd, Nat.zero_add, Nat.add_zero, Nat.reduceLeDiff, Nat.reduceSub, ↓reduceIte, List.drop_succ_cons, List.drop_zero, List.take_succ_cons, List.take_zero, Bool.false_eq_true, List.nil_append, List.cons_append, Bool.not_true, Bool.not_false, cond_true, cond_false, bne, lv_ret, lv_normal, res1, res2, lv2_some, res_var, res_cell, lvf_v, lvf_slc, res1c, lvo1_some, e_mm, mm_max, mm_min, cl_agg, cl_int, g_agg, e_callv1, cv1_fn, e_slice2, e_clrrow, e_callf2, pick_und, cells_agg, Option.map_some, Option.map_none]
    | false =>
    cases h3 : (k == 3) with
    | true => cases A <;> cases B <;> simp only [c43_0, c43_1, c43_2, c43_3, c43_4, c43_5, c43_6, c43_7, tbx, tb0, tb1, tb2, tb3, q1, h1, h2, h3, hA, hB, Bool.true_and, Bool.false_and, run_nil, run_cons, stp_plain, stp_guard, put_some, pass_eq, pick_tt, pick_ff, pick_tf, pick_ft, pick_u, reg_some, thn_normal, thn_exit, thn_ret, cnd_t, cnd_f, blk_normal, blk_ret, blk_exit, x_seq, x_region, x_cond, x_block, x_loop, x_ret, x_exit, x_skip, e_mov, e_pick, pk_t, pk_f, withH_some, e_box, e_load, e_store, stH_some, e_nil, e_bin, e_eqv, eqH_f, eqH_t, e_un, e_fa, e_ia, ia_eq, nat_eq, natV_nat, e_len, lnH_some, e_extract, ex_0, ex_1, e_call0, e_call1, e_call2, e_call3, pc0_eq, pc1_some, pc2_some, pc3_some, fin_some, g_var0, g_vars, g_loc0, g_locs, g_int, g_bool, g_str, g_sl, s_none, s_zero, s_succ, cl_nil, cl_str, cl_bool, cl_slc, cl_own, evFa, evNil, asEl, evBin, intBin, strBin, evUn, len_nil, len_slc, len_str, clr, List.length_nil, List.length_cons, List.getElem?_cons_zero, List.getElem?_cons_succ, Nat.reduceAdd, Nat.zero_add, Nat.add_zero, Nat.reduceLeDiff, Nat.reduceSub, ↓reduceIte, List.drop_succ_cons, List.drop_zero, List.take_succ_cons, List.take_zero, Bool.false_eq_true, List.nil_append, List.cons_append, Bool.not_true, Bool.not_false, cond_true, cond_false, bne, lv_ret, lv_normal, res1, res2, lv2_some, res_var, res_cell, lvf_v, lvf_slc, res1c, lvo1_some, e_mm, mm_max, mm_min, cl_agg, cl_int, g_agg, e_callv1, cv1_fn, e_slice2, e_clrrow, e_callf2, pick_und, cells_agg, Option.map_some, Option.map_none]
    | false =>
    cases h4 : (k == 4) with
    | false => simp only [c43_0, c43_1, c43_2, c43_3, c43_4, c43_5, c43_6, c43_7, c43_8, c43_19, tbx, tb0, tb1, tb2, tb3, q1, h1, h2, h3, h4, run_nil, run_cons, stp_plain, stp_guard, put_some, pass_eq, pick_tt, pick_ff, pick_tf, pick_ft, pick_u, reg_some, thn_normal, thn_exit, thn_ret, cnd_t, cnd_f, blk_normal, blk_ret, blk_exit, x_seq, x_region, x_cond, x_block, x_loop, x_ret, x_exit, x_skip, e_mov, e_pick, pk_t, pk_f, withH_some, e_box, e_load, e_store, stH_some, e_nil, e_bin, e_eqv, eqH_f, eqH_t, e_un, e_fa, e_ia, ia_eq, nat_eq, natV_nat, e_len, lnH_some, e_extract, ex_0, ex_1, e_call0, e_call1, e_call2, e_call3, pc0_eq, pc1_some, pc2_some, pc3_some, fin_some, g_var0, g_vars, g_loc0, g_locs, g_int, g_bool, g_str, g_sl, s_none, s_zero, s_succ, cl_nil, cl_str, cl_bool, cl_slc, cl_own, evFa, evNil, asEl, evBin, intBin, strBin, evUn, len_nil, len_slc, len_str, clr, List.length_nil, List.length_cons, List.getElem?_cons_zero, List.getElem?_cons_succ, Nat.reduceAdd, Nat.zero_add, Nat.add_zero, Nat.reduceLeDiff, Nat.reduceSub, ↓reduceIte, List.drop_succ_cons, List.drop_zero, List.take_succ_cons, List.take_zero, Bool.false_eq_true, List.nil_append, List.cons_append, Bool.not_true, Bool.not_false, cond_true, cond_false, bne, lv_ret, lv_normal, res1, res2, lv2_some, res_var, res_cell, lvf_v, lvf_slc, res1c, lvo1_some, e_mm, mm_max, mm_min, cl_agg, cl_int, g_agg, e_callv1, cv1_fn, e_slice2, e_clrrow, e_callf2, pick_und, cells_agg, Option.map_some, Option.map_none]
    | true =>
      have lp := loop [.agg [.v (.int .i64 k), .v (.string s), .v (.int .i64 n), c], .ptr 0 0, .v (.bool false), .v undef, .v (.int .i64 k), .v (.bool false), .v (.bool false), .v (.bool false), .v (.bool true), .v (.bool false), c, .v (.int .i64 l.length), .v (.int .i64 0), .v undef, .v undef] rfl
      rcases lp with ⟨p0, x3, x14, h', p1⟩ | ⟨p0, v', h', p1, p2⟩
      · rw [p0]
        cases A <;> cases D <;> cases E <;> cases G <;> simp only [c43_0, c43_1, c43_2, c43_3, c43_4, c43_5, c43_6, c43_7, c43_8, c43_9, c43_10, c43_11, c43_18, V43, tbx, tb0, tb1, tb2, tb3, q1, h1, h2, h3, h4, hA2, hD, hE2, hchk, p1, snap_str, Bool.true_and, Bool.false_and, run_nil, run_cons, stp_plain, stp_guard, put_some, pass_eq, pick_tt, pick_ff, pick_tf, pick_ft, pick_u, reg_some, thn_normal, thn_exit, thn_ret, cnd_t, cnd_f, blk_normal, blk_ret, blk_exit, x_seq, x_region, x_cond, x_block, x_loop, x_ret, x_exit, x_skip, e_mov, e_pick, pk_t, pk_f, withH_some, e_box, e_load, e_store, stH_some, e_nil, e_bin, e_eqv, eqH_f, eqH_t, e_un, e_fa, e_ia, ia_eq, nat_eq, natV_nat, e_len, lnH_some, e_extract, ex_0, ex_1, e_call0, e_call1, e_call2, e_call3, pc0_eq, pc1_some, pc2_some, pc3_some, fin_some, g_var0, g_vars, g_loc0, g_locs, g_int, g_bool, g_str, g_sl, s_none, s_zero, s_succ, cl_nil, cl_str, cl_bool, cl_slc, cl_own, evFa, evNil, asEl, evBin, intBin, strBin, evUn, len_nil, len_slc, len_str, clr, List.length_nil, List.length_cons, List.getElem?_cons_zero, List.getElem?_cons_succ, Nat.reduceAdd, Nat.zero_add, Nat.add_zero, Nat.reduceLeDiff, Nat.reduceSub, ↓reduceIte, List.drop_succ_cons, List.drop_zero, List.take_succ_cons, List.take_zero, Bool.false_eq_true, List.nil_append, List.cons_append, Bool.not_true, Bool.not_false, cond_true, cond_false, bne, lv_ret, lv_normal, res1, res2, lv2_some, res_var, res_cell, lvf_v, lvf_slc, res1c, lvo1_some, e_mm, mm_max, mm_min, cl_agg, cl_int, g_agg, e_callv1, cv1_fn, e_slice2, e_clrrow, e_callf2, pick_und, cells_agg, Option.map_some, Option.map_none]
      · rw [p0]
        cases A <;> cases D <;> cases E <;> cases G <;> simp only [c43_0, c43_1, c43_2, c43_3, c43_4, c43_5, c43_6, c43_7, c43_8, c43_9, c43_10, c43_11, c43_18, V43, tbx, tb0, tb1, tb2, tb3, q1, h1, h2, h3, h4, hA2, hD, hE2, hchk, p1, p2, snap_str, Bool.true_and, Bool.false_and, run_nil, run_cons, stp_plain, stp_guard, put_some, pass_eq, pick_tt, pick_ff, pick_tf, pick_ft, pick_u, reg_some, thn_normal, thn_exit, thn_ret, cnd_t, cnd_f, blk_normal, blk_ret, blk_exit, x_seq, x_region, x_cond, x_block, x_loop, x_ret, x_exit, x_skip, e_mov, e_pick, pk_t, pk_f, withH_some, e_box, e_load, e_store, stH_some, e_nil, e_bin, e_eqv, eqH_f, eqH_t, e_un, e_fa, e_ia, ia_eq, nat_eq, natV_nat, e_len, lnH_some, e_extract, ex_0, ex_1, e_call0, e_call1, e_call2, e_call3, pc0_eq, pc1_some, pc2_some, pc3_some, fin_some, g_var0, g_vars, g_loc0, g_locs, g_int, g_bool, g_str, g_sl, s_none, s_zero, s_succ, cl_nil, cl_str, cl_bool, cl_slc, cl_own, evFa, evNil, asEl, evBin, intBin, strBin, evUn, len_nil, len_slc, len_str, clr, List.length_nil, List.length_cons, List.getElem?_cons_zero, List.getElem?_cons_succ, Nat.reduceAdd, Nat.zero_add, Nat.add_zero, Nat.reduceLeDiff, Nat.reduceSub, ↓reduceIte, List.drop_succ_cons, List.drop_zero, List.take_succ_cons, List.take_zero, Bool.false_eq_true, List.nil_append, List.cons_append, Bool.not_true, Bool.not_false, cond_true, cond_false, bne, lv_ret, lv_normal, res1, res2, lv2_some, res_var, res_cell, lvf_v, lvf_slc, res1c, lvo1_some, e_mm, mm_max, mm_min, cl_agg, cl_int, g_agg, e_callv1, cv1_fn, e_slice2, e_clrrow, e_callf2, pick_und, cells_agg, Option.map_some, Option.map_none]

/-- Check: 0, 30, 3 -/
def checkT (t : Tm) : Int := if mayT t = true then (if decide (depI t > 60) = true then 3 else 0) else 30
theorem check_ok (t : Tm) (a : AV) (ha : IsT a t) : callW F 22 [a] [] = some (.v (.int .i64 (checkT t)), []) := by
  refine callW_pure (c := c22) rfl rfl 0 ?_
  have hf := ha.facts
  have h1 := may_ok _ t a (Nat.lt_succ_self _) ha
  have h2 := deep_ok _ t a (Nat.lt_succ_self _) ha
  have e1 : evLoad [.box 24 a.cells] true 4 (.ptr 0 0) = some a := hf.2.2.2.1 [] 24
  unfold checkT
  cases h3 : mayT t with
  | false => rw [h3] at h1; simp only [c22, start, List.replicate, c22_0, c22_1, c22_2, hf, e1, h1, run_nil, run_cons, stp_plain, stp_guard, put_some, pass_eq, pick_tt, pick_ff, pick_tf, pick_ft, pick_u, reg_some, thn_normal, thn_exit, thn_ret, cnd_t, cnd_f, blk_normal, blk_ret, blk_exit, x_seq, x_region, x_cond, x_block, x_loop, x_ret, x_exit, x_skip, e_mov, e_pick, pk_t, pk_f, withH_some, e_box, e_load, e_store, stH_some, e_nil, e_bin, e_eqv, eqH_f, eqH_t, e_un, e_fa, e_ia, ia_eq, nat_eq, natV_nat, e_len, lnH_some, e_extract, ex_0, ex_1, e_call0, e_call1, e_call2, e_call3, pc0_eq, pc1_some, pc2_some, pc3_some, fin_some, g_var0, g_vars, g_loc0, g_locs, g_int, g_bool, g_str, g_sl, s_none, s_zero, s_succ, cl_nil, cl_str, cl_bool, cl_slc, cl_own, evFa, evNil, asEl, evBin, intBin, strBin, evUn, len_nil, len_slc, len_str, clr, List.length_nil, List.length_cons, List.getElem?_cons_zero, List.getElem?_cons_succ, Nat.reduceAdd, Nat.zero_add, Nat.add_zero, Nat.reduceLeDiff, Nat.reduceSub, ↓reduceIte, List.drop_succ_cons, List.drop_zero, List.take_succ_cons, List.take_zero, Bool.false_eq_true, List.nil_append, List.cons_append, Bool.not_true, Bool.not_false, cond_true, cond_false, bne, lv_ret, lv_normal, res1, res2, lv2_some, res_var, res_cell, lvf_v, lvf_slc, res1c, lvo1_some, e_mm, mm_max, mm_min, cl_agg, cl_int, g_agg, e_callv1, cv1_fn, e_slice2, e_clrrow, e_callf2, pick_und, cells_agg, Option.map_some, Option.map_none, bx_some]
  | true =>
    rw [h3] at h1
    cases h4 : decide (depI t > 60) <;> simp only [c22, start, List.replicate, c22_0, c22_1, c22_3, c22_4, c22_5, hf, e1, h1, h2, h4, run_nil, run_cons, stp_plain, stp_guard, put_some, pass_eq, pick_tt, pick_ff, pick_tf, pick_ft, pick_u, reg_some, thn_normal, thn_exit, thn_ret, cnd_t, cnd_f, blk_normal, blk_ret, blk_exit, x_seq, x_region, x_cond, x_block, x_loop, x_ret, x_exit, x_skip, e_mov, e_pick, pk_t, pk_f, withH_some, e_box, e_load, e_store, stH_some, e_nil, e_bin, e_eqv, eqH_f, eqH_t, e_un, e_fa, e_ia, ia_eq, nat_eq, natV_nat, e_len, lnH_some, e_extract, ex_0, ex_1, e_call0, e_call1, e_call2, e_call3, pc0_eq, pc1_some, pc2_some, pc3_some, fin_some, g_var0, g_vars, g_loc0, g_locs, g_int, g_bool, g_str, g_sl, s_none, s_zero, s_succ, cl_nil, cl_str, cl_bool, cl_slc, cl_own, evFa, evNil, asEl, evBin, intBin, strBin, evUn, len_nil, len_slc, len_str, clr, List.length_nil, List.length_cons, List.getElem?_cons_zero, List.getElem?_cons_succ, Nat.reduceAdd, Nat.zero_add, Nat.add_zero, Nat.reduceLeDiff, Nat.reduceSub, ↓reduceIte, List.drop_succ_cons, List.drop_zero, List.take_succ_cons, List.take_zero, Bool.false_eq_true, List.nil_append, List.cons_append, Bool.not_true, Bool.not_false, cond_true, cond_false, bne, lv_ret, lv_normal, res1, res2, lv2_some, res_var, res_cell, lvf_v, lvf_slc, res1c, lvo1_some, e_mm, mm_max, mm_min, cl_agg, cl_int, g_agg, e_callv1, cv1_fn, e_slice2, e_clrrow, e_callf2, pick_und, cells_agg, Option.map_some, Option.map_none, bx_some]
theorem rcheck_ok (t : Tm) (a : AV) (ha : IsT a t) : callW F 18 [a] [] = some (.v (.int .i64 (checkT t)), []) := by
  refine callW_pure (c := c18) rfl rfl 0 ?_
  have hf := ha.facts
  have h1 := rmay_ok _ t a (Nat.lt_succ_self _) ha
  have h2 := rdeep_ok _ t a (Nat.lt_succ_self _) ha
  have e1 : evLoad [.box 24 a.cells] true 4 (.ptr 0 0) = some a := hf.2.2.2.1 [] 24
  unfold checkT
  cases h3 : mayT t with
  | false => rw [h3] at h1; simp only [c18, start, List.replicate, c18_0, c18_1, c18_2, hf, e1, h1, run_nil, run_cons, stp_plain, stp_guard, put_some, pass_eq, pick_tt, pick_ff, pick_tf, pick_ft, pick_u, reg_some, thn_normal, thn_exit, thn_ret, cnd_t, cnd_f, blk_normal, blk_ret, blk_exit, x_seq, x_region, x_cond, x_block, x_loop, x_ret, x_exit, x_skip, e_mov, e_pick, pk_t, pk_f, withH_some, e_box, e_load, e_store, stH_some, e_nil, e_bin, e_eqv, eqH_f, eqH_t, e_un, e_fa, e_ia, ia_eq, nat_eq, natV_nat, e_len, lnH_some, e_extract, ex_0, ex_1, e_call0, e_call1, e_call2, e_call3, pc0_eq, pc1_some, pc2_some, pc3_some, fin_some, g_var0, g_vars, g_loc0, g_locs, g_int, g_bool, g_str, g_sl, s_none, s_zero, s_succ, cl_nil, cl_str, cl_bool, cl_slc, cl_own, evFa, evNil, asEl, evBin, intBin, strBin, evUn, len_nil, len_slc, len_str, clr, List.length_nil, List.length_cons, List.getElem?_cons_zero, List.getElem?_cons_succ, Nat.reduceAdd, Nat.zero_add, Nat.add_zero, Nat.reduceLeDiff, Nat.reduceSub, ↓reduceIte, List.drop_succ_cons, List.drop_zero, List.take_succ_cons, List.take_zero, Bool.false_eq_true, List.nil_append, List.cons_append, Bool.not_true, Bool.not_false, cond_true, cond_false, bne, lv_ret, lv_normal, res1, res2, lv2_some, res_var, res_cell, lvf_v, lvf_slc, res1c, lvo1_some, e_mm, mm_max, mm_min, cl_agg, cl_int, g_agg, e_callv1, cv1_fn, e_slice2, e_clrrow, e_callf2, pick_und, cells_agg, Option.map_some, Option.map_none, bx_some]
  | true =>
    rw [h3] at h1
    cases h4 : decide (depI t > 60) <;> simp only [c18, start, List.replicate, c18_0, c18_1, c18_3, c18_4, c18_5, hf, e1, h1, h2, h4, run_nil, run_cons, stp_plain, stp_guard, put_some, pass_eq, pick_tt, pick_ff, pick_tf, pick_ft, pick_u, reg_some, thn_normal, thn_exit, thn_ret, cnd_t, cnd_f, blk_normal, blk_ret, blk_exit, x_seq, x_region, x_cond, x_block, x_loop, x_ret, x_exit, x_skip, e_mov, e_pick, pk_t, pk_f, withH_some, e_box, e_load, e_store, stH_some, e_nil, e_bin, e_eqv, eqH_f, eqH_t, e_un, e_fa, e_ia, ia_eq, nat_eq, natV_nat, e_len, lnH_some, e_extract, ex_0, ex_1, e_call0, e_call1, e_call2, e_call3, pc0_eq, pc1_some, pc2_some, pc3_some, fin_some, g_var0, g_vars, g_loc0, g_locs, g_int, g_bool, g_str, g_sl, s_none, s_zero, s_succ, cl_nil, cl_str, cl_bool, cl_slc, cl_own, evFa, evNil, asEl, evBin, intBin, strBin, evUn, len_nil, len_slc, len_str, clr, List.length_nil, List.length_cons, List.getElem?_cons_zero, List.getElem?_cons_succ, Nat.reduceAdd, Nat.zero_add, Nat.add_zero, Nat.reduceLeDiff, Nat.reduceSub, ↓reduceIte, List.drop_succ_cons, List.drop_zero, List.take_succ_cons, List.take_zero, Bool.false_eq_true, List.nil_append, List.cons_append, Bool.not_true, Bool.not_false, cond_true, cond_false, bne, lv_ret, lv_normal, res1, res2, lv2_some, res_var, res_cell, lvf_v, lvf_slc, res1c, lvo1_some, e_mm, mm_max, mm_min, cl_agg, cl_int, g_agg, e_callv1, cv1_fn, e_slice2, e_clrrow, e_callf2, pick_und, cells_agg, Option.map_some, Option.map_none, bx_some]
end Go.AE.YtgcbaefclkfnoaaDoor
end

/-! The examples (live). -/
section
namespace Go.AE.YtgcbaefclkfnoaaDoor
open Go Go.AE Go.Proofs.YtgcbaefclkfnoaaDoor
set_option linter.unusedVariables false
set_option linter.unusedSimpArgs false
set_option maxRecDepth 1000000
theorem live_n : callN F 14 12 [] [] = some (.v (.bool true), []) := by kernel_rfl
end Go.AE.YtgcbaefclkfnoaaDoor
end

/-! Whether terms are too great; what comes in. -/
section
set_option linter.unusedVariables false
set_option linter.unusedSimpArgs false
namespace Go.AE.YtgcbaefclkfnoaaDoor
open Go Go.AE Go.Proofs.YtgcbaefclkfnoaaDoor

theorem live_ok : callW F 12 [] [] = some (.v (.bool true), []) := callW_iff.2 ⟨_, live_n⟩
def fewB (t : Tm) : Bool := decide (fewT t 3000 ≥ 0)
def bigT (l : List Tm) : Bool := !(l.all fewB)
def V13 (c : AV) (n i : Int) (x2 x6 x7 : AV) : List AV := [.junk, .junk, x2, c, .v (.int .i64 n), .v (.int .i64 i), x6, x7]
def K13 : List Bool := [false, false, false, true, true, true, false, false]
theorem big_ok {c : AV} {l : List Tm} (hc : IsL c l) : callW F 13 [c] [] = some (.v (.bool (bigT l)), []) := by
  obtain ⟨es, hs, hes, hm⟩ := hc.sl
  have hll := hes.length
  refine callW_pure (c := c13) rfl rfl (l.length + 1) ?_
  have q1 := fun h : List AO => hs.len h
  rw [hll] at q1
  obtain ⟨e, v', h', g1, g2, g3⟩ := loop_rule0 (call := callW F) (K := l.length + 1) (b := c13_7) (keep := K13)
    (fun i v h => v = V13 c l.length i .junk .junk .junk ∧ bigT (l.drop i) = bigT l)
    (fun e v h => (e = .exit 0 ∧ bigT l = false ∧ ∃ x2 x7, v = V13 c l.length l.length x2 (.v (.bool false)) x7) ∨ (e = .ret ∧ bigT l = true ∧ getO v [] (.var 1) = .v (.bool true)))
    l.length (m := l.length + 1) (v := [c, .v (.bool false), .v undef, c, .v (.int .i64 l.length), .v (.int .i64 0), .v undef, .v undef]) (h := []) (by omega) ⟨rfl, rfl⟩ (by
      rintro i v h hi ⟨rfl, hR⟩
      by_cases hil' : i < l.length
      · have hil : i < es.length := by omega
        have hT := hes.at hil hil'
        have hlt := lt_t hil'
        have he : es[i]? = some es[i] := List.getElem?_eq_getElem hil
        have q2 := fun h : List AO => hs.ia he h
        have hf := hT.facts
        have hd : l.drop i = l[i] :: l.drop (i + 1) := List.drop_eq_getElem_cons hil'
        have hw := wrap_succ hil hm
        have hc := few_ok l[i] es[i] 3000 hT
        rw [show decide (fewT l[i] 3000 ≥ 0) = fewB l[i] from rfl] at hc
        rw [hd, bigT, List.all_cons] at hR
        cases hb : fewB l[i] with
        | true =>
          rw [hb] at hc hR
          rw [Bool.true_and] at hR
          refine ⟨.normal, V13 c l.length ((i + 1 : Nat) : Int) (.ptr h.length 0) (.v (.bool true)) (.v (.bool false)), h ++ [.box 24 es[i].cells], ?_, hil', rfl, hR⟩
          simp only [V13, c13_7, c13_2, c13_3, c13_4, c13_6, hlt, q2, hf, hc, hw, snap_int, q9z, run_nil, run_cons, stp_plain, stp_guard, put_some, pass_eq, pick_tt, pick_ff, pick_tf, pick_ft, pick_u, reg_some, thn_normal, thn_exit, thn_ret, cnd_t, cnd_f, blk_normal, blk_ret, blk_exit, x_seq, x_region, x_cond, x_block, x_loop, x_ret, x_exit, x_skip, e_mov, e_pick, pk_t, pk_f, withH_some, e_box, e_load, e_store, stH_some, e_nil, e_bin, e_eqv, eqH_f, eqH_t, e_un, e_fa, e_ia, ia_eq, nat_eq, natV_nat, e_len, lnH_some, e_extract, ex_0, ex_1, e_call0, e_call1, e_call2, e_call3, pc0_eq, pc1_some, pc2_some, pc3_some, fin_some, g_var0, g_vars, g_loc0, g_locs, g_int, g_bool, g_str, g_sl, s_none, s_zero, s_succ, cl_nil, cl_str, cl_bool, cl_slc, cl_own, evFa, evNil, asEl, evBin, intBin, strBin, evUn, len_nil, len_slc, len_str, clr, List.length_nil, List.length_cons, List.getElem?_cons_zero, List.getElem?_cons_succ, Nat.reduceAdd, Nat.zero_add, Nat.add_zero, Nat.reduceLeDiff, Nat.reduceSub, ↓reduceIte, List.drop_succ_cons, List.drop_zero, List.take_succ_cons, List.take_zero, Bool.false_eq_true, List.nil_append, List.cons_append, Bool.not_true, Bool.not_false, cond_true, cond_false, bne, lv_ret, lv_normal, res1, res2, lv2_some, res_var, res_cell, lvf_v, lvf_slc, res1c, lvo1_some, e_mm, mm_max, mm_min, cl_agg, cl_int, g_agg, e_callv1, cv1_fn, e_slice2, e_clrrow, e_callf2, pick_und, cells_agg, Option.map_some, Option.map_none, bx_some]
        | false =>
          rw [hb] at hc hR
          rw [Bool.false_and] at hR
          refine ⟨.ret, [.junk, .v (.bool true), .ptr h.length 0, c, .v (.int .i64 l.length), .v (.int .i64 i), .v (.bool true), .v (.bool true)], h ++ [.box 24 es[i].cells], ?_, .inr ⟨rfl, hR.symm, rfl⟩⟩
          simp only [V13, c13_7, c13_2, c13_3, c13_4, c13_5, hlt, q2, hf, hc, hw, snap_int, q9z, run_nil, run_cons, stp_plain, stp_guard, put_some, pass_eq, pick_tt, pick_ff, pick_tf, pick_ft, pick_u, reg_some, thn_normal, thn_exit, thn_ret, cnd_t, cnd_f, blk_normal, blk_ret, blk_exit, x_seq, x_region, x_cond, x_block, x_loop, x_ret, x_exit, x_skip, e_mov, e_pick, pk_t, pk_f, withH_some, e_box, e_load, e_store, stH_some, e_nil, e_bin, e_eqv, eqH_f, eqH_t, e_un, e_fa, e_ia, ia_eq, nat_eq, natV_nat, e_len, lnH_some, e_extract, ex_0, ex_1, e_call0, e_call1, e_call2, e_call3, pc0_eq, pc1_some, pc2_some, pc3_some, fin_some, g_var0, g_vars, g_loc0, g_locs, g_int, g_bool, g_str, g_sl, s_none, s_zero, s_succ, cl_nil, cl_str, cl_bool, cl_slc, cl_own, evFa, evNil, asEl, evBin, intBin, strBin, evUn, len_nil, len_slc, len_str, clr, List.length_nil, List.length_cons, List.getElem?_cons_zero, List.getElem?_cons_succ, Nat.reduceAdd, Nat.zero_add, Nat.add_zero, Nat.reduceLeDiff, Nat.reduceSub, ↓reduceIte, List.drop_succ_cons, List.drop_zero, List.take_succ_cons, List.take_zero, Bool.false_eq_true, List.nil_append, List.cons_append, Bool.not_true, Bool.not_false, cond_true, cond_false, bne, lv_ret, lv_normal, res1, res2, lv2_some, res_var, res_cell, lvf_v, lvf_slc, res1c, lvo1_some, e_mm, mm_max, mm_min, cl_agg, cl_int, g_agg, e_callv1, cv1_fn, e_slice2, e_clrrow, e_callf2, pick_und, cells_agg, Option.map_some, Option.map_none, bx_some]
      · have hie : i = l.length := by omega
        subst hie
        have hlt := lt_f (n := l.length)
        rw [List.drop_of_length_le (Nat.le_refl _)] at hR
        refine ⟨.exit 0, V13 c l.length l.length .junk (.v (.bool false)) .junk, h, ?_, .inl ⟨rfl, hR.symm, _, _, rfl⟩⟩
        simp only [V13, c13_7, c13_2, hlt, run_nil, run_cons, stp_plain, stp_guard, put_some, pass_eq, pick_tt, pick_ff, pick_tf, pick_ft, pick_u, reg_some, thn_normal, thn_exit, thn_ret, cnd_t, cnd_f, blk_normal, blk_ret, blk_exit, x_seq, x_region, x_cond, x_block, x_loop, x_ret, x_exit, x_skip, e_mov, e_pick, pk_t, pk_f, withH_some, e_box, e_load, e_store, stH_some, e_nil, e_bin, e_eqv, eqH_f, eqH_t, e_un, e_fa, e_ia, ia_eq, nat_eq, natV_nat, e_len, lnH_some, e_extract, ex_0, ex_1, e_call0, e_call1, e_call2, e_call3, pc0_eq, pc1_some, pc2_some, pc3_some, fin_some, g_var0, g_vars, g_loc0, g_locs, g_int, g_bool, g_str, g_sl, s_none, s_zero, s_succ, cl_nil, cl_str, cl_bool, cl_slc, cl_own, evFa, evNil, asEl, evBin, intBin, strBin, evUn, len_nil, len_slc, len_str, clr, List.length_nil, List.length_cons, List.getElem?_cons_zero, List.getElem?_cons_succ, Nat.reduceAdd, Nat.zero_add, Nat.add_zero, Nat.reduceLeDiff, Nat.reduceSub, ↓reduceIte, List.drop_succ_cons, List.drop_zero, List.take_succ_cons, List.take_zero, Bool.false_eq_true, List.nil_append, List.cons_append, Bool.not_true, Bool.not_false, cond_true, cond_false, bne, lv_ret, lv_normal, res1, res2, lv2_some, res_var, res_cell, lvf_v, lvf_slc, res1c, lvo1_some, e_mm, mm_max, mm_min, cl_agg, cl_int, g_agg, e_callv1, cv1_fn, e_slice2, e_clrrow, e_callf2, pick_und, cells_agg, Option.map_some, Option.map_none, bx_some])
  rw [show c13.body = (.seq (.region [] [] c13_0) (.seq (.seq (.region [] [] c13_1) (.block 0 (.loop K13 [] c13_7))) (.seq (.region [] [] c13_8) .ret))) from rfl, show c13.res = [.var 1] from rfl]
  rw [show start c13 [c] = [c, .v undef, .v undef, .v undef, .v undef, .v undef, .v undef, .v undef] from rfl]
  rcases g3 with ⟨rfl, h1, x2, x7, rfl⟩ | ⟨rfl, h1, h2⟩
  · rw [h1]
    generalize c13_7 = bb at g1 ⊢
    simp only [V13, c13_0, c13_1, c13_8, q1, g1, run_nil, run_cons, stp_plain, stp_guard, put_some, pass_eq, pick_tt, pick_ff, pick_tf, pick_ft, pick_u, reg_some, thn_normal, thn_exit, thn_ret, cnd_t, cnd_f, blk_normal, blk_ret, blk_exit, x_seq, x_region, x_cond, x_block, x_loop, x_ret, x_exit, x_skip, e_mov, e_pick, pk_t, pk_f, withH_some, e_box, e_load, e_store, stH_some, e_nil, e_bin, e_eqv, eqH_f, eqH_t, e_un, e_fa, e_ia, ia_eq, nat_eq, natV_nat, e_len, lnH_some, e_extract, ex_0, ex_1, e_call0, e_call1, e_call2, e_call3, pc0_eq, pc1_some, pc2_some, pc3_some, fin_some, g_var0, g_vars, g_loc0, g_locs, g_int, g_bool, g_str, g_sl, s_none, s_zero, s_succ, cl_nil, cl_str, cl_bool, cl_slc, cl_own, evFa, evNil, asEl, evBin, intBin, strBin, evUn, len_nil, len_slc, len_str, clr, List.length_nil, List.length_cons, List.getElem?_cons_zero, List.getElem?_cons_succ, Nat.reduceAdd, Nat.zero_add, Nat.add_zero, Nat.reduceLeDiff, Nat.reduceSub, ↓reduceIte, List.drop_succ_cons, List.drop_zero, List.take_succ_cons, List.take_zero, Bool.false_eq_true, List.nil_append, List.cons_append, Bool.not_true, Bool.not_false, cond_true, cond_false, bne, lv_ret, lv_normal, res1, res2, lv2_some, res_var, res_cell, lvf_v, lvf_slc, res1c, lvo1_some, e_mm, mm_max, mm_min, cl_agg, cl_int, g_agg, e_callv1, cv1_fn, e_slice2, e_clrrow, e_callf2, pick_und, cells_agg, Option.map_some, Option.map_none, bx_some]
  · rw [h1]
    generalize c13_7 = bb at g1 ⊢
    simp only [V13, c13_0, c13_1, c13_8, q1, g1, h2, run_nil, run_cons, stp_plain, stp_guard, put_some, pass_eq, pick_tt, pick_ff, pick_tf, pick_ft, pick_u, reg_some, thn_normal, thn_exit, thn_ret, cnd_t, cnd_f, blk_normal, blk_ret, blk_exit, x_seq, x_region, x_cond, x_block, x_loop, x_ret, x_exit, x_skip, e_mov, e_pick, pk_t, pk_f, withH_some, e_box, e_load, e_store, stH_some, e_nil, e_bin, e_eqv, eqH_f, eqH_t, e_un, e_fa, e_ia, ia_eq, nat_eq, natV_nat, e_len, lnH_some, e_extract, ex_0, ex_1, e_call0, e_call1, e_call2, e_call3, pc0_eq, pc1_some, pc2_some, pc3_some, fin_some, g_var0, g_vars, g_loc0, g_locs, g_int, g_bool, g_str, g_sl, s_none, s_zero, s_succ, cl_nil, cl_str, cl_bool, cl_slc, cl_own, evFa, evNil, asEl, evBin, intBin, strBin, evUn, len_nil, len_slc, len_str, clr, List.length_nil, List.length_cons, List.getElem?_cons_zero, List.getElem?_cons_succ, Nat.reduceAdd, Nat.zero_add, Nat.add_zero, Nat.reduceLeDiff, Nat.reduceSub, ↓reduceIte, List.drop_succ_cons, List.drop_zero, List.take_succ_cons, List.take_zero, Bool.false_eq_true, List.nil_append, List.cons_append, Bool.not_true, Bool.not_false, cond_true, cond_false, bne, lv_ret, lv_normal, res1, res2, lv2_some, res_var, res_cell, lvf_v, lvf_slc, res1c, lvo1_some, e_mm, mm_max, mm_min, cl_agg, cl_int, g_agg, e_callv1, cv1_fn, e_slice2, e_clrrow, e_callf2, pick_und, cells_agg, Option.map_some, Option.map_none, bx_some]
/-- a slice of one term, of two, of three -/
theorem isL1 {a : AV} {t : Tm} (h : IsT a t) : IsL (.slc 4 true true [a]) [t] := .slc _ _ _ _ (.cons _ _ _ _ h .nil) (by simp [maxLen])
theorem isL2 {a b : AV} {t u : Tm} (h : IsT a t) (k : IsT b u) : IsL (.slc 4 true true [a, b]) [t, u] := .slc _ _ _ _ (.cons _ _ _ _ h (.cons _ _ _ _ k .nil)) (by simp [maxLen])
theorem isL3 {a b c : AV} {t u v : Tm} (h : IsT a t) (k : IsT b u) (m : IsT c v) : IsL (.slc 4 true true [a, b, c]) [t, u, v] := .slc _ _ _ _ (.cons _ _ _ _ h (.cons _ _ _ _ k (.cons _ _ _ _ m .nil))) (by simp [maxLen])

theorem tmTy : TmTy T 3 9 2 24 22 := ⟨⟨_, rfl, rfl⟩, ⟨_, rfl, rfl⟩, ⟨_, rfl, rfl⟩, ⟨_, _, _, _, _, rfl, rfl, rfl, rfl, rfl, rfl, rfl, rfl⟩, ⟨_, rfl, rfl⟩⟩
theorem term_in {a : AV} (w : WT T 24 a.cells) (e : asEl ti24.agg a.cells = some a) : ∃ p, IsT a p := by
  obtain ⟨x, hx⟩ := tmTy.term w
  rw [agg_cells e]; exact ⟨x, hx⟩
theorem int_in {a : AV} (w : WT T 2 a.cells) (e : asEl ti2.agg a.cells = some a) : ∃ n : Int, a = .v (.int .i64 n) ∧ (Lit.int .i64 n).wf = true := by
  obtain ⟨n, h, hn⟩ := wt_int_of (t := 2) (k := .i64) rfl rfl w
  exact ⟨n, one_cell e h, hn⟩
theorem str_in {a : AV} (w : WT T 9 a.cells) (e : asEl ti9.agg a.cells = some a) : ∃ s : ByteArray, a = .v (.string s) ∧ s.size ≤ maxLen := by
  obtain ⟨n, h, hn⟩ := wt_str_of (t := 9) rfl rfl w
  exact ⟨n, one_cell e h, hn⟩
end Go.AE.YtgcbaefclkfnoaaDoor
end

/-! Compare: numbers, the first that is not 0, terms. -/
section
set_option linter.unusedVariables false
set_option linter.unusedSimpArgs false
namespace Go.AE.YtgcbaefclkfnoaaDoor
open Go Go.AE Go.Proofs.YtgcbaefclkfnoaaDoor

def cmpI (a b : Int) : Int := if decide (a < b) = true then -1 else if decide (a > b) = true then 1 else 0
def cmpS (a b : ByteArray) : Int := Lib.compareBytes a.data.toList b.data.toList
theorem nan_ok (x : Int) : callW F 63 [.v (.int .i64 x)] [] = some (.v (.bool false), []) := by
  refine callW_pure (c := c63) rfl rfl 0 ?_
  have z : (x == x) = true := beq_self_eq_true x
  simp only [c63, start, List.replicate, c63_0, c63_1, z, run_nil, run_cons, stp_plain, stp_guard, put_some, pass_eq, pick_tt, pick_ff, pick_tf, pick_ft, pick_u, reg_some, thn_normal, thn_exit, thn_ret, cnd_t, cnd_f, blk_normal, blk_ret, blk_exit, x_seq, x_region, x_cond, x_block, x_loop, x_ret, x_exit, x_skip, e_mov, e_pick, pk_t, pk_f, withH_some, e_box, e_load, e_store, stH_some, e_nil, e_bin, e_eqv, eqH_f, eqH_t, e_un, e_fa, e_ia, ia_eq, nat_eq, natV_nat, e_len, lnH_some, e_extract, ex_0, ex_1, e_call0, e_call1, e_call2, e_call3, pc0_eq, pc1_some, pc2_some, pc3_some, fin_some, g_var0, g_vars, g_loc0, g_locs, g_int, g_bool, g_str, g_sl, s_none, s_zero, s_succ, cl_nil, cl_str, cl_bool, cl_slc, cl_own, evFa, evNil, asEl, evBin, intBin, strBin, evUn, len_nil, len_slc, len_str, clr, List.length_nil, List.length_cons, List.getElem?_cons_zero, List.getElem?_cons_succ, Nat.reduceAdd, Nat.zero_add, Nat.add_zero, Nat.reduceLeDiff, Nat.reduceSub, ↓reduceIte, List.drop_succ_cons, List.drop_zero, List.take_succ_cons, List.take_zero, Bool.false_eq_true, List.nil_append, List.cons_append, Bool.not_true, Bool.not_false, cond_true, cond_false, bne, lv_ret, lv_normal, res1, res2, lv2_some, res_var, res_cell, lvf_v, lvf_slc, res1c, lvo1_some, e_mm, mm_max, mm_min, cl_agg, cl_int, g_agg, e_callv1, cv1_fn, e_slice2, e_clrrow, e_callf2, pick_und, cells_agg, Option.map_some, Option.map_none, bx_some]
theorem nan2_ok (x : Int) : callW F 65 [.v (.int .i64 x)] [] = some (.v (.bool false), []) := by
  refine callW_pure (c := c65) rfl rfl 0 ?_
  have z : (x == x) = true := beq_self_eq_true x
  simp only [c65, start, List.replicate, c65_0, c65_1, z, run_nil, run_cons, stp_plain, stp_guard, put_some, pass_eq, pick_tt, pick_ff, pick_tf, pick_ft, pick_u, reg_some, thn_normal, thn_exit, thn_ret, cnd_t, cnd_f, blk_normal, blk_ret, blk_exit, x_seq, x_region, x_cond, x_block, x_loop, x_ret, x_exit, x_skip, e_mov, e_pick, pk_t, pk_f, withH_some, e_box, e_load, e_store, stH_some, e_nil, e_bin, e_eqv, eqH_f, eqH_t, e_un, e_fa, e_ia, ia_eq, nat_eq, natV_nat, e_len, lnH_some, e_extract, ex_0, ex_1, e_call0, e_call1, e_call2, e_call3, pc0_eq, pc1_some, pc2_some, pc3_some, fin_some, g_var0, g_vars, g_loc0, g_locs, g_int, g_bool, g_str, g_sl, s_none, s_zero, s_succ, cl_nil, cl_str, cl_bool, cl_slc, cl_own, evFa, evNil, asEl, evBin, intBin, strBin, evUn, len_nil, len_slc, len_str, clr, List.length_nil, List.length_cons, List.getElem?_cons_zero, List.getElem?_cons_succ, Nat.reduceAdd, Nat.zero_add, Nat.add_zero, Nat.reduceLeDiff, Nat.reduceSub, ↓reduceIte, List.drop_succ_cons, List.drop_zero, List.take_succ_cons, List.take_zero, Bool.false_eq_true, List.nil_append, List.cons_append, Bool.not_true, Bool.not_false, cond_true, cond_false, bne, lv_ret, lv_normal, res1, res2, lv2_some, res_var, res_cell, lvf_v, lvf_slc, res1c, lvo1_some, e_mm, mm_max, mm_min, cl_agg, cl_int, g_agg, e_callv1, cv1_fn, e_slice2, e_clrrow, e_callf2, pick_und, cells_agg, Option.map_some, Option.map_none, bx_some]
theorem cmpi_ok (a b : Int) : callW F 45 [.v (.int .i64 a), .v (.int .i64 b)] [] = some (.v (.int .i64 (cmpI a b)), []) := by
  refine callW_pure (c := c45) rfl rfl 0 ?_
  have h1 := nan_ok a
  have h2 := nan_ok b
  unfold cmpI
  cases h3 : decide (a < b) with
  | true => simp only [c45, start, List.replicate, c45_0, c45_1, c45_2, c45_3, c45_7, c45_9, c45_10, h1, h2, h3, snap_int, run_nil, run_cons, stp_plain, stp_guard, put_some, pass_eq, pick_tt, pick_ff, pick_tf, pick_ft, pick_u, reg_some, thn_normal, thn_exit, thn_ret, cnd_t, cnd_f, blk_normal, blk_ret, blk_exit, x_seq, x_region, x_cond, x_block, x_loop, x_ret, x_exit, x_skip, e_mov, e_pick, pk_t, pk_f, withH_some, e_box, e_load, e_store, stH_some, e_nil, e_bin, e_eqv, eqH_f, eqH_t, e_un, e_fa, e_ia, ia_eq, nat_eq, natV_nat, e_len, lnH_some, e_extract, ex_0, ex_1, e_call0, e_call1, e_call2, e_call3, pc0_eq, pc1_some, pc2_some, pc3_some, fin_some, g_var0, g_vars, g_loc0, g_locs, g_int, g_bool, g_str, g_sl, s_none, s_zero, s_succ, cl_nil, cl_str, cl_bool, cl_slc, cl_own, evFa, evNil, asEl, evBin, intBin, strBin, evUn, len_nil, len_slc, len_str, clr, List.length_nil, List.length_cons, List.getElem?_cons_zero, List.getElem?_cons_succ, Nat.reduceAdd, Nat.zero_add, Nat.add_zero, Nat.reduceLeDiff, Nat.reduceSub, ↓reduceIte, List.drop_succ_cons, List.drop_zero, List.take_succ_cons, List.take_zero, Bool.false_eq_true, List.nil_append, List.cons_append, Bool.not_true, Bool.not_false, cond_true, cond_false, bne, lv_ret, lv_normal, res1, res2, lv2_some, res_var, res_cell, lvf_v, lvf_slc, res1c, lvo1_some, e_mm, mm_max, mm_min, cl_agg, cl_int, g_agg, e_callv1, cv1_fn, e_slice2, e_clrrow, e_callf2, pick_und, cells_agg, Option.map_some, Option.map_none, bx_some]
  | false =>
  cases h4 : decide (a > b) with
  | true => simp only [c45, start, List.replicate, c45_0, c45_1, c45_2, c45_3, c45_7, c45_9, c45_11, c45_12, h1, h2, h3, h4, snap_int, run_nil, run_cons, stp_plain, stp_guard, put_some, pass_eq, pick_tt, pick_ff, pick_tf, pick_ft, pick_u, reg_some, thn_normal, thn_exit, thn_ret, cnd_t, cnd_f, blk_normal, blk_ret, blk_exit, x_seq, x_region, x_cond, x_block, x_loop, x_ret, x_exit, x_skip, e_mov, e_pick, pk_t, pk_f, withH_some, e_box, e_load, e_store, stH_some, e_nil, e_bin, e_eqv, eqH_f, eqH_t, e_un, e_fa, e_ia, ia_eq, nat_eq, natV_nat, e_len, lnH_some, e_extract, ex_0, ex_1, e_call0, e_call1, e_call2, e_call3, pc0_eq, pc1_some, pc2_some, pc3_some, fin_some, g_var0, g_vars, g_loc0, g_locs, g_int, g_bool, g_str, g_sl, s_none, s_zero, s_succ, cl_nil, cl_str, cl_bool, cl_slc, cl_own, evFa, evNil, asEl, evBin, intBin, strBin, evUn, len_nil, len_slc, len_str, clr, List.length_nil, List.length_cons, List.getElem?_cons_zero, List.getElem?_cons_succ, Nat.reduceAdd, Nat.zero_add, Nat.add_zero, Nat.reduceLeDiff, Nat.reduceSub, ↓reduceIte, List.drop_succ_cons, List.drop_zero, List.take_succ_cons, List.take_zero, Bool.false_eq_true, List.nil_append, List.cons_append, Bool.not_true, Bool.not_false, cond_true, cond_false, bne, lv_ret, lv_normal, res1, res2, lv2_some, res_var, res_cell, lvf_v, lvf_slc, res1c, lvo1_some, e_mm, mm_max, mm_min, cl_agg, cl_int, g_agg, e_callv1, cv1_fn, e_slice2, e_clrrow, e_callf2, pick_und, cells_agg, Option.map_some, Option.map_none, bx_some]
  | false => simp only [c45, start, List.replicate, c45_0, c45_1, c45_2, c45_3, c45_7, c45_9, c45_11, c45_13, h1, h2, h3, h4, snap_int, run_nil, run_cons, stp_plain, stp_guard, put_some, pass_eq, pick_tt, pick_ff, pick_tf, pick_ft, pick_u, reg_some, thn_normal, thn_exit, thn_ret, cnd_t, cnd_f, blk_normal, blk_ret, blk_exit, x_seq, x_region, x_cond, x_block, x_loop, x_ret, x_exit, x_skip, e_mov, e_pick, pk_t, pk_f, withH_some, e_box, e_load, e_store, stH_some, e_nil, e_bin, e_eqv, eqH_f, eqH_t, e_un, e_fa, e_ia, ia_eq, nat_eq, natV_nat, e_len, lnH_some, e_extract, ex_0, ex_1, e_call0, e_call1, e_call2, e_call3, pc0_eq, pc1_some, pc2_some, pc3_some, fin_some, g_var0, g_vars, g_loc0, g_locs, g_int, g_bool, g_str, g_sl, s_none, s_zero, s_succ, cl_nil, cl_str, cl_bool, cl_slc, cl_own, evFa, evNil, asEl, evBin, intBin, strBin, evUn, len_nil, len_slc, len_str, clr, List.length_nil, List.length_cons, List.getElem?_cons_zero, List.getElem?_cons_succ, Nat.reduceAdd, Nat.zero_add, Nat.add_zero, Nat.reduceLeDiff, Nat.reduceSub, ↓reduceIte, List.drop_succ_cons, List.drop_zero, List.take_succ_cons, List.take_zero, Bool.false_eq_true, List.nil_append, List.cons_append, Bool.not_true, Bool.not_false, cond_true, cond_false, bne, lv_ret, lv_normal, res1, res2, lv2_some, res_var, res_cell, lvf_v, lvf_slc, res1c, lvo1_some, e_mm, mm_max, mm_min, cl_agg, cl_int, g_agg, e_callv1, cv1_fn, e_slice2, e_clrrow, e_callf2, pick_und, cells_agg, Option.map_some, Option.map_none, bx_some]
theorem cmpn_ok (a b : Int) : callW F 48 [.v (.int .i64 a), .v (.int .i64 b)] [] = some (.v (.int .i64 (cmpI a b)), []) := by
  refine callW_pure (c := c48) rfl rfl 0 ?_
  have h1 := nan2_ok a
  have h2 := nan2_ok b
  unfold cmpI
  cases h3 : decide (a < b) with
  | true => simp only [c48, start, List.replicate, c48_0, c48_1, c48_2, c48_3, c48_7, c48_9, c48_10, h1, h2, h3, snap_int, run_nil, run_cons, stp_plain, stp_guard, put_some, pass_eq, pick_tt, pick_ff, pick_tf, pick_ft, pick_u, reg_some, thn_normal, thn_exit, thn_ret, cnd_t, cnd_f, blk_normal, blk_ret, blk_exit, x_seq, x_region, x_cond, x_block, x_loop, x_ret, x_exit, x_skip, e_mov, e_pick, pk_t, pk_f, withH_some, e_box, e_load, e_store, stH_some, e_nil, e_bin, e_eqv, eqH_f, eqH_t, e_un, e_fa, e_ia, ia_eq, nat_eq, natV_nat, e_len, lnH_some, e_extract, ex_0, ex_1, e_call0, e_call1, e_call2, e_call3, pc0_eq, pc1_some, pc2_some, pc3_some, fin_some, g_var0, g_vars, g_loc0, g_locs, g_int, g_bool, g_str, g_sl, s_none, s_zero, s_succ, cl_nil, cl_str, cl_bool, cl_slc, cl_own, evFa, evNil, asEl, evBin, intBin, strBin, evUn, len_nil, len_slc, len_str, clr, List.length_nil, List.length_cons, List.getElem?_cons_zero, List.getElem?_cons_succ, Nat.reduceAdd, Nat.zero_add, Nat.add_zero, Nat.reduceLeDiff, Nat.reduceSub, ↓reduceIte, List.drop_succ_cons, List.drop_zero, List.take_succ_cons, List.take_zero, Bool.false_eq_true, List.nil_append, List.cons_append, Bool.not_true, Bool.not_false, cond_true, cond_false, bne, lv_ret, lv_normal, res1, res2, lv2_some, res_var, res_cell, lvf_v, lvf_slc, res1c, lvo1_some, e_mm, mm_max, mm_min, cl_agg, cl_int, g_agg, e_callv1, cv1_fn, e_slice2, e_clrrow, e_callf2, pick_und, cells_agg, Option.map_some, Option.map_none, bx_some]
  | false =>
  cases h4 : decide (a > b) with
  | true => simp only [c48, start, List.replicate, c48_0, c48_1, c48_2, c48_3, c48_7, c48_9, c48_11, c48_12, h1, h2, h3, h4, snap_int, run_nil, run_cons, stp_plain, stp_guard, put_some, pass_eq, pick_tt, pick_ff, pick_tf, pick_ft, pick_u, reg_some, thn_normal, thn_exit, thn_ret, cnd_t, cnd_f, blk_normal, blk_ret, blk_exit, x_seq, x_region, x_cond, x_block, x_loop, x_ret, x_exit, x_skip, e_mov, e_pick, pk_t, pk_f, withH_some, e_box, e_load, e_store, stH_some, e_nil, e_bin, e_eqv, eqH_f, eqH_t, e_un, e_fa, e_ia, ia_eq, nat_eq, natV_nat, e_len, lnH_some, e_extract, ex_0, ex_1, e_call0, e_call1, e_call2, e_call3, pc0_eq, pc1_some, pc2_some, pc3_some, fin_some, g_var0, g_vars, g_loc0, g_locs, g_int, g_bool, g_str, g_sl, s_none, s_zero, s_succ, cl_nil, cl_str, cl_bool, cl_slc, cl_own, evFa, evNil, asEl, evBin, intBin, strBin, evUn, len_nil, len_slc, len_str, clr, List.length_nil, List.length_cons, List.getElem?_cons_zero, List.getElem?_cons_succ, Nat.reduceAdd, Nat.zero_add, Nat.add_zero, Nat.reduceLeDiff, Nat.reduceSub, ↓reduceIte, List.drop_succ_cons, List.drop_zero, List.take_succ_cons, List.take_zero, Bool.false_eq_true, List.nil_append, List.cons_append, Bool.not_true, Bool.not_false, cond_true, cond_false, bne, lv_ret, lv_normal, res1, res2, lv2_some, res_var, res_cell, lvf_v, lvf_slc, res1c, lvo1_some, e_mm, mm_max, mm_min, cl_agg, cl_int, g_agg, e_callv1, cv1_fn, e_slice2, e_clrrow, e_callf2, pick_und, cells_agg, Option.map_some, Option.map_none, bx_some]
  | false => simp only [c48, start, List.replicate, c48_0, c48_1, c48_2, c48_3, c48_7, c48_9, c48_11, c48_13, h1, h2, h3, h4, snap_int, run_nil, run_cons, stp_plain, stp_guard, put_some, pass_eq, pick_tt, pick_ff, pick_tf, pick_ft, pick_u, reg_some, thn_normal, thn_exit, thn_ret, cnd_t, cnd_f, blk_normal, blk_ret, blk_exit, x_seq, x_region, x_cond, x_block, x_loop, x_ret, x_exit, x_skip, e_mov, e_pick, pk_t, pk_f, withH_some, e_box, e_load, e_store, stH_some, e_nil, e_bin, e_eqv, eqH_f, eqH_t, e_un, e_fa, e_ia, ia_eq, nat_eq, natV_nat, e_len, lnH_some, e_extract, ex_0, ex_1, e_call0, e_call1, e_call2, e_call3, pc0_eq, pc1_some, pc2_some, pc3_some, fin_some, g_var0, g_vars, g_loc0, g_locs, g_int, g_bool, g_str, g_sl, s_none, s_zero, s_succ, cl_nil, cl_str, cl_bool, cl_slc, cl_own, evFa, evNil, asEl, evBin, intBin, strBin, evUn, len_nil, len_slc, len_str, clr, List.length_nil, List.length_cons, List.getElem?_cons_zero, List.getElem?_cons_succ, Nat.reduceAdd, Nat.zero_add, Nat.add_zero, Nat.reduceLeDiff, Nat.reduceSub, ↓reduceIte, List.drop_succ_cons, List.drop_zero, List.take_succ_cons, List.take_zero, Bool.false_eq_true, List.nil_append, List.cons_append, Bool.not_true, Bool.not_false, cond_true, cond_false, bne, lv_ret, lv_normal, res1, res2, lv2_some, res_var, res_cell, lvf_v, lvf_slc, res1c, lvo1_some, e_mm, mm_max, mm_min, cl_agg, cl_int, g_agg, e_callv1, cv1_fn, e_slice2, e_clrrow, e_callf2, pick_und, cells_agg, Option.map_some, Option.map_none, bx_some]
def ordK (k : Int) : Int := if (k == 1) = true then -2 else if (k == 3) = true then -1 else if (k == 2) = true then 0 else 1
theorem ord_ok (k : Int) : callW F 46 [.v (.int .i64 k)] [] = some (.v (.int .i64 (ordK k)), []) := by
  refine callW_pure (c := c46) rfl rfl 0 ?_
  unfold ordK
  cases h1 : (k == 1) with
  | true => simp only [c46, start, List.replicate, c46_0, c46_1, c46_2, c46_3, h1, run_nil, run_cons, stp_plain, stp_guard, put_some, pass_eq, pick_tt, pick_ff, pick_tf, pick_ft, pick_u, reg_some, thn_normal, thn_exit, thn_ret, cnd_t, cnd_f, blk_normal, blk_ret, blk_exit, x_seq, x_region, x_cond, x_block, x_loop, x_ret, x_exit, x_skip, e_mov, e_pick, pk_t, pk_f, withH_some, e_box, e_load, e_store, stH_some, e_nil, e_bin, e_eqv, eqH_f, eqH_t, e_un, e_fa, e_ia, ia_eq, nat_eq, natV_nat, e_len, lnH_some, e_extract, ex_0, ex_1, e_call0, e_call1, e_call2, e_call3, pc0_eq, pc1_some, pc2_some, pc3_some, fin_some, g_var0, g_vars, g_loc0, g_locs, g_int, g_bool, g_str, g_sl, s_none, s_zero, s_succ, cl_nil, cl_str, cl_bool, cl_slc, cl_own, evFa, evNil, asEl, evBin, intBin, strBin, evUn, len_nil, len_slc, len_str, clr, List.length_nil, List.length_cons, List.getElem?_cons_zero, List.getElem?_cons_succ, Nat.reduceAdd, Nat.zero_add, Nat.add_zero, Nat.reduceLeDiff, Nat.reduceSub, ↓reduceIte, List.drop_succ_cons, List.drop_zero, List.take_succ_cons, List.take_zero, Bool.false_eq_true, List.nil_append, List.cons_append, Bool.not_true, Bool.not_false, cond_true, cond_false, bne, lv_ret, lv_normal, res1, res2, lv2_some, res_var, res_cell, lvf_v, lvf_slc, res1c, lvo1_some, e_mm, mm_max, mm_min, cl_agg, cl_int, g_agg, e_callv1, cv1_fn, e_slice2, e_clrrow, e_callf2, pick_und, cells_agg, Option.map_some, Option.map_none, bx_some]
  | false =>
  cases h2 : (k == 3) with
  | true => simp only [c46, start, List.replicate, c46_0, c46_1, c46_2, c46_4, c46_5, h1, h2, run_nil, run_cons, stp_plain, stp_guard, put_some, pass_eq, pick_tt, pick_ff, pick_tf, pick_ft, pick_u, reg_some, thn_normal, thn_exit, thn_ret, cnd_t, cnd_f, blk_normal, blk_ret, blk_exit, x_seq, x_region, x_cond, x_block, x_loop, x_ret, x_exit, x_skip, e_mov, e_pick, pk_t, pk_f, withH_some, e_box, e_load, e_store, stH_some, e_nil, e_bin, e_eqv, eqH_f, eqH_t, e_un, e_fa, e_ia, ia_eq, nat_eq, natV_nat, e_len, lnH_some, e_extract, ex_0, ex_1, e_call0, e_call1, e_call2, e_call3, pc0_eq, pc1_some, pc2_some, pc3_some, fin_some, g_var0, g_vars, g_loc0, g_locs, g_int, g_bool, g_str, g_sl, s_none, s_zero, s_succ, cl_nil, cl_str, cl_bool, cl_slc, cl_own, evFa, evNil, asEl, evBin, intBin, strBin, evUn, len_nil, len_slc, len_str, clr, List.length_nil, List.length_cons, List.getElem?_cons_zero, List.getElem?_cons_succ, Nat.reduceAdd, Nat.zero_add, Nat.add_zero, Nat.reduceLeDiff, Nat.reduceSub, ↓reduceIte, List.drop_succ_cons, List.drop_zero, List.take_succ_cons, List.take_zero, Bool.false_eq_true, List.nil_append, List.cons_append, Bool.not_true, Bool.not_false, cond_true, cond_false, bne, lv_ret, lv_normal, res1, res2, lv2_some, res_var, res_cell, lvf_v, lvf_slc, res1c, lvo1_some, e_mm, mm_max, mm_min, cl_agg, cl_int, g_agg, e_callv1, cv1_fn, e_slice2, e_clrrow, e_callf2, pick_und, cells_agg, Option.map_some, Option.map_none, bx_some]
  | false =>
  cases h3 : (k == 2) with
  | true => simp only [c46, start, List.replicate, c46_0, c46_1, c46_2, c46_4, c46_6, c46_7, h1, h2, h3, run_nil, run_cons, stp_plain, stp_guard, put_some, pass_eq, pick_tt, pick_ff, pick_tf, pick_ft, pick_u, reg_some, thn_normal, thn_exit, thn_ret, cnd_t, cnd_f, blk_normal, blk_ret, blk_exit, x_seq, x_region, x_cond, x_block, x_loop, x_ret, x_exit, x_skip, e_mov, e_pick, pk_t, pk_f, withH_some, e_box, e_load, e_store, stH_some, e_nil, e_bin, e_eqv, eqH_f, eqH_t, e_un, e_fa, e_ia, ia_eq, nat_eq, natV_nat, e_len, lnH_some, e_extract, ex_0, ex_1, e_call0, e_call1, e_call2, e_call3, pc0_eq, pc1_some, pc2_some, pc3_some, fin_some, g_var0, g_vars, g_loc0, g_locs, g_int, g_bool, g_str, g_sl, s_none, s_zero, s_succ, cl_nil, cl_str, cl_bool, cl_slc, cl_own, evFa, evNil, asEl, evBin, intBin, strBin, evUn, len_nil, len_slc, len_str, clr, List.length_nil, List.length_cons, List.getElem?_cons_zero, List.getElem?_cons_succ, Nat.reduceAdd, Nat.zero_add, Nat.add_zero, Nat.reduceLeDiff, Nat.reduceSub, ↓reduceIte, List.drop_succ_cons, List.drop_zero, List.take_succ_cons, List.take_zero, Bool.false_eq_true, List.nil_append, List.cons_append, Bool.not_true, Bool.not_false, cond_true, cond_false, bne, lv_ret, lv_normal, res1, res2, lv2_some, res_var, res_cell, lvf_v, lvf_slc, res1c, lvo1_some, e_mm, mm_max, mm_min, cl_agg, cl_int, g_agg, e_callv1, cv1_fn, e_slice2, e_clrrow, e_callf2, pick_und, cells_agg, Option.map_some, Option.map_none, bx_some]
  | false => simp only [c46, start, List.replicate, c46_0, c46_1, c46_2, c46_4, c46_6, c46_8, h1, h2, h3, run_nil, run_cons, stp_plain, stp_guard, put_some, pass_eq, pick_tt, pick_ff, pick_tf, pick_ft, pick_u, reg_some, thn_normal, thn_exit, thn_ret, cnd_t, cnd_f, blk_normal, blk_ret, blk_exit, x_seq, x_region, x_cond, x_block, x_loop, x_ret, x_exit, x_skip, e_mov, e_pick, pk_t, pk_f, withH_some, e_box, e_load, e_store, stH_some, e_nil, e_bin, e_eqv, eqH_f, eqH_t, e_un, e_fa, e_ia, ia_eq, nat_eq, natV_nat, e_len, lnH_some, e_extract, ex_0, ex_1, e_call0, e_call1, e_call2, e_call3, pc0_eq, pc1_some, pc2_some, pc3_some, fin_some, g_var0, g_vars, g_loc0, g_locs, g_int, g_bool, g_str, g_sl, s_none, s_zero, s_succ, cl_nil, cl_str, cl_bool, cl_slc, cl_own, evFa, evNil, asEl, evBin, intBin, strBin, evUn, len_nil, len_slc, len_str, clr, List.length_nil, List.length_cons, List.getElem?_cons_zero, List.getElem?_cons_succ, Nat.reduceAdd, Nat.zero_add, Nat.add_zero, Nat.reduceLeDiff, Nat.reduceSub, ↓reduceIte, List.drop_succ_cons, List.drop_zero, List.take_succ_cons, List.take_zero, Bool.false_eq_true, List.nil_append, List.cons_append, Bool.not_true, Bool.not_false, cond_true, cond_false, bne, lv_ret, lv_normal, res1, res2, lv2_some, res_var, res_cell, lvf_v, lvf_slc, res1c, lvo1_some, e_mm, mm_max, mm_min, cl_agg, cl_int, g_agg, e_callv1, cv1_fn, e_slice2, e_clrrow, e_callf2, pick_und, cells_agg, Option.map_some, Option.map_none, bx_some]

/-- the first that is not 0 -/
def orL : List Int → Int
  | [] => 0
  | a :: l => if (a == 0) = true then orL l else a
def V44 (c : AV) (n i : Int) (x1 x3 x7 x8 : AV) : List AV := [.junk, x1, .v (.int .i64 0), x3, c, .v (.int .i64 n), .v (.int .i64 i), x7, x8]
def K44 : List Bool := [false, false, true, false, true, true, true, false, false]
theorem or_ok (l : List Int) (hm : l.length ≤ 1000) : callW F 44 [.slc 1 true true (l.map fun n => .v (.int .i64 n))] [] = some (.v (.int .i64 (orL l)), []) := by
  have hs : Sl 1 (.slc 1 true true (l.map fun n => AV.v (.int .i64 n))) (l.map fun n => .v (.int .i64 n)) := .slc _ _ _
  generalize hc : AV.slc 1 true true (l.map fun n => AV.v (.int .i64 n)) = c at hs ⊢
  refine callW_pure (c := c44) rfl rfl (l.length + 1) ?_
  have q1 := fun h : List AO => hs.len h
  rw [List.length_map] at q1
  obtain ⟨e, v', h', g1, g2, g3⟩ := loop_rule0 (call := callW F) (K := l.length + 1) (b := c44_8) (keep := K44)
    (fun i v h => v = V44 c l.length i .junk .junk .junk .junk ∧ orL (l.drop i) = orL l)
    (fun e v h => (e = .exit 0 ∧ orL l = 0 ∧ ∃ x3 x8, v = V44 c l.length l.length .junk x3 (.v (.bool false)) x8) ∨ (e = .ret ∧ getO v [] (.var 1) = .v (.int .i64 (orL l))))
    l.length (m := l.length + 1) (v := [c, .v (.int .i64 0), .v (.int .i64 0), .v undef, c, .v (.int .i64 l.length), .v (.int .i64 0), .v undef, .v undef]) (h := []) (by omega) ⟨rfl, rfl⟩ (by
      rintro i v h hi ⟨rfl, hR⟩
      by_cases hil : i < l.length
      · have hlt := lt_t hil
        have he : (l.map fun n => AV.v (.int .i64 n))[i]? = some (.v (.int .i64 l[i])) := by simp [hil]
        have q2 := fun h : List AO => hs.ia he h
        have q3 : ∀ (h : List AO) (n : Int), evLoad h false 1 (.ip (AV.v (.int .i64 n)).cells) = some (.v (.int .i64 n)) := fun _ _ => rfl
        have hdr : l.drop i = l[i] :: l.drop (i + 1) := List.drop_eq_getElem_cons hil
        have hw := wrap_succ hil (show l.length ≤ maxLen by have : maxLen = 9223372036854775807 := rfl; omega)
        rw [hdr, orL] at hR
        cases hb : (l[i] == 0) with
        | true =>
          rw [if_pos hb] at hR
          refine ⟨.normal, V44 c l.length ((i + 1 : Nat) : Int) .junk (.v (.int .i64 l[i])) (.v (.bool true)) (.v (.bool false)), h, ?_, hil, rfl, hR⟩
          simp only [V44, c44_8, c44_3, c44_4, c44_5, c44_7, hlt, q2, q3, hb, hw, run_nil, run_cons, stp_plain, stp_guard, put_some, pass_eq, pick_tt, pick_ff, pick_tf, pick_ft, pick_u, reg_some, thn_normal, thn_exit, thn_ret, cnd_t, cnd_f, blk_normal, blk_ret, blk_exit, x_seq, x_region, x_cond, x_block, x_loop, x_ret, x_exit, x_skip, e_mov, e_pick, pk_t, pk_f, withH_some, e_box, e_load, e_store, stH_some, e_nil, e_bin, e_eqv, eqH_f, eqH_t, e_un, e_fa, e_ia, ia_eq, nat_eq, natV_nat, e_len, lnH_some, e_extract, ex_0, ex_1, e_call0, e_call1, e_call2, e_call3, pc0_eq, pc1_some, pc2_some, pc3_some, fin_some, g_var0, g_vars, g_loc0, g_locs, g_int, g_bool, g_str, g_sl, s_none, s_zero, s_succ, cl_nil, cl_str, cl_bool, cl_slc, cl_own, evFa, evNil, asEl, evBin, intBin, strBin, evUn, len_nil, len_slc, len_str, clr, List.length_nil, List.length_cons, List.getElem?_cons_zero, List.getElem?_cons_succ, Nat.reduceAdd, Nat.zero_add, Nat.add_zero, Nat.reduceLeDiff, Nat.reduceSub, ↓reduceIte, List.drop_succ_cons, List.drop_zero, List.take_succ_cons, List.take_zero, Bool.false_eq_true, List.nil_append, List.cons_append, Bool.not_true, Bool.not_false, cond_true, cond_false, bne, lv_ret, lv_normal, res1, res2, lv2_some, res_var, res_cell, lvf_v, lvf_slc, res1c, lvo1_some, e_mm, mm_max, mm_min, cl_agg, cl_int, g_agg, e_callv1, cv1_fn, e_slice2, e_clrrow, e_callf2, pick_und, cells_agg, Option.map_some, Option.map_none, bx_some]
        | false =>
          rw [if_neg (by rw [hb]; simp)] at hR
          refine ⟨.ret, V44 c l.length i (.v (.int .i64 l[i])) (.v (.int .i64 l[i])) (.v (.bool true)) (.v (.bool true)), h, ?_, .inr ⟨rfl, by rw [← hR]; rfl⟩⟩
          simp only [V44, c44_8, c44_3, c44_4, c44_5, c44_6, hlt, q2, q3, hb, run_nil, run_cons, stp_plain, stp_guard, put_some, pass_eq, pick_tt, pick_ff, pick_tf, pick_ft, pick_u, reg_some, thn_normal, thn_exit, thn_ret, cnd_t, cnd_f, blk_normal, blk_ret, blk_exit, x_seq, x_region, x_cond, x_block, x_loop, x_ret, x_exit, x_skip, e_mov, e_pick, pk_t, pk_f, withH_some, e_box, e_load, e_store, stH_some, e_nil, e_bin, e_eqv, eqH_f, eqH_t, e_un, e_fa, e_ia, ia_eq, nat_eq, natV_nat, e_len, lnH_some, e_extract, ex_0, ex_1, e_call0, e_call1, e_call2, e_call3, pc0_eq, pc1_some, pc2_some, pc3_some, fin_some, g_var0, g_vars, g_loc0, g_locs, g_int, g_bool, g_str, g_sl, s_none, s_zero, s_succ, cl_nil, cl_str, cl_bool, cl_slc, cl_own, evFa, evNil, asEl, evBin, intBin, strBin, evUn, len_nil, len_slc, len_str, clr, List.length_nil, List.length_cons, List.getElem?_cons_zero, List.getElem?_cons_succ, Nat.reduceAdd, Nat.zero_add, Nat.add_zero, Nat.reduceLeDiff, Nat.reduceSub, ↓reduceIte, List.drop_succ_cons, List.drop_zero, List.take_succ_cons, List.take_zero, Bool.false_eq_true, List.nil_append, List.cons_append, Bool.not_true, Bool.not_false, cond_true, cond_false, bne, lv_ret, lv_normal, res1, res2, lv2_some, res_var, res_cell, lvf_v, lvf_slc, res1c, lvo1_some, e_mm, mm_max, mm_min, cl_agg, cl_int, g_agg, e_callv1, cv1_fn, e_slice2, e_clrrow, e_callf2, pick_und, cells_agg, Option.map_some, Option.map_none, bx_some]
      · have hie : i = l.length := by omega
        subst hie
        have hlt := lt_f (n := l.length)
        rw [List.drop_of_length_le (Nat.le_refl _), orL] at hR
        refine ⟨.exit 0, V44 c l.length l.length .junk .junk (.v (.bool false)) .junk, h, ?_, .inl ⟨rfl, hR.symm, _, _, rfl⟩⟩
        simp only [V44, c44_8, c44_3, hlt, run_nil, run_cons, stp_plain, stp_guard, put_some, pass_eq, pick_tt, pick_ff, pick_tf, pick_ft, pick_u, reg_some, thn_normal, thn_exit, thn_ret, cnd_t, cnd_f, blk_normal, blk_ret, blk_exit, x_seq, x_region, x_cond, x_block, x_loop, x_ret, x_exit, x_skip, e_mov, e_pick, pk_t, pk_f, withH_some, e_box, e_load, e_store, stH_some, e_nil, e_bin, e_eqv, eqH_f, eqH_t, e_un, e_fa, e_ia, ia_eq, nat_eq, natV_nat, e_len, lnH_some, e_extract, ex_0, ex_1, e_call0, e_call1, e_call2, e_call3, pc0_eq, pc1_some, pc2_some, pc3_some, fin_some, g_var0, g_vars, g_loc0, g_locs, g_int, g_bool, g_str, g_sl, s_none, s_zero, s_succ, cl_nil, cl_str, cl_bool, cl_slc, cl_own, evFa, evNil, asEl, evBin, intBin, strBin, evUn, len_nil, len_slc, len_str, clr, List.length_nil, List.length_cons, List.getElem?_cons_zero, List.getElem?_cons_succ, Nat.reduceAdd, Nat.zero_add, Nat.add_zero, Nat.reduceLeDiff, Nat.reduceSub, ↓reduceIte, List.drop_succ_cons, List.drop_zero, List.take_succ_cons, List.take_zero, Bool.false_eq_true, List.nil_append, List.cons_append, Bool.not_true, Bool.not_false, cond_true, cond_false, bne, lv_ret, lv_normal, res1, res2, lv2_some, res_var, res_cell, lvf_v, lvf_slc, res1c, lvo1_some, e_mm, mm_max, mm_min, cl_agg, cl_int, g_agg, e_callv1, cv1_fn, e_slice2, e_clrrow, e_callf2, pick_und, cells_agg, Option.map_some, Option.map_none, bx_some])
  rw [show c44.body = (.seq (.region [] [] c44_0) (.seq (.region [] [] c44_1) (.seq (.seq (.region [] [] c44_2) (.block 0 (.loop K44 [] c44_8))) (.seq (.region [] [] c44_9) .ret)))) from rfl, show c44.res = [.var 1] from rfl]
  rw [show start c44 [c] = [c, .v undef, .v undef, .v undef, .v undef, .v undef, .v undef, .v undef, .v undef] from rfl]
  rcases g3 with ⟨rfl, h1, x3, x8, rfl⟩ | ⟨rfl, h2⟩
  · rw [h1]
    generalize c44_8 = bb at g1 ⊢
    simp only [V44, c44_0, c44_1, c44_2, c44_9, q1, g1, run_nil, run_cons, stp_plain, stp_guard, put_some, pass_eq, pick_tt, pick_ff, pick_tf, pick_ft, pick_u, reg_some, thn_normal, thn_exit, thn_ret, cnd_t, cnd_f, blk_normal, blk_ret, blk_exit, x_seq, x_region, x_cond, x_block, x_loop, x_ret, x_exit, x_skip, e_mov, e_pick, pk_t, pk_f, withH_some, e_box, e_load, e_store, stH_some, e_nil, e_bin, e_eqv, eqH_f, eqH_t, e_un, e_fa, e_ia, ia_eq, nat_eq, natV_nat, e_len, lnH_some, e_extract, ex_0, ex_1, e_call0, e_call1, e_call2, e_call3, pc0_eq, pc1_some, pc2_some, pc3_some, fin_some, g_var0, g_vars, g_loc0, g_locs, g_int, g_bool, g_str, g_sl, s_none, s_zero, s_succ, cl_nil, cl_str, cl_bool, cl_slc, cl_own, evFa, evNil, asEl, evBin, intBin, strBin, evUn, len_nil, len_slc, len_str, clr, List.length_nil, List.length_cons, List.getElem?_cons_zero, List.getElem?_cons_succ, Nat.reduceAdd, Nat.zero_add, Nat.add_zero, Nat.reduceLeDiff, Nat.reduceSub, ↓reduceIte, List.drop_succ_cons, List.drop_zero, List.take_succ_cons, List.take_zero, Bool.false_eq_true, List.nil_append, List.cons_append, Bool.not_true, Bool.not_false, cond_true, cond_false, bne, lv_ret, lv_normal, res1, res2, lv2_some, res_var, res_cell, lvf_v, lvf_slc, res1c, lvo1_some, e_mm, mm_max, mm_min, cl_agg, cl_int, g_agg, e_callv1, cv1_fn, e_slice2, e_clrrow, e_callf2, pick_und, cells_agg, Option.map_some, Option.map_none, bx_some]
  · generalize c44_8 = bb at g1 ⊢
    simp only [V44, c44_0, c44_1, c44_2, c44_9, q1, g1, h2, run_nil, run_cons, stp_plain, stp_guard, put_some, pass_eq, pick_tt, pick_ff, pick_tf, pick_ft, pick_u, reg_some, thn_normal, thn_exit, thn_ret, cnd_t, cnd_f, blk_normal, blk_ret, blk_exit, x_seq, x_region, x_cond, x_block, x_loop, x_ret, x_exit, x_skip, e_mov, e_pick, pk_t, pk_f, withH_some, e_box, e_load, e_store, stH_some, e_nil, e_bin, e_eqv, eqH_f, eqH_t, e_un, e_fa, e_ia, ia_eq, nat_eq, natV_nat, e_len, lnH_some, e_extract, ex_0, ex_1, e_call0, e_call1, e_call2, e_call3, pc0_eq, pc1_some, pc2_some, pc3_some, fin_some, g_var0, g_vars, g_loc0, g_locs, g_int, g_bool, g_str, g_sl, s_none, s_zero, s_succ, cl_nil, cl_str, cl_bool, cl_slc, cl_own, evFa, evNil, asEl, evBin, intBin, strBin, evUn, len_nil, len_slc, len_str, clr, List.length_nil, List.length_cons, List.getElem?_cons_zero, List.getElem?_cons_succ, Nat.reduceAdd, Nat.zero_add, Nat.add_zero, Nat.reduceLeDiff, Nat.reduceSub, ↓reduceIte, List.drop_succ_cons, List.drop_zero, List.take_succ_cons, List.take_zero, Bool.false_eq_true, List.nil_append, List.cons_append, Bool.not_true, Bool.not_false, cond_true, cond_false, bne, lv_ret, lv_normal, res1, res2, lv2_some, res_var, res_cell, lvf_v, lvf_slc, res1c, lvo1_some, e_mm, mm_max, mm_min, cl_agg, cl_int, g_agg, e_callv1, cv1_fn, e_slice2, e_clrrow, e_callf2, pick_und, cells_agg, Option.map_some, Option.map_none, bx_some]

/-! ### Terms -/
def headC (k : Int) (s : ByteArray) (n : Int) (l : List Tm) (k' : Int) (s' : ByteArray) (n' : Int) (l' : List Tm) : Int := orL [cmpI (ordK k) (ordK k'), cmpI l.length l'.length, cmpS s s', cmpI n n']
mutual
def compT : Tm → Tm → Int
  | .mk k s n l, .mk k' s' n' l' => if (headC k s n l k' s' n' l' == 0) = true then compL l l' else headC k s n l k' s' n' l'
def compL : List Tm → List Tm → Int
  | [], _ => 0
  | _, [] => 0
  | a :: l, b :: l' => if (compT a b == 0) = true then compL l l' else compT a b
end
theorem headC_len {k n k' n' : Int} {s s' : ByteArray} {l l' : List Tm} (h : headC k s n l k' s' n' l' = 0) : l.length = l'.length := by
  simp only [headC, orL, beq_iff_eq] at h
  split at h
  · split at h
    · rename_i h1
      unfold cmpI at h1
      simp only [decide_eq_true_eq] at h1
      split at h1
      · omega
      · split at h1 <;> omega
    · contradiction
  · contradiction
section
variable {k n k' n' : Int} {s s' : ByteArray} {c c' : AV} {G : List AO}
theorem tc0 : evLoad (tb k n s c :: tb k' n' s' c' :: G) false 1 (.ptr 1 0) = some (.v (.int .i64 k')) := rfl
theorem tc1 : evLoad (tb k n s c :: tb k' n' s' c' :: G) false 1 (.ptr 1 1) = some (.v (.string s')) := rfl
theorem tc2 : evLoad (tb k n s c :: tb k' n' s' c' :: G) false 1 (.ptr 1 2) = some (.v (.int .i64 n')) := rfl
theorem tc3 : evLoad (tb k n s c :: tb k' n' s' c' :: G) false 1 (.ptr 1 3) = some c' := rfl
theorem tcx : bx [tb k n s c] 24 (some [.v (.int .i64 k'), .v (.string s'), .v (.int .i64 n'), c']) = some (.ptr 1 0, [tb k n s c, tb k' n' s' c']) := rfl
end
def bs4 (h : List AO) (a b c d : AV) : Option (AV × List AO) := (evElems [] [a, b, c, d] h 1 (List.replicate 4 (zeroEl [.int .i64 0])) [(0, .loc 0), (1, .loc 1), (2, .loc 2), (3, .loc 3)]).map fun l => (.slc 1 true true l, h)
theorem e_bslice4 {call : CallF} {vars env : List AV} {h : List AO} {x0 x1 x2 x3 : Opd} :
    evOp call vars env h (.bslice 1 [(.int .i64 0)] 4 [(0, x0), (1, x1), (2, x2), (3, x3)]) = bs4 h (getO vars env x0) (getO vars env x1) (getO vars env x2) (getO vars env x3) := by
  simp only [evOp, bs4, evElems, getO]
  rfl
theorem bs4_int {h : List AO} {a b c d : Int} : bs4 h (.v (.int .i64 a)) (.v (.int .i64 b)) (.v (.int .i64 c)) (.v (.int .i64 d)) = some (.slc 1 true true [.v (.int .i64 a), .v (.int .i64 b), .v (.int .i64 c), .v (.int .i64 d)], h) := rfl
def V19 (x i : Int) (x7 : AV) : List AV := [.junk, .junk, .ptr 0 0, .ptr 1 0, .junk, .v (.int .i64 x), .v (.int .i64 i), x7]
def K19 : List Bool := [false, false, true, true, false, true, true, false]
theorem comp_ok : ∀ (N : Nat) (t u : Tm) (a b : AV), SizeOf.sizeOf t < N → IsT a t → IsT b u → callW F 19 [a, b] [] = some (.v (.int .i64 (compT t u)), []) := by
  intro N
  induction N with
  | zero => intro t u a b h; omega
  | succ N ih =>
    intro t u a b hN ha hb
    cases ha with
    | mk k s n c l hc =>
    cases hb with
    | mk k' s' n' c' l' hc' =>
    obtain ⟨es, hs, hes, hm⟩ := hc.sl
    obtain ⟨es', hs', hes', hm'⟩ := hc'.sl
    have hll := hes.length
    have hll' := hes'.length
    refine callW_pure (c := c19) rfl rfl (l.length + 1) ?_
    have q1 := fun h : List AO => hs.len h
    have q1' := fun h : List AO => hs'.len h
    rw [hll] at q1
    rw [hll'] at q1'
    have o1 := ord_ok k
    have o2 := ord_ok k'
    have p1 := cmpi_ok (ordK k) (ordK k')
    have p2 := cmpi_ok l.length l'.length
    have p3 : callW F 47 [.v (.string s), .v (.string s')] [] = some (.v (.int .i64 (cmpS s s')), []) := callW_oracle (g := compareG) rfl rfl
    have p4 := cmpn_ok n n'
    have p5 := or_ok [cmpI (ordK k) (ordK k'), cmpI l.length l'.length, cmpS s s', cmpI n n'] (by simp)
    rw [show orL [cmpI (ordK k) (ordK k'), cmpI l.length l'.length, cmpS s s', cmpI n n'] = headC k s n l k' s' n' l' from rfl] at p5
    simp only [List.map_cons, List.map_nil] at p5
    rw [compT]
    have hlen : headC k s n l k' s' n' l' = 0 → l.length = l'.length := headC_len
    generalize headC k s n l k' s' n' l' = c0 at p5 hlen ⊢
    obtain ⟨e, v', h', g1, g2, g3⟩ := loop_rule0 (call := callW F) (K := l.length + 1) (b := c19_6) (keep := K19)
      (fun i v h => ∃ x, v = V19 x i .junk ∧ h = [tb k n s c, tb k' n' s' c'] ∧ (x = 0 → l.length = l'.length) ∧ (if (x == 0) = true then compL (l.drop i) (l'.drop i) else x) = (if (c0 == 0) = true then compL l l' else c0))
      (fun e v h => e = .exit 0 ∧ h = [tb k n s c, tb k' n' s' c'] ∧ ∃ (i : Int) (x7 : AV), v = V19 (if (c0 == 0) = true then compL l l' else c0) i x7)
      l.length (m := l.length + 1) (v := [.agg [.v (.int .i64 k), .v (.string s), .v (.int .i64 n), c], .agg [.v (.int .i64 k'), .v (.string s'), .v (.int .i64 n'), c'], .ptr 0 0, .ptr 1 0, .v (.int .i64 0), .v (.int .i64 c0), .v (.int .i64 0), .v undef]) (h := [tb k n s c, tb k' n' s' c']) (by omega) ⟨c0, rfl, rfl, hlen, rfl⟩ (by
        rintro i v h hi ⟨x, rfl, rfl, hxl, hR⟩
        cases hx : (x == 0) with
        | false =>
          rw [hx] at hR
          refine ⟨.exit 0, V19 x i (.v (.bool false)), _, ?_, rfl, rfl, i, _, by rw [← hR]; rfl⟩
          simp only [V19, c19_6, c19_3, hx, run_nil, run_cons, stp_plain, stp_guard, put_some, pass_eq, pick_tt, pick_ff, pick_tf, pick_ft, pick_u, reg_some, thn_normal, thn_exit, thn_ret, cnd_t, cnd_f, blk_normal, blk_ret, blk_exit, x_seq, x_region, x_cond, x_block, x_loop, x_ret, x_exit, x_skip, e_mov, e_pick, pk_t, pk_f, withH_some, e_box, e_load, e_store, stH_some, e_nil, e_bin, e_eqv, eqH_f, eqH_t, e_un, e_fa, e_ia, ia_eq, nat_eq, natV_nat, e_len, lnH_some, e_extract, ex_0, ex_1, e_call0, e_call1, e_call2, e_call3, pc0_eq, pc1_some, pc2_some, pc3_some, fin_some, g_var0, g_vars, g_loc0, g_locs, g_int, g_bool, g_str, g_sl, s_none, s_zero, s_succ, cl_nil, cl_str, cl_bool, cl_slc, cl_own, evFa, evNil, asEl, evBin, intBin, strBin, evUn, len_nil, len_slc, len_str, clr, List.length_nil, List.length_cons, List.getElem?_cons_zero, List.getElem?_cons_succ, Nat.reduceAdd, Nat.zero_add, Nat.add_zero, Nat.reduceLeDiff, Nat.reduceSub, ↓reduceIte, List.drop_succ_cons, List.drop_zero, List.take_succ_cons, List.take_zero, Bool.false_eq_true, List.nil_append, List.cons_append, Bool.not_true, Bool.not_false, cond_true, cond_false, bne, lv_ret, lv_normal, res1, res2, lv2_some, res_var, res_cell, lvf_v, lvf_slc, res1c, lvo1_some, e_mm, mm_max, mm_min, cl_agg, cl_int, g_agg, e_callv1, cv1_fn, e_slice2, e_clrrow, e_callf2, pick_und, cells_agg, Option.map_some, Option.map_none, bx_some]
        | true =>
          rw [hx, if_pos rfl] at hR
          have hx0 : x = 0 := by simpa using hx
          have hleq := hxl hx0
          by_cases hil : i < l.length
          · have hil' : i < l'.length := by omega
            have hle : i < es.length := by omega
            have hle' : i < es'.length := by omega
            have hT := hes.at hle hil
            have hT' := hes'.at hle' hil'
            have hlt := lt_t hil
            have he : es[i]? = some es[i] := List.getElem?_eq_getElem hle
            have he' : es'[i]? = some es'[i] := List.getElem?_eq_getElem hle'
            have q2 := fun h : List AO => hs.ia he h
            have q2' := fun h : List AO => hs'.ia he' h
            have hf := hT.facts
            have hf' := hT'.facts
            have hd : l.drop i = l[i] :: l.drop (i + 1) := List.drop_eq_getElem_cons hil
            have hd' : l'.drop i = l'[i] :: l'.drop (i + 1) := List.drop_eq_getElem_cons hil'
            have hw := wrap_succ hle hm
            have hc := ih l[i] l'[i] es[i] es'[i] (by have := IsL.mem_size (k := k) (n := n) (s := s) (List.getElem_mem hil); omega) hT hT'
            rw [hd, hd', compL] at hR
            refine ⟨.normal, V19 (compT l[i] l'[i]) ((i + 1 : Nat) : Int) (.v (.bool true)), [tb k n s c, tb k' n' s' c'], ?_, hil, _, rfl, rfl, fun _ => hleq, hR⟩
            simp only [V19, c19_6, c19_3, c19_4, c19_5, hx, hlt, q1, q2, q2', hf, hf', hc, hw, tb3, tc3, run_nil, run_cons, stp_plain, stp_guard, put_some, pass_eq, pick_tt, pick_ff, pick_tf, pick_ft, pick_u, reg_some, thn_normal, thn_exit, thn_ret, cnd_t, cnd_f, blk_normal, blk_ret, blk_exit, x_seq, x_region, x_cond, x_block, x_loop, x_ret, x_exit, x_skip, e_mov, e_pick, pk_t, pk_f, withH_some, e_box, e_load, e_store, stH_some, e_nil, e_bin, e_eqv, eqH_f, eqH_t, e_un, e_fa, e_ia, ia_eq, nat_eq, natV_nat, e_len, lnH_some, e_extract, ex_0, ex_1, e_call0, e_call1, e_call2, e_call3, pc0_eq, pc1_some, pc2_some, pc3_some, fin_some, g_var0, g_vars, g_loc0, g_locs, g_int, g_bool, g_str, g_sl, s_none, s_zero, s_succ, cl_nil, cl_str, cl_bool, cl_slc, cl_own, evFa, evNil, asEl, evBin, intBin, strBin, evUn, len_nil, len_slc, len_str, clr, List.length_nil, List.length_cons, List.getElem?_cons_zero, List.getElem?_cons_succ, Nat.reduceAdd, Nat.zero_add, Nat.add_zero, Nat.reduceLeDiff, Nat.reduceSub, ↓reduceIte, List.drop_succ_cons, List.drop_zero, List.take_succ_cons, List.take_zero, Bool.false_eq_true, List.nil_append, List.cons_append, Bool.not_true, Bool.not_false, cond_true, cond_false, bne, lv_ret, lv_normal, res1, res2, lv2_some, res_var, res_cell, lvf_v, lvf_slc, res1c, lvo1_some, e_mm, mm_max, mm_min, cl_agg, cl_int, g_agg, e_callv1, cv1_fn, e_slice2, e_clrrow, e_callf2, pick_und, cells_agg, Option.map_some, Option.map_none, bx_some]
          · have hie : i = l.length := by omega
            subst hie
            have hlt := lt_f (n := l.length)
            rw [List.drop_of_length_le (Nat.le_refl _), compL] at hR
            refine ⟨.exit 0, V19 x l.length (.v (.bool false)), _, ?_, rfl, rfl, _, _, by rw [← hR, hx0]⟩
            simp only [V19, c19_6, c19_3, hx, hlt, q1, tb3, run_nil, run_cons, stp_plain, stp_guard, put_some, pass_eq, pick_tt, pick_ff, pick_tf, pick_ft, pick_u, reg_some, thn_normal, thn_exit, thn_ret, cnd_t, cnd_f, blk_normal, blk_ret, blk_exit, x_seq, x_region, x_cond, x_block, x_loop, x_ret, x_exit, x_skip, e_mov, e_pick, pk_t, pk_f, withH_some, e_box, e_load, e_store, stH_some, e_nil, e_bin, e_eqv, eqH_f, eqH_t, e_un, e_fa, e_ia, ia_eq, nat_eq, natV_nat, e_len, lnH_some, e_extract, ex_0, ex_1, e_call0, e_call1, e_call2, e_call3, pc0_eq, pc1_some, pc2_some, pc3_some, fin_some, g_var0, g_vars, g_loc0, g_locs, g_int, g_bool, g_str, g_sl, s_none, s_zero, s_succ, cl_nil, cl_str, cl_bool, cl_slc, cl_own, evFa, evNil, asEl, evBin, intBin, strBin, evUn, len_nil, len_slc, len_str, clr, List.length_nil, List.length_cons, List.getElem?_cons_zero, List.getElem?_cons_succ, Nat.reduceAdd, Nat.zero_add, Nat.add_zero, Nat.reduceLeDiff, Nat.reduceSub, ↓reduceIte, List.drop_succ_cons, List.drop_zero, List.take_succ_cons, List.take_zero, Bool.false_eq_true, List.nil_append, List.cons_append, Bool.not_true, Bool.not_false, cond_true, cond_false, bne, lv_ret, lv_normal, res1, res2, lv2_some, res_var, res_cell, lvf_v, lvf_slc, res1c, lvo1_some, e_mm, mm_max, mm_min, cl_agg, cl_int, g_agg, e_callv1, cv1_fn, e_slice2, e_clrrow, e_callf2, pick_und, cells_agg, Option.map_some, Option.map_none, bx_some])
    rw [show c19.body = (.seq (.region [] [] c19_0) (.seq (.region [] [] c19_1) (.seq (.seq (.region [] [] c19_2) (.block 0 (.loop K19 [] c19_6))) (.seq (.region [] [] c19_7) .ret)))) from rfl, show c19.res = [.var 4] from rfl]
    rw [show start c19 [.agg [.v (.int .i64 k), .v (.string s), .v (.int .i64 n), c], .agg [.v (.int .i64 k'), .v (.string s'), .v (.int .i64 n'), c']] = [.agg [.v (.int .i64 k), .v (.string s), .v (.int .i64 n), c], .agg [.v (.int .i64 k'), .v (.string s'), .v (.int .i64 n'), c'], .v undef, .v undef, .v undef, .v undef, .v undef, .v undef] from rfl]
    obtain ⟨rfl, rfl, i, x7, rfl⟩ := g3
    generalize (if (c0 == 0) = true then compL l l' else c0) = R at g1 ⊢
    generalize c19_6 = bb at g1 ⊢
    have hsl : ∀ (h : List AO) (a b c d : Int), (AV.slc 1 true true [.v (.int .i64 a), .v (.int .i64 b), .v (.int .i64 c), .v (.int .i64 d)]).snap1 h = some (.slc 1 true true [.v (.int .i64 a), .v (.int .i64 b), .v (.int .i64 c), .v (.int .i64 d)]) := fun _ _ _ _ _ => rfl
    simp only [V19, c19_0, c19_1, c19_2, c19_7, tbx, tcx, tb0, tb1, tb2, tb3, tc0, tc1, tc2, tc3, q1, q1', o1, o2, p1, p2, p3, p4, p5, g1, snap_int, snap_str, e_bslice4, bs4_int, hsl, run_nil, run_cons, stp_plain, stp_guard, put_some, pass_eq, pick_tt, pick_ff, pick_tf, pick_ft, pick_u, reg_some, thn_normal, thn_exit, thn_ret, cnd_t, cnd_f, blk_normal, blk_ret, blk_exit, x_seq, x_region, x_cond, x_block, x_loop, x_ret, x_exit, x_skip, e_mov, e_pick, pk_t, pk_f, withH_some, e_box, e_load, e_store, stH_some, e_nil, e_bin, e_eqv, eqH_f, eqH_t, e_un, e_fa, e_ia, ia_eq, nat_eq, natV_nat, e_len, lnH_some, e_extract, ex_0, ex_1, e_call0, e_call1, e_call2, e_call3, pc0_eq, pc1_some, pc2_some, pc3_some, fin_some, g_var0, g_vars, g_loc0, g_locs, g_int, g_bool, g_str, g_sl, s_none, s_zero, s_succ, cl_nil, cl_str, cl_bool, cl_slc, cl_own, evFa, evNil, asEl, evBin, intBin, strBin, evUn, len_nil, len_slc, len_str, clr, List.length_nil, List.length_cons, List.getElem?_cons_zero, List.getElem?_cons_succ, Nat.reduceAdd, Nat.zero_add, Nat.add_zero, Nat.reduceLeDiff, Nat.reduceSub, ↓reduceIte, List.drop_succ_cons, List.drop_zero, List.take_succ_cons, List.take_zero, Bool.false_eq_true, List.nil_append, List.cons_append, Bool.not_true, Bool.not_false, cond_true, cond_false, bne, lv_ret, lv_normal, res1, res2, lv2_some, res_var, res_cell, lvf_v, lvf_slc, res1c, lvo1_some, e_mm, mm_max, mm_min, cl_agg, cl_int, g_agg, e_callv1, cv1_fn, e_slice2, e_clrrow, e_callf2, pick_und, cells_agg, Option.map_some, Option.map_none]
end Go.AE.YtgcbaefclkfnoaaDoor
end

/-! Same: the program's and the document's. -/
section
set_option linter.unusedVariables false
set_option linter.unusedSimpArgs false
namespace Go.AE.YtgcbaefclkfnoaaDoor
open Go Go.AE Go.Proofs.YtgcbaefclkfnoaaDoor

def headS (k : Int) (s : ByteArray) (n : Int) (l : List Tm) (k' : Int) (s' : ByteArray) (n' : Int) (l' : List Tm) : Bool := (k == k') && ((n == n') && ((s.toList == s'.toList) && ((l.length : Int) == (l'.length : Int))))
mutual
def sameT : Tm → Tm → Bool
  | .mk k s n l, .mk k' s' n' l' => headS k s n l k' s' n' l' && sameL l l'
def sameL : List Tm → List Tm → Bool
  | [], _ => true
  | _, [] => true
  | a :: l, b :: l' => sameT a b && sameL l l'
end
theorem headS_len {k n k' n' : Int} {s s' : ByteArray} {l l' : List Tm} (h : headS k s n l k' s' n' l' = true) : l.length = l'.length := by
  simp only [headS, Bool.and_eq_true, beq_iff_eq] at h
  omega
theorem toL_inj {s s' : ByteArray} (h : s.toList = s'.toList) : s = s' := by
  rw [ByteArray.toList_eq, ByteArray.toList_eq] at h
  cases s with | mk d => cases s' with | mk d' => cases d with | mk x => cases d' with | mk y => simp at h; rw [h]
theorem same_iff : ∀ (N : Nat) (t u : Tm), SizeOf.sizeOf t < N → (sameT t u = true ↔ t = u) := by
  intro N
  induction N with
  | zero => intro t u h; omega
  | succ N ih =>
    have hl : ∀ (l m : List Tm), SizeOf.sizeOf l < N + 1 → l.length = m.length → (sameL l m = true ↔ l = m) := by
      intro l
      induction l with
      | nil =>
        intro m _ h1
        cases m with
        | nil => simp [sameL]
        | cons => simp at h1
      | cons x l ihl =>
        intro m hs h1
        cases m with
        | nil => simp at h1
        | cons y m =>
        simp only [List.length_cons, Nat.add_right_cancel_iff, List.cons.sizeOf_spec] at h1 hs
        rw [sameL, Bool.and_eq_true, ih x y (by omega), ihl m (by omega) h1, List.cons.injEq]
    rintro ⟨k, s, n, l⟩ ⟨k', s', n', l'⟩ hs
    simp only [Tm.mk.sizeOf_spec] at hs
    rw [sameT, Bool.and_eq_true, Tm.mk.injEq]
    constructor
    · rintro ⟨h1, h2⟩
      have h3 := headS_len h1
      simp only [headS, Bool.and_eq_true, beq_iff_eq] at h1
      exact ⟨h1.1, toL_inj h1.2.2.1, h1.2.1, (hl l l' (by omega) h3).1 h2⟩
    · rintro ⟨rfl, rfl, rfl, rfl⟩
      exact ⟨by simp [headS], (hl l l (by omega) rfl).2 rfl⟩

def V14 (ok : Bool) (i : Int) (x7 : AV) : List AV := [.junk, .junk, .ptr 0 0, .ptr 1 0, .junk, .v (.bool ok), .v (.int .i64 i), x7]
def K14 : List Bool := [false, false, true, true, false, true, true, false]
theorem same_ok : ∀ (N : Nat) (t u : Tm) (a b : AV), SizeOf.sizeOf t < N → IsT a t → IsT b u → callW F 14 [a, b] [] = some (.v (.bool (sameT t u)), []) := by
  intro N
  induction N with
  | zero => intro t u a b h; omega
  | succ N ih =>
    intro t u a b hN ha hb
    cases ha with
    | mk k s n c l hc =>
    cases hb with
    | mk k' s' n' c' l' hc' =>
    obtain ⟨es, hs, hes, hm⟩ := hc.sl
    obtain ⟨es', hs', hes', hm'⟩ := hc'.sl
    have hll := hes.length
    have hll' := hes'.length
    refine callW_pure (c := c14) rfl rfl (l.length + 1) ?_
    have q1 := fun h : List AO => hs.len h
    have q1' := fun h : List AO => hs'.len h
    rw [hll] at q1
    rw [hll'] at q1'
    rw [sameT]
    have hlen : headS k s n l k' s' n' l' = true → l.length = l'.length := headS_len
    obtain ⟨c0, hc0⟩ : ∃ c0, c0 = headS k s n l k' s' n' l' := ⟨_, rfl⟩
    rw [← hc0] at hlen ⊢
    obtain ⟨e, v', h', g1, g2, g3⟩ := loop_rule0 (call := callW F) (K := l.length + 1) (b := c14_6) (keep := K14)
      (fun i v h => ∃ x, v = V14 x i .junk ∧ h = [tb k n s c, tb k' n' s' c'] ∧ (x = true → l.length = l'.length) ∧ (x && sameL (l.drop i) (l'.drop i)) = (c0 && sameL l l'))
      (fun e v h => e = .exit 0 ∧ h = [tb k n s c, tb k' n' s' c'] ∧ ∃ (i : Int) (x7 : AV), v = V14 (c0 && sameL l l') i x7)
      l.length (m := l.length + 1) (v := [.agg [.v (.int .i64 k), .v (.string s), .v (.int .i64 n), c], .agg [.v (.int .i64 k'), .v (.string s'), .v (.int .i64 n'), c'], .ptr 0 0, .ptr 1 0, .v (.bool false), .v (.bool c0), .v (.int .i64 0), .v undef]) (h := [tb k n s c, tb k' n' s' c']) (by omega) ⟨c0, rfl, rfl, hlen, rfl⟩ (by
        rintro i v h hi ⟨x, rfl, rfl, hxl, hR⟩
        cases hx : x with
        | false =>
          rw [hx, Bool.false_and] at hR
          refine ⟨.exit 0, V14 false i (.v (.bool false)), _, ?_, rfl, rfl, i, _, by rw [← hR]⟩
          simp only [V14, c14_6, c14_3, run_nil, run_cons, stp_plain, stp_guard, put_some, pass_eq, pick_tt, pick_ff, pick_tf, pick_ft, pick_u, reg_some, thn_normal, thn_exit, thn_ret, cnd_t, cnd_f, blk_normal, blk_ret, blk_exit, x_seq, x_region, x_cond, x_block, x_loop, x_ret, x_exit, x_skip, e_mov, e_pick, pk_t, pk_f, withH_some, e_box, e_load, e_store, stH_some, e_nil, e_bin, e_eqv, eqH_f, eqH_t, e_un, e_fa, e_ia, ia_eq, nat_eq, natV_nat, e_len, lnH_some, e_extract, ex_0, ex_1, e_call0, e_call1, e_call2, e_call3, pc0_eq, pc1_some, pc2_some, pc3_some, fin_some, g_var0, g_vars, g_loc0, g_locs, g_int, g_bool, g_str, g_sl, s_none, s_zero, s_succ, cl_nil, cl_str, cl_bool, cl_slc, cl_own, evFa, evNil, asEl, evBin, intBin, strBin, evUn, len_nil, len_slc, len_str, clr, List.length_nil, List.length_cons, List.getElem?_cons_zero, List.getElem?_cons_succ, Nat.reduceAdd, Nat.zero_add, Nat.add_zero, Nat.reduceLeDiff, Nat.reduceSub, ↓reduceIte, List.drop_succ_cons, List.drop_zero, List.take_succ_cons, List.take_zero, Bool.false_eq_true, List.nil_append, List.cons_append, Bool.not_true, Bool.not_false, cond_true, cond_false, bne, lv_ret, lv_normal, res1, res2, lv2_some, res_var, res_cell, lvf_v, lvf_slc, res1c, lvo1_some, e_mm, mm_max, mm_min, cl_agg, cl_int, g_agg, e_callv1, cv1_fn, e_slice2, e_clrrow, e_callf2, pick_und, cells_agg, Option.map_some, Option.map_none, bx_some]
        | true =>
          rw [hx, Bool.true_and] at hR
          have hleq := hxl hx
          by_cases hil : i < l.length
          · have hil' : i < l'.length := by omega
            have hle : i < es.length := by omega
            have hle' : i < es'.length := by omega
            have hT := hes.at hle hil
            have hT' := hes'.at hle' hil'
            have hlt := lt_t hil
            have he : es[i]? = some es[i] := List.getElem?_eq_getElem hle
            have he' : es'[i]? = some es'[i] := List.getElem?_eq_getElem hle'
            have q2 := fun h : List AO => hs.ia he h
            have q2' := fun h : List AO => hs'.ia he' h
            have hf := hT.facts
            have hf' := hT'.facts
            have hd : l.drop i = l[i] :: l.drop (i + 1) := List.drop_eq_getElem_cons hil
            have hd' : l'.drop i = l'[i] :: l'.drop (i + 1) := List.drop_eq_getElem_cons hil'
            have hw := wrap_succ hle hm
            have hc := ih l[i] l'[i] es[i] es'[i] (by have := IsL.mem_size (k := k) (n := n) (s := s) (List.getElem_mem hil); omega) hT hT'
            rw [hd, hd', sameL] at hR
            refine ⟨.normal, V14 (sameT l[i] l'[i]) ((i + 1 : Nat) : Int) (.v (.bool true)), [tb k n s c, tb k' n' s' c'], ?_, hil, _, rfl, rfl, fun _ => hleq, hR⟩
            simp only [V14, c14_6, c14_3, c14_4, c14_5, hlt, q1, q2, q2', hf, hf', hc, hw, tb3, tc3, run_nil, run_cons, stp_plain, stp_guard, put_some, pass_eq, pick_tt, pick_ff, pick_tf, pick_ft, pick_u, reg_some, thn_normal, thn_exit, thn_ret, cnd_t, cnd_f, blk_normal, blk_ret, blk_exit, x_seq, x_region, x_cond, x_block, x_loop, x_ret, x_exit, x_skip, e_mov, e_pick, pk_t, pk_f, withH_some, e_box, e_load, e_store, stH_some, e_nil, e_bin, e_eqv, eqH_f, eqH_t, e_un, e_fa, e_ia, ia_eq, nat_eq, natV_nat, e_len, lnH_some, e_extract, ex_0, ex_1, e_call0, e_call1, e_call2, e_call3, pc0_eq, pc1_some, pc2_some, pc3_some, fin_some, g_var0, g_vars, g_loc0, g_locs, g_int, g_bool, g_str, g_sl, s_none, s_zero, s_succ, cl_nil, cl_str, cl_bool, cl_slc, cl_own, evFa, evNil, asEl, evBin, intBin, strBin, evUn, len_nil, len_slc, len_str, clr, List.length_nil, List.length_cons, List.getElem?_cons_zero, List.getElem?_cons_succ, Nat.reduceAdd, Nat.zero_add, Nat.add_zero, Nat.reduceLeDiff, Nat.reduceSub, ↓reduceIte, List.drop_succ_cons, List.drop_zero, List.take_succ_cons, List.take_zero, Bool.false_eq_true, List.nil_append, List.cons_append, Bool.not_true, Bool.not_false, cond_true, cond_false, bne, lv_ret, lv_normal, res1, res2, lv2_some, res_var, res_cell, lvf_v, lvf_slc, res1c, lvo1_some, e_mm, mm_max, mm_min, cl_agg, cl_int, g_agg, e_callv1, cv1_fn, e_slice2, e_clrrow, e_callf2, pick_und, cells_agg, Option.map_some, Option.map_none, bx_some]
          · have hie : i = l.length := by omega
            subst hie
            have hlt := lt_f (n := l.length)
            rw [List.drop_of_length_le (Nat.le_refl _), sameL] at hR
            refine ⟨.exit 0, V14 true l.length (.v (.bool false)), _, ?_, rfl, rfl, _, _, by rw [← hR]⟩
            simp only [V14, c14_6, c14_3, hlt, q1, tb3, run_nil, run_cons, stp_plain, stp_guard, put_some, pass_eq, pick_tt, pick_ff, pick_tf, pick_ft, pick_u, reg_some, thn_normal, thn_exit, thn_ret, cnd_t, cnd_f, blk_normal, blk_ret, blk_exit, x_seq, x_region, x_cond, x_block, x_loop, x_ret, x_exit, x_skip, e_mov, e_pick, pk_t, pk_f, withH_some, e_box, e_load, e_store, stH_some, e_nil, e_bin, e_eqv, eqH_f, eqH_t, e_un, e_fa, e_ia, ia_eq, nat_eq, natV_nat, e_len, lnH_some, e_extract, ex_0, ex_1, e_call0, e_call1, e_call2, e_call3, pc0_eq, pc1_some, pc2_some, pc3_some, fin_some, g_var0, g_vars, g_loc0, g_locs, g_int, g_bool, g_str, g_sl, s_none, s_zero, s_succ, cl_nil, cl_str, cl_bool, cl_slc, cl_own, evFa, evNil, asEl, evBin, intBin, strBin, evUn, len_nil, len_slc, len_str, clr, List.length_nil, List.length_cons, List.getElem?_cons_zero, List.getElem?_cons_succ, Nat.reduceAdd, Nat.zero_add, Nat.add_zero, Nat.reduceLeDiff, Nat.reduceSub, ↓reduceIte, List.drop_succ_cons, List.drop_zero, List.take_succ_cons, List.take_zero, Bool.false_eq_true, List.nil_append, List.cons_append, Bool.not_true, Bool.not_false, cond_true, cond_false, bne, lv_ret, lv_normal, res1, res2, lv2_some, res_var, res_cell, lvf_v, lvf_slc, res1c, lvo1_some, e_mm, mm_max, mm_min, cl_agg, cl_int, g_agg, e_callv1, cv1_fn, e_slice2, e_clrrow, e_callf2, pick_und, cells_agg, Option.map_some, Option.map_none, bx_some])
    rw [show c14.body = (.seq (.region [] [] c14_0) (.seq (.region [] [] c14_1) (.seq (.seq (.region [] [] c14_2) (.block 0 (.loop K14 [] c14_6))) (.seq (.region [] [] c14_7) .ret)))) from rfl, show c14.res = [.var 4] from rfl]
    rw [show start c14 [.agg [.v (.int .i64 k), .v (.string s), .v (.int .i64 n), c], .agg [.v (.int .i64 k'), .v (.string s'), .v (.int .i64 n'), c']] = [.agg [.v (.int .i64 k), .v (.string s), .v (.int .i64 n), c], .agg [.v (.int .i64 k'), .v (.string s'), .v (.int .i64 n'), c'], .v undef, .v undef, .v undef, .v undef, .v undef, .v undef] from rfl]
    obtain ⟨rfl, rfl, i, x7, rfl⟩ := g3
    generalize (c0 && sameL l l') = R at g1 ⊢
    generalize c14_6 = bb at g1 ⊢
    unfold headS at hc0
    cases h1 : (k == k') <;> cases h2 : (n == n') <;> cases h3 : (s.toList == s'.toList) <;> cases h4 : ((l.length : Int) == (l'.length : Int)) <;>
      (simp only [h1, h2, h3, h4, Bool.and_true, Bool.and_false, Bool.false_and, Bool.true_and, Bool.and_self] at hc0; subst hc0;
       simp only [V14, c14_0, c14_1, c14_2, c14_7, tbx, tcx, tb0, tb1, tb2, tb3, tc0, tc1, tc2, tc3, q1, q1', h1, h2, h3, h4, g1, run_nil, run_cons, stp_plain, stp_guard, put_some, pass_eq, pick_tt, pick_ff, pick_tf, pick_ft, pick_u, reg_some, thn_normal, thn_exit, thn_ret, cnd_t, cnd_f, blk_normal, blk_ret, blk_exit, x_seq, x_region, x_cond, x_block, x_loop, x_ret, x_exit, x_skip, e_mov, e_pick, pk_t, pk_f, withH_some, e_box, e_load, e_store, stH_some, e_nil, e_bin, e_eqv, eqH_f, eqH_t, e_un, e_fa, e_ia, ia_eq, nat_eq, natV_nat, e_len, lnH_some, e_extract, ex_0, ex_1, e_call0, e_call1, e_call2, e_call3, pc0_eq, pc1_some, pc2_some, pc3_some, fin_some, g_var0, g_vars, g_loc0, g_locs, g_int, g_bool, g_str, g_sl, s_none, s_zero, s_succ, cl_nil, cl_str, cl_bool, cl_slc, cl_own, evFa, evNil, asEl, evBin, intBin, strBin, evUn, len_nil, len_slc, len_str, clr, List.length_nil, List.length_cons, List.getElem?_cons_zero, List.getElem?_cons_succ, Nat.reduceAdd, Nat.zero_add, Nat.add_zero, Nat.reduceLeDiff, Nat.reduceSub, ↓reduceIte, List.drop_succ_cons, List.drop_zero, List.take_succ_cons, List.take_zero, Bool.false_eq_true, List.nil_append, List.cons_append, Bool.not_true, Bool.not_false, cond_true, cond_false, bne, lv_ret, lv_normal, res1, res2, lv2_some, res_var, res_cell, lvf_v, lvf_slc, res1c, lvo1_some, e_mm, mm_max, mm_min, cl_agg, cl_int, g_agg, e_callv1, cv1_fn, e_slice2, e_clrrow, e_callf2, pick_und, cells_agg, Option.map_some, Option.map_none])

def V15 (n i : Int) (x5 x9 x10 : AV) : List AV := [.junk, .junk, .ptr 0 0, .ptr 1 0, .junk, x5, .junk, .v (.int .i64 n), .v (.int .i64 i), x9, x10]
def K15 : List Bool := [false, false, true, true, false, false, false, true, true, false, false]
theorem rsame_ok : ∀ (N : Nat) (t u : Tm) (a b : AV), SizeOf.sizeOf t < N → IsT a t → IsT b u → callW F 15 [a, b] [] = some (.v (.bool (sameT t u)), []) := by
  intro N
  induction N with
  | zero => intro t u a b h; omega
  | succ N ih =>
    intro t u a b hN ha hb
    cases ha with
    | mk k s n c l hc =>
    cases hb with
    | mk k' s' n' c' l' hc' =>
    obtain ⟨es, hs, hes, hm⟩ := hc.sl
    obtain ⟨es', hs', hes', hm'⟩ := hc'.sl
    have hll := hes.length
    have hll' := hes'.length
    refine callW_pure (c := c15) rfl rfl (l.length + 1) ?_
    have q1 := fun h : List AO => hs.len h
    have q1' := fun h : List AO => hs'.len h
    rw [hll] at q1
    rw [hll'] at q1'
    rw [sameT]
    have hlen : headS k s n l k' s' n' l' = true → l.length = l'.length := headS_len
    have loop : l.length = l'.length → ∀ (v : List AV), clr K15 v = V15 l.length 0 .junk .junk .junk → (sameL l l' = true ∧ loopN (exec (callW F) (l.length + 1) c15_9) K15 (l.length + 1) v [tb k n s c, tb k' n' s' c'] = some (.exit 0, V15 l.length l.length .junk (.v (.bool false)) .junk, [tb k n s c, tb k' n' s' c'])) ∨
        (sameL l l' = false ∧ ∃ v' h, loopN (exec (callW F) (l.length + 1) c15_9) K15 (l.length + 1) v [tb k n s c, tb k' n' s' c'] = some (.ret, v', h) ∧ getO v' [] (.var 4) = .v (.bool false)) := by
      intro hleq v hv
      obtain ⟨e, v', h', g1, g2, g3⟩ := loop_rule0 (call := callW F) (K := l.length + 1) (b := c15_9) (keep := K15)
        (fun i v h => v = V15 l.length i .junk .junk .junk ∧ h = [tb k n s c, tb k' n' s' c'] ∧ sameL (l.drop i) (l'.drop i) = sameL l l')
        (fun e v h => (e = .exit 0 ∧ sameL l l' = true ∧ v = V15 l.length l.length .junk (.v (.bool false)) .junk ∧ h = [tb k n s c, tb k' n' s' c']) ∨ (e = .ret ∧ sameL l l' = false ∧ getO v [] (.var 4) = .v (.bool false)))
        l.length (m := l.length + 1) (v := v) (h := [tb k n s c, tb k' n' s' c']) (by omega) ⟨hv, rfl, rfl⟩ (by
          rintro i v h hi ⟨rfl, rfl, hR⟩
          by_cases hil : i < l.length
          · have hil' : i < l'.length := by omega
            have hle : i < es.length := by omega
            have hle' : i < es'.length := by omega
            have hT := hes.at hle hil
            have hT' := hes'.at hle' hil'
            have hlt := lt_t hil
            have he : es[i]? = some es[i] := List.getElem?_eq_getElem hle
            have he' : es'[i]? = some es'[i] := List.getElem?_eq_getElem hle'
            have q2 := fun h : List AO => hs.ia he h
            have q2' := fun h : List AO => hs'.ia he' h
            have hf := hT.facts
            have hf' := hT'.facts
            have hd : l.drop i = l[i] :: l.drop (i + 1) := List.drop_eq_getElem_cons hil
            have hd' : l'.drop i = l'[i] :: l'.drop (i + 1) := List.drop_eq_getElem_cons hil'
            have hw := wrap_succ hle hm
            have hc := ih l[i] l'[i] es[i] es'[i] (by have := IsL.mem_size (k := k) (n := n) (s := s) (List.getElem_mem hil); omega) hT hT'
            rw [hd, hd', sameL] at hR
            cases hq : sameT l[i] l'[i] with
            | true =>
              rw [hq, Bool.true_and] at hR
              rw [hq] at hc
              refine ⟨.normal, V15 l.length ((i + 1 : Nat) : Int) (.v (.int .i64 i)) (.v (.bool true)) (.v (.bool false)), [tb k n s c, tb k' n' s' c'], ?_, hil, rfl, rfl, hR⟩
              simp only [V15, c15_9, c15_4, c15_5, c15_6, c15_8, hlt, q2, q2', hf, hf', hc, hw, tb3, tc3, run_nil, run_cons, stp_plain, stp_guard, put_some, pass_eq, pick_tt, pick_ff, pick_tf, pick_ft, pick_u, reg_some, thn_normal, thn_exit, thn_ret, cnd_t, cnd_f, blk_normal, blk_ret, blk_exit, x_seq, x_region, x_cond, x_block, x_loop, x_ret, x_exit, x_skip, e_mov, e_pick, pk_t, pk_f, withH_some, e_box, e_load, e_store, stH_some, e_nil, e_bin, e_eqv, eqH_f, eqH_t, e_un, e_fa, e_ia, ia_eq, nat_eq, natV_nat, e_len, lnH_some, e_extract, ex_0, ex_1, e_call0, e_call1, e_call2, e_call3, pc0_eq, pc1_some, pc2_some, pc3_some, fin_some, g_var0, g_vars, g_loc0, g_locs, g_int, g_bool, g_str, g_sl, s_none, s_zero, s_succ, cl_nil, cl_str, cl_bool, cl_slc, cl_own, evFa, evNil, asEl, evBin, intBin, strBin, evUn, len_nil, len_slc, len_str, clr, List.length_nil, List.length_cons, List.getElem?_cons_zero, List.getElem?_cons_succ, Nat.reduceAdd, Nat.zero_add, Nat.add_zero, Nat.reduceLeDiff, Nat.reduceSub, ↓reduceIte, List.drop_succ_cons, List.drop_zero, List.take_succ_cons, List.take_zero, Bool.false_eq_true, List.nil_append, List.cons_append, Bool.not_true, Bool.not_false, cond_true, cond_false, bne, lv_ret, lv_normal, res1, res2, lv2_some, res_var, res_cell, lvf_v, lvf_slc, res1c, lvo1_some, e_mm, mm_max, mm_min, cl_agg, cl_int, g_agg, e_callv1, cv1_fn, e_slice2, e_clrrow, e_callf2, pick_und, cells_agg, Option.map_some, Option.map_none, bx_some]
            | false =>
              rw [hq, Bool.false_and] at hR
              rw [hq] at hc
              refine ⟨.ret, [.junk, .junk, .ptr 0 0, .ptr 1 0, .v (.bool false), .v (.int .i64 i), .junk, .v (.int .i64 l.length), .v (.int .i64 i), .v (.bool true), .v (.bool true)], [tb k n s c, tb k' n' s' c'], ?_, .inr ⟨rfl, hR.symm, rfl⟩⟩
              simp only [V15, c15_9, c15_4, c15_5, c15_6, c15_7, hlt, q2, q2', hf, hf', hc, hw, tb3, tc3, run_nil, run_cons, stp_plain, stp_guard, put_some, pass_eq, pick_tt, pick_ff, pick_tf, pick_ft, pick_u, reg_some, thn_normal, thn_exit, thn_ret, cnd_t, cnd_f, blk_normal, blk_ret, blk_exit, x_seq, x_region, x_cond, x_block, x_loop, x_ret, x_exit, x_skip, e_mov, e_pick, pk_t, pk_f, withH_some, e_box, e_load, e_store, stH_some, e_nil, e_bin, e_eqv, eqH_f, eqH_t, e_un, e_fa, e_ia, ia_eq, nat_eq, natV_nat, e_len, lnH_some, e_extract, ex_0, ex_1, e_call0, e_call1, e_call2, e_call3, pc0_eq, pc1_some, pc2_some, pc3_some, fin_some, g_var0, g_vars, g_loc0, g_locs, g_int, g_bool, g_str, g_sl, s_none, s_zero, s_succ, cl_nil, cl_str, cl_bool, cl_slc, cl_own, evFa, evNil, asEl, evBin, intBin, strBin, evUn, len_nil, len_slc, len_str, clr, List.length_nil, List.length_cons, List.getElem?_cons_zero, List.getElem?_cons_succ, Nat.reduceAdd, Nat.zero_add, Nat.add_zero, Nat.reduceLeDiff, Nat.reduceSub, ↓reduceIte, List.drop_succ_cons, List.drop_zero, List.take_succ_cons, List.take_zero, Bool.false_eq_true, List.nil_append, List.cons_append, Bool.not_true, Bool.not_false, cond_true, cond_false, bne, lv_ret, lv_normal, res1, res2, lv2_some, res_var, res_cell, lvf_v, lvf_slc, res1c, lvo1_some, e_mm, mm_max, mm_min, cl_agg, cl_int, g_agg, e_callv1, cv1_fn, e_slice2, e_clrrow, e_callf2, pick_und, cells_agg, Option.map_some, Option.map_none, bx_some]
          · have hie : i = l.length := by omega
            subst hie
            have hlt := lt_f (n := l.length)
            rw [List.drop_of_length_le (Nat.le_refl _), sameL] at hR
            refine ⟨.exit 0, V15 l.length l.length .junk (.v (.bool false)) .junk, _, ?_, .inl ⟨rfl, hR.symm, rfl, rfl⟩⟩
            simp only [V15, c15_9, c15_4, hlt, run_nil, run_cons, stp_plain, stp_guard, put_some, pass_eq, pick_tt, pick_ff, pick_tf, pick_ft, pick_u, reg_some, thn_normal, thn_exit, thn_ret, cnd_t, cnd_f, blk_normal, blk_ret, blk_exit, x_seq, x_region, x_cond, x_block, x_loop, x_ret, x_exit, x_skip, e_mov, e_pick, pk_t, pk_f, withH_some, e_box, e_load, e_store, stH_some, e_nil, e_bin, e_eqv, eqH_f, eqH_t, e_un, e_fa, e_ia, ia_eq, nat_eq, natV_nat, e_len, lnH_some, e_extract, ex_0, ex_1, e_call0, e_call1, e_call2, e_call3, pc0_eq, pc1_some, pc2_some, pc3_some, fin_some, g_var0, g_vars, g_loc0, g_locs, g_int, g_bool, g_str, g_sl, s_none, s_zero, s_succ, cl_nil, cl_str, cl_bool, cl_slc, cl_own, evFa, evNil, asEl, evBin, intBin, strBin, evUn, len_nil, len_slc, len_str, clr, List.length_nil, List.length_cons, List.getElem?_cons_zero, List.getElem?_cons_succ, Nat.reduceAdd, Nat.zero_add, Nat.add_zero, Nat.reduceLeDiff, Nat.reduceSub, ↓reduceIte, List.drop_succ_cons, List.drop_zero, List.take_succ_cons, List.take_zero, Bool.false_eq_true, List.nil_append, List.cons_append, Bool.not_true, Bool.not_false, cond_true, cond_false, bne, lv_ret, lv_normal, res1, res2, lv2_some, res_var, res_cell, lvf_v, lvf_slc, res1c, lvo1_some, e_mm, mm_max, mm_min, cl_agg, cl_int, g_agg, e_callv1, cv1_fn, e_slice2, e_clrrow, e_callf2, pick_und, cells_agg, Option.map_some, Option.map_none, bx_some])
      rcases g3 with ⟨rfl, h1, rfl, rfl⟩ | ⟨rfl, h1, h2⟩
      · exact .inl ⟨h1, g1⟩
      · exact .inr ⟨h1, v', h', g1, h2⟩
    rw [show c15.body = (.seq (.region [] [] c15_0) (.seq (.seq (.region [] [] c15_1) (.cond (.var 6) (.seq (.region [] [] c15_2) .ret) .skip)) (.seq (.seq (.region [] [] c15_3) (.block 0 (.loop K15 [] c15_9))) (.seq (.region [] [] c15_10) .ret)))) from rfl, show c15.res = [.var 4] from rfl]
    rw [show start c15 [.agg [.v (.int .i64 k), .v (.string s), .v (.int .i64 n), c], .agg [.v (.int .i64 k'), .v (.string s'), .v (.int .i64 n'), c']] = [.agg [.v (.int .i64 k), .v (.string s), .v (.int .i64 n), c], .agg [.v (.int .i64 k'), .v (.string s'), .v (.int .i64 n'), c'], .v undef, .v undef, .v undef, .v undef, .v undef, .v undef, .v undef, .v undef, .v undef] from rfl]
    generalize c15_9 = bb at loop ⊢
    cases hc0 : headS k s n l k' s' n' l' with
    | false =>
      unfold headS at hc0
      cases h1 : (k == k') <;> cases h2 : (n == n') <;> cases h3 : (s.toList == s'.toList) <;> cases h4 : ((l.length : Int) == (l'.length : Int)) <;>
        (simp only [h1, h2, h3, h4, Bool.and_true, Bool.and_false, Bool.false_and, Bool.true_and, Bool.and_self, reduceCtorEq] at hc0) <;>
        simp only [c15_0, c15_1, c15_2, tbx, tcx, tb0, tb1, tb2, tb3, tc0, tc1, tc2, tc3, q1, q1', h1, h2, h3, h4, Bool.not_true, Bool.not_false, Bool.false_and, run_nil, run_cons, stp_plain, stp_guard, put_some, pass_eq, pick_tt, pick_ff, pick_tf, pick_ft, pick_u, reg_some, thn_normal, thn_exit, thn_ret, cnd_t, cnd_f, blk_normal, blk_ret, blk_exit, x_seq, x_region, x_cond, x_block, x_loop, x_ret, x_exit, x_skip, e_mov, e_pick, pk_t, pk_f, withH_some, e_box, e_load, e_store, stH_some, e_nil, e_bin, e_eqv, eqH_f, eqH_t, e_un, e_fa, e_ia, ia_eq, nat_eq, natV_nat, e_len, lnH_some, e_extract, ex_0, ex_1, e_call0, e_call1, e_call2, e_call3, pc0_eq, pc1_some, pc2_some, pc3_some, fin_some, g_var0, g_vars, g_loc0, g_locs, g_int, g_bool, g_str, g_sl, s_none, s_zero, s_succ, cl_nil, cl_str, cl_bool, cl_slc, cl_own, evFa, evNil, asEl, evBin, intBin, strBin, evUn, len_nil, len_slc, len_str, clr, List.length_nil, List.length_cons, List.getElem?_cons_zero, List.getElem?_cons_succ, Nat.reduceAdd, Nat.zero_add, Nat.add_zero, Nat.reduceLeDiff, Nat.reduceSub, ↓reduceIte, List.drop_succ_cons, List.drop_zero, List.take_succ_cons, List.take_zero, Bool.false_eq_true, List.nil_append, List.cons_append, Bool.not_true, Bool.not_false, cond_true, cond_false, bne, lv_ret, lv_normal, res1, res2, lv2_some, res_var, res_cell, lvf_v, lvf_slc, res1c, lvo1_some, e_mm, mm_max, mm_min, cl_agg, cl_int, g_agg, e_callv1, cv1_fn, e_slice2, e_clrrow, e_callf2, pick_und, cells_agg, Option.map_some, Option.map_none]
    | true =>
      have lp := loop (hlen hc0) [.agg [.v (.int .i64 k), .v (.string s), .v (.int .i64 n), c], .agg [.v (.int .i64 k'), .v (.string s'), .v (.int .i64 n'), c'], .ptr 0 0, .ptr 1 0, .v (.bool false), .v undef, .v (.bool false), .v (.int .i64 l.length), .v (.int .i64 0), .v undef, .v undef] rfl
      simp only [headS, Bool.and_eq_true] at hc0
      obtain ⟨h1, h2, h3, h4⟩ := hc0
      rcases lp with ⟨p0, p1⟩ | ⟨p0, v', h', p1, p2⟩
      · rw [p0]
        simp only [V15, c15_0, c15_1, c15_3, c15_10, tbx, tcx, tb0, tb1, tb2, tb3, tc0, tc1, tc2, tc3, q1, q1', h1, h2, h3, h4, p1, Bool.not_true, Bool.not_false, Bool.true_and, run_nil, run_cons, stp_plain, stp_guard, put_some, pass_eq, pick_tt, pick_ff, pick_tf, pick_ft, pick_u, reg_some, thn_normal, thn_exit, thn_ret, cnd_t, cnd_f, blk_normal, blk_ret, blk_exit, x_seq, x_region, x_cond, x_block, x_loop, x_ret, x_exit, x_skip, e_mov, e_pick, pk_t, pk_f, withH_some, e_box, e_load, e_store, stH_some, e_nil, e_bin, e_eqv, eqH_f, eqH_t, e_un, e_fa, e_ia, ia_eq, nat_eq, natV_nat, e_len, lnH_some, e_extract, ex_0, ex_1, e_call0, e_call1, e_call2, e_call3, pc0_eq, pc1_some, pc2_some, pc3_some, fin_some, g_var0, g_vars, g_loc0, g_locs, g_int, g_bool, g_str, g_sl, s_none, s_zero, s_succ, cl_nil, cl_str, cl_bool, cl_slc, cl_own, evFa, evNil, asEl, evBin, intBin, strBin, evUn, len_nil, len_slc, len_str, clr, List.length_nil, List.length_cons, List.getElem?_cons_zero, List.getElem?_cons_succ, Nat.reduceAdd, Nat.zero_add, Nat.add_zero, Nat.reduceLeDiff, Nat.reduceSub, ↓reduceIte, List.drop_succ_cons, List.drop_zero, List.take_succ_cons, List.take_zero, Bool.false_eq_true, List.nil_append, List.cons_append, Bool.not_true, Bool.not_false, cond_true, cond_false, bne, lv_ret, lv_normal, res1, res2, lv2_some, res_var, res_cell, lvf_v, lvf_slc, res1c, lvo1_some, e_mm, mm_max, mm_min, cl_agg, cl_int, g_agg, e_callv1, cv1_fn, e_slice2, e_clrrow, e_callf2, pick_und, cells_agg, Option.map_some, Option.map_none]
      · rw [p0]
        simp only [V15, c15_0, c15_1, c15_3, c15_10, tbx, tcx, tb0, tb1, tb2, tb3, tc0, tc1, tc2, tc3, q1, q1', h1, h2, h3, h4, p1, p2, Bool.not_true, Bool.not_false, Bool.and_false, run_nil, run_cons, stp_plain, stp_guard, put_some, pass_eq, pick_tt, pick_ff, pick_tf, pick_ft, pick_u, reg_some, thn_normal, thn_exit, thn_ret, cnd_t, cnd_f, blk_normal, blk_ret, blk_exit, x_seq, x_region, x_cond, x_block, x_loop, x_ret, x_exit, x_skip, e_mov, e_pick, pk_t, pk_f, withH_some, e_box, e_load, e_store, stH_some, e_nil, e_bin, e_eqv, eqH_f, eqH_t, e_un, e_fa, e_ia, ia_eq, nat_eq, natV_nat, e_len, lnH_some, e_extract, ex_0, ex_1, e_call0, e_call1, e_call2, e_call3, pc0_eq, pc1_some, pc2_some, pc3_some, fin_some, g_var0, g_vars, g_loc0, g_locs, g_int, g_bool, g_str, g_sl, s_none, s_zero, s_succ, cl_nil, cl_str, cl_bool, cl_slc, cl_own, evFa, evNil, asEl, evBin, intBin, strBin, evUn, len_nil, len_slc, len_str, clr, List.length_nil, List.length_cons, List.getElem?_cons_zero, List.getElem?_cons_succ, Nat.reduceAdd, Nat.zero_add, Nat.add_zero, Nat.reduceLeDiff, Nat.reduceSub, ↓reduceIte, List.drop_succ_cons, List.drop_zero, List.take_succ_cons, List.take_zero, Bool.false_eq_true, List.nil_append, List.cons_append, Bool.not_true, Bool.not_false, cond_true, cond_false, bne, lv_ret, lv_normal, res1, res2, lv2_some, res_var, res_cell, lvf_v, lvf_slc, res1c, lvo1_some, e_mm, mm_max, mm_min, cl_agg, cl_int, g_agg, e_callv1, cv1_fn, e_slice2, e_clrrow, e_callf2, pick_und, cells_agg, Option.map_some, Option.map_none]
end Go.AE.YtgcbaefclkfnoaaDoor
end

/-! Variant: the program's. -/
section
set_option linter.unusedVariables false
set_option linter.unusedSimpArgs false
namespace Go.AE.YtgcbaefclkfnoaaDoor
open Go Go.AE Go.Proofs.YtgcbaefclkfnoaaDoor

/-! ### Pairs of numbers -/
abbrev Prs := List (Int × Int)
def thr : Prs → Int → Option Int
  | [], _ => none
  | (a, b) :: P, x => if a = x then some b else thr P x
def bak : Prs → Int → Option Int
  | [], _ => none
  | (a, b) :: P, y => if b = y then some a else bak P y
def stepP (P : Prs) (x y : Int) : Option Prs := match thr P x, bak P y with
  | none, none => some ((x, y) :: P)
  | some b, some a => if (b == y) = true then (if (a == x) = true then some P else none) else none
  | _, _ => none
def headV (k : Int) (s : ByteArray) (l : List Tm) (k' : Int) (s' : ByteArray) (l' : List Tm) : Bool := (k == k') && ((s.toList == s'.toList) && ((l.length : Int) == (l'.length : Int)))
def ownV (k n n' : Int) (P : Prs) : Option Prs := if (k == 1) = true then stepP P n n' else if (n == n') = true then some P else none
mutual
def vrT : Tm → Tm → Prs → Option Prs
  | .mk k s n l, .mk k' s' n' l', P => if headV k s l k' s' l' = true then (match ownV k n n' P with
    | some Q => vrL l l' Q
    | none => none) else none
def vrL : List Tm → List Tm → Prs → Option Prs
  | [], _, P => some P
  | _, [], P => some P
  | a :: l, b :: l', P => match vrT a b P with
    | some Q => vrL l l' Q
    | none => none
end
theorem headV_len {k k' : Int} {s s' : ByteArray} {l l' : List Tm} (h : headV k s l k' s' l' = true) : l.length = l'.length := by
  simp only [headV, Bool.and_eq_true, beq_iff_eq] at h
  omega

/-! ### The two maps -/
def Lk (es : List (Value × AV)) (f : Int → Option Int) : Prop := ∀ n, look (.int .i64 n) es = (f n).map fun y => .v (.int .i64 y)
structure Mp (B : Nat) (H : List AO) (P : Prs) : Prop where
  len : H.length = B
  big : 4 < B
  bel : H.all (AO.below B) = true
  m1 : ∃ es, H[2]? = some (.map (.int .i64) 0 es) ∧ Lk es (thr P)
  m2 : ∃ es, H[3]? = some (.map (.int .i64) 0 es) ∧ Lk es (bak P)
  bx : H[4]? = some (.box 51 [.mp 2, .mp 3])
def Up (H H2 : List AO) : Prop := ∃ x y, H2 = (H.set 2 (.map (.int .i64) 0 x)).set 3 (.map (.int .i64) 0 y)
theorem Up.refl {B : Nat} {H : List AO} {P : Prs} (h : Mp B H P) : Up H H := by
  obtain ⟨x, hx, _⟩ := h.m1
  obtain ⟨y, hy, _⟩ := h.m2
  refine ⟨x, y, ?_⟩
  obtain ⟨l1, e1⟩ := List.getElem?_eq_some_iff.1 hx
  obtain ⟨l2, e2⟩ := List.getElem?_eq_some_iff.1 hy
  rw [← e1, ← e2, List.set_getElem_self, List.set_getElem_self]
theorem Up.trans {H H2 H3 : List AO} (a : Up H H2) (b : Up H2 H3) : Up H H3 := by
  obtain ⟨x, y, rfl⟩ := a
  obtain ⟨z, w, rfl⟩ := b
  refine ⟨z, w, ?_⟩
  rw [List.set_comm (AO.map (.int .i64) 0 y) (AO.map (.int .i64) 0 z) (by decide : (3 : Nat) ≠ 2), List.set_set, List.set_set]
theorem Up.split {H l K : List AO} (h : 4 < H.length) (a : Up (H ++ l) K) : ∃ H2, K = H2 ++ l ∧ Up H H2 := by
  obtain ⟨x, y, rfl⟩ := a
  refine ⟨_, ?_, ⟨x, y, rfl⟩⟩
  rw [List.set_append_left _ _ (by omega), List.set_append_left _ _ (by rw [List.length_set]; omega)]
theorem Up.below {B : Nat} {H H2 : List AO} (a : Up H H2) (h : H.all (AO.below B) = true) : H2.all (AO.below B) = true := by
  obtain ⟨x, y, rfl⟩ := a
  simp only [List.all_eq_true] at h ⊢
  intro o ho
  rcases List.mem_or_eq_of_mem_set ho with h1 | rfl
  · rcases List.mem_or_eq_of_mem_set h1 with h2 | rfl
    · exact h o h2
    · rfl
  · rfl
theorem Up.len {H H2 : List AO} (a : Up H H2) : H2.length = H.length := by
  obtain ⟨x, y, rfl⟩ := a; simp
theorem Mp.app {B : Nat} {H l : List AO} {P : Prs} (h : Mp B H P) (hl : l.all (AO.below 0) = true) : Mp (B + l.length) (H ++ l) P := by
  obtain ⟨h1, h0, h2, ⟨x, h3, h4⟩, ⟨y, h5, h6⟩, h7⟩ := h
  refine ⟨by simp [h1], by omega, ?_, ⟨x, his_get h3, h4⟩, ⟨y, his_get h5, h6⟩, his_get h7⟩
  rw [List.all_append, Bool.and_eq_true]
  exact ⟨all_below_mono (by omega) h2, all_below_mono (Nat.zero_le _) hl⟩
theorem Mp.cut {B n : Nat} {H l : List AO} {P : Prs} (h : Mp n (H ++ l) P) (hB : H.length = B) (h0 : 4 < B) (hb : H.all (AO.below B) = true) : Mp B H P := by
  obtain ⟨h1, _, h2, ⟨x, h3, h4⟩, ⟨y, h5, h6⟩, h7⟩ := h
  rw [List.getElem?_append_left (by omega)] at h3 h5 h7
  exact ⟨hB, h0, hb, ⟨x, h3, h4⟩, ⟨y, h5, h6⟩, h7⟩
theorem look_app (es : List (Value × AV)) (x n : Int) (v : AV) : look (.int .i64 n) (es ++ [(.int .i64 x, v)]) = match look (.int .i64 n) es with
    | some a => some a
    | none => if n = x then some v else none := by
  induction es with
  | nil => simp [look, keyEq_int]
  | cons e es ih =>
    simp only [List.cons_append, look]
    by_cases h : keyEq (.int .i64 n) e.1 = true
    · rw [if_pos h, if_pos h]
    · rw [if_neg h, if_neg h, ih]
theorem keyAt_none : ∀ {es : List (Value × AV)} {v : Value}, look v es = none → keyAt v es = none
  | [], _, _ => rfl
  | e :: es, v, h => by
    simp only [look, keyAt] at h ⊢
    by_cases hk : keyEq v e.1 = true
    · rw [if_pos hk] at h; cases h
    · rw [if_neg hk] at h ⊢; rw [keyAt_none h]; rfl
theorem Lk.add {es : List (Value × AV)} {f : Int → Option Int} (h : Lk es f) {x y : Int} (hx : f x = none) : Lk (es ++ [(.int .i64 x, .v (.int .i64 y))]) fun n => if x = n then some y else f n := by
  intro n
  rw [look_app, h n]
  by_cases e : x = n
  · subst e; rw [hx]; simp
  · have : ¬ n = x := fun h => e h.symm
    simp only [if_neg e]
    cases f n <;> simp [this]
section
variable {H : List AO} {id : Nat} {es : List (Value × AV)} {x y : Int}
theorem ent_new (hm : H[id]? = some (.map (.int .i64) 0 es)) (hk : look (.int .i64 x) es = none) (l : List AO) : evEntry (H ++ l) (.int .i64) (.int .i64 0) (.mp id) (.v (.int .i64 x)) = some (.tup [.v (.int .i64 0), .v (.int .i64 (es.length : Nat))], H.set id (.map (.int .i64) 0 (es ++ [(.int .i64 x, .v (.int .i64 0))])) ++ l) := by
  have hl := (List.getElem?_eq_some_iff.1 hm).1
  simp only [evEntry, his_get hm, KK.ok, decide_true, and_self, if_true, keyAt_none hk, Nat.zero_add, his_set hl]
theorem est_new (hm : H[id]? = some (.map (.int .i64) 0 (es ++ [(.int .i64 x, .v (.int .i64 0))]))) (l : List AO) : evEStore (H ++ l) (.mp id) (.v (.int .i64 (es.length : Nat))) (.v (.int .i64 y)) = some (H.set id (.map (.int .i64) 0 (es ++ [(.int .i64 x, .v (.int .i64 y))])) ++ l) := by
  have hl := (List.getElem?_eq_some_iff.1 hm).1
  have h1 : (0 : Int) ≤ (es.length : Nat) := Int.natCast_nonneg _
  have h2 : (es ++ [(Value.int .i64 x, AV.v (.int .i64 0))])[es.length]? = some (.int .i64 x, .v (.int .i64 0)) := by simp
  have h3 : (es ++ [(Value.int .i64 x, AV.v (.int .i64 0))]).set es.length (.int .i64 x, .v (.int .i64 y)) = es ++ [(.int .i64 x, .v (.int .i64 y))] := by simp
  simp only [evEStore, his_get hm, snap_int, Int.toNat_natCast, Nat.sub_zero, h2, h3, his_set hl, if_true, h1]
  rfl
theorem lk_tup {f : Int → Option Int} (hm : H[id]? = some (.map (.int .i64) 0 es)) (hk : Lk es f) (x : Int) (l : List AO) : evLook (H ++ l) (.int .i64) (.int .i64 0) true (.mp id) (.v (.int .i64 x)) = some (.tup [.v (.int .i64 ((f x).getD 0)), .v (.bool (f x).isSome)]) := by
  simp only [evLook, his_get hm, KK.ok, decide_true, and_self, if_true, hk x]
  cases f x <;> rfl
end
theorem e_mentry {call : CallF} {vars env : List AV} {h : List AO} {kk : KK} {z : Value} {m k : Opd} : evOp call vars env h (.mentry kk z m k) = evEntry h kk z (getO vars env m) (getO vars env k) := rfl
theorem e_estore {call : CallF} {vars env : List AV} {h : List AO} {m n x : Opd} : evOp call vars env h (.estore m n x) = stH (evEStore h (getO vars env m) (getO vars env n) (getO vars env x)) := by
  simp only [evOp]; cases evEStore h (getO vars env m) (getO vars env n) (getO vars env x) <;> rfl
/-- a pair of new numbers is told -/
theorem Mp.tell {B : Nat} {H : List AO} {P : Prs} (h : Mp B H P) {x y : Int} (hx : thr P x = none) (hy : bak P y = none) : ∃ (n m : Int) (H1 H2 H3 H4 : List AO),
    (∀ l, evEntry (H ++ l) (.int .i64) (.int .i64 0) (.mp 2) (.v (.int .i64 x)) = some (.tup [.v (.int .i64 0), .v (.int .i64 n)], H1 ++ l)) ∧
    (∀ l, evEStore (H1 ++ l) (.mp 2) (.v (.int .i64 n)) (.v (.int .i64 y)) = some (H2 ++ l)) ∧
    (∀ l, evEntry (H2 ++ l) (.int .i64) (.int .i64 0) (.mp 3) (.v (.int .i64 y)) = some (.tup [.v (.int .i64 0), .v (.int .i64 m)], H3 ++ l)) ∧
    (∀ l, evEStore (H3 ++ l) (.mp 3) (.v (.int .i64 m)) (.v (.int .i64 x)) = some (H4 ++ l)) ∧ Mp B H4 ((x, y) :: P) ∧ Up H H4 := by
  obtain ⟨h1, h0, h2, ⟨es, h3, h4⟩, ⟨es', h5, h6⟩, h7⟩ := h
  have k1 : look (.int .i64 x) es = none := by rw [h4 x, hx]; rfl
  have k2 : look (.int .i64 y) es' = none := by rw [h6 y, hy]; rfl
  have l2 : 2 < H.length := by omega
  have l3 : 3 < H.length := by omega
  refine ⟨_, _, _, _, _, _, fun l => ent_new h3 k1 l, fun l => est_new (es := es) (x := x) (List.getElem?_set_self l2) l, fun l => ent_new (es := es') ?_ k2 l, fun l => est_new (es := es') (x := y) (List.getElem?_set_self (by simpa using l3)) l, ?_, ?_⟩
  · simp [h5]
  · refine ⟨by simp [h1], h0, ?_, ⟨es ++ [(.int .i64 x, .v (.int .i64 y))], ?_, ?_⟩, ⟨es' ++ [(.int .i64 y, .v (.int .i64 x))], ?_, ?_⟩, ?_⟩
    · simp only [List.all_eq_true] at h2 ⊢
      intro o ho
      have key : ∀ {L : List AO} {i : Nat} {kk : KK} {c : Nat} {e : List (Value × AV)} {o : AO}, o ∈ L.set i (.map kk c e) → (∀ q ∈ L, q.below B = true) → o.below B = true := by
        intro L i kk c e o ho hL
        rcases List.mem_or_eq_of_mem_set ho with g | rfl
        · exact hL o g
        · rfl
      exact key ho fun o ho => key ho fun o ho => key ho fun o ho => key ho h2
    · simp [l2]
    · intro n; rw [h4.add hx n]; simp only [thr]
    · simp [l3]
    · intro n; rw [h6.add hy n]; simp only [bak]
    · simp [h7]
  · refine ⟨es ++ [(.int .i64 x, .v (.int .i64 y))], es' ++ [(.int .i64 y, .v (.int .i64 x))], ?_⟩
    rw [List.set_set, List.set_set]
end Go.AE.YtgcbaefclkfnoaaDoor
end

/-! Variant: the program's, walked. -/
section
set_option linter.unusedVariables false
set_option linter.unusedSimpArgs false
namespace Go.AE.YtgcbaefclkfnoaaDoor
open Go Go.AE Go.Proofs.YtgcbaefclkfnoaaDoor

def V40 (B : Nat) (c : AV) (n i : Int) (x20 : AV) : List AV := [.ptr 4 0, .junk, .junk, .junk, .ptr (B + 1) 0, .junk, .junk, .junk, .junk, .junk, .junk, .junk, .junk, .junk, .junk, .junk, .junk, c, .v (.int .i64 n), .v (.int .i64 i), x20, .junk]
def K40 : List Bool := [true, false, false, false, true, false, false, false, false, false, false, false, false, false, false, false, false, true, true, true, false, false]
/-- what the call does: the two maps alone change -/
def Does40 (t u : Tm) (a b : AV) (H : List AO) (B : Nat) (P : Prs) : Prop :=
  ∃ H2, Up H H2 ∧ ((∃ Q, vrT t u P = some Q ∧ Mp B H2 Q ∧ callW F 40 [.ptr 4 0, a, b] H = some (.v (.bool true), H2)) ∨ (vrT t u P = none ∧ callW F 40 [.ptr 4 0, a, b] H = some (.v (.bool false), H2)))
theorem lv40 {H l : List AO} {vars : List AV} {x : Bool} (hb : H.all (AO.below H.length) = true) (hv : vars.getD 5 .junk = .v (.bool x)) {B : Nat} (hB : H.length = B) : leave B c40 (some (.ret, vars, H ++ l)) = some (.v (.bool x), H) := by
  subst hB
  rw [leave_own rfl hb, show c40.res = [.var 5] from rfl, own_res1 (x := .v (.bool x)) (by simp only [resOf, hv])]
  exact lvo_one rfl
theorem eqb_ttt {h : List AO} : eqH h true (eqNil h .bool (.v (.bool true)) (.v (.bool true))) = some (.v (.bool false), h) := rfl
theorem eqb_ttf {h : List AO} : eqH h true (eqNil h .bool (.v (.bool true)) (.v (.bool false))) = some (.v (.bool true), h) := rfl
theorem eqb_tft {h : List AO} : eqH h true (eqNil h .bool (.v (.bool false)) (.v (.bool true))) = some (.v (.bool true), h) := rfl
theorem eqb_tff {h : List AO} : eqH h true (eqNil h .bool (.v (.bool false)) (.v (.bool false))) = some (.v (.bool false), h) := rfl
theorem eqb_ftt {h : List AO} : eqH h false (eqNil h .bool (.v (.bool true)) (.v (.bool true))) = some (.v (.bool true), h) := rfl
theorem eqb_ftf {h : List AO} : eqH h false (eqNil h .bool (.v (.bool true)) (.v (.bool false))) = some (.v (.bool false), h) := rfl
theorem eqb_fft {h : List AO} : eqH h false (eqNil h .bool (.v (.bool false)) (.v (.bool true))) = some (.v (.bool false), h) := rfl
theorem eqb_fff {h : List AO} : eqH h false (eqNil h .bool (.v (.bool false)) (.v (.bool false))) = some (.v (.bool true), h) := rfl
theorem var_ok : ∀ (N : Nat) (t u : Tm) (a b : AV) (H : List AO) (B : Nat) (P : Prs), SizeOf.sizeOf t < N → IsT a t → IsT b u → Mp B H P → Does40 t u a b H B P := by
  intro N
  induction N with
  | zero => intro t u a b H B P h; omega
  | succ N ih =>
    intro t u a b H B P hN ha hb hM
    have hbela := ha.bel
    have hbelb := hb.bel
    cases ha with
    | mk k s n c l hc =>
    cases hb with
    | mk k' s' n' c' l' hc' =>
    obtain ⟨es, hs, hes, hm⟩ := hc.sl
    obtain ⟨es', hs', hes', hm'⟩ := hc'.sl
    have hll := hes.length
    have hll' := hes'.length
    have q1 := fun h : List AO => hs.len h
    have q1' := fun h : List AO => hs'.len h
    rw [hll] at q1
    rw [hll'] at q1'
    have hB : H.length = B := hM.len
    -- memory, by the maps' state
    have ld : ∀ (H' : List AO), H'.length = B → ∀ (l : List AO) (a : Bool) (sz k o : Nat), evLoad (H' ++ l) a sz (.ptr (B + k) o) = ldAt l k a sz o := fun H' h l a sz k o => own_ld h
    have ld0 : ∀ (H' : List AO), H'.length = B → ∀ (l : List AO) (a : Bool) (sz o : Nat), evLoad (H' ++ l) a sz (.ptr B o) = ldAt l 0 a sz o := fun H' h l a sz o => own_ld0 h
    have st : ∀ (H' : List AO), H'.length = B → ∀ (l : List AO) (sz k o : Nat) (x : AV), evStore (H' ++ l) sz (.ptr (B + k) o) x = preH H' (stAt l sz k o x) := fun H' h l sz k o x => own_st h
    have bxx : ∀ (H' : List AO), H'.length = B → ∀ (l : List AO) (bt : TypeId) (cs : List AV), bx (H' ++ l) bt (some cs) = some (.ptr (B + l.length) 0, H' ++ (l ++ [.box bt cs])) := fun H' h l bt cs => own_bx h
    have p0 : ∀ {B' : Nat} {H' : List AO} {P' : Prs}, Mp B' H' P' → ∀ (l : List AO), evLoad (H' ++ l) false 1 (.ptr 4 0) = some (.mp 2) := fun h l => by rw [bx_ld (his_get h.bx)]; rfl
    have p1 : ∀ {B' : Nat} {H' : List AO} {P' : Prs}, Mp B' H' P' → ∀ (l : List AO), evLoad (H' ++ l) false 1 (.ptr 4 1) = some (.mp 3) := fun h l => by rw [bx_ld (his_get h.bx)]; rfl
    -- the loop
    have loop : l.length = l'.length → ∀ (v : List AV) (H1 : List AO) (Q : Prs), clr K40 v = V40 B c l.length 0 .junk → Up H H1 → Mp B H1 Q →
        ∃ H2 tl, Up H H2 ∧ ((∃ R, vrL l l' Q = some R ∧ Mp B H2 R ∧ loopN (exec (callW F) (l.length + 1) c40_18) K40 (l.length + 1) v (H1 ++ [tb k n s c, tb k' n' s' c']) = some (.exit 0, V40 B c l.length l.length (.v (.bool false)), H2 ++ tl)) ∨
          (vrL l l' Q = none ∧ ∃ v', loopN (exec (callW F) (l.length + 1) c40_18) K40 (l.length + 1) v (H1 ++ [tb k n s c, tb k' n' s' c']) = some (.ret, v', H2 ++ tl) ∧ v'.getD 5 .junk = .v (.bool false))) := by
      intro hleq v H1 Q hv hU hM1
      obtain ⟨e, v', h', g1, g2, g3⟩ := loop_rule0 (call := callW F) (K := l.length + 1) (b := c40_18) (keep := K40)
        (fun i v h => ∃ R H' tl, v = V40 B c l.length i .junk ∧ h = H' ++ (tb k n s c :: tb k' n' s' c' :: tl) ∧ tl.all (AO.below 0) = true ∧ Up H H' ∧ Mp B H' R ∧ vrL (l.drop i) (l'.drop i) R = vrL l l' Q)
        (fun e v h => ∃ H2 tl, Up H H2 ∧ h = H2 ++ tl ∧ ((e = .exit 0 ∧ ∃ R, vrL l l' Q = some R ∧ Mp B H2 R ∧ v = V40 B c l.length l.length (.v (.bool false))) ∨ (e = .ret ∧ vrL l l' Q = none ∧ v.getD 5 .junk = .v (.bool false))))
        l.length (m := l.length + 1) (v := v) (h := H1 ++ [tb k n s c, tb k' n' s' c']) (by omega) ⟨Q, H1, [], hv, rfl, rfl, hU, hM1, rfl⟩ (by
          rintro i v h hi ⟨R, H', tl, rfl, rfl, htl, hU', hM', hR⟩
          by_cases hil : i < l.length
          · have hil' : i < l'.length := by omega
            have hle : i < es.length := by omega
            have hle' : i < es'.length := by omega
            have hT := hes.at hle hil
            have hT' := hes'.at hle' hil'
            have hlt := lt_t hil
            have he : es[i]? = some es[i] := List.getElem?_eq_getElem hle
            have he' : es'[i]? = some es'[i] := List.getElem?_eq_getElem hle'
            have q2 := fun h : List AO => hs.ia he h
            have q2' := fun h : List AO => hs'.ia he' h
            have hf := hT.facts
            have hf' := hT'.facts
            have hd : l.drop i = l[i] :: l.drop (i + 1) := List.drop_eq_getElem_cons hil
            have hd' : l'.drop i = l'[i] :: l'.drop (i + 1) := List.drop_eq_getElem_cons hil'
            have hw := wrap_succ hle hm
            have hbe : ([AO.box 24 es[i].cells] : List AO).all (AO.below 0) = true := by
              have := hT.bel
              simp only [AO.below] at this
              simp only [List.all_cons, List.all_nil, AO.below, this, Bool.and_true]
            have hlb : (tb k n s c :: tb k' n' s' c' :: (tl ++ [AO.box 24 es[i].cells]) : List AO).all (AO.below 0) = true := by
              simp only [AO.below, AV.cells] at hbela hbelb
              simp only [tb, List.all_cons, List.all_append, htl, AO.below, hbela, hbelb, Bool.true_and]
              simpa [AO.below] using hbe
            obtain ⟨H3, hU3, hcase⟩ := ih l[i] l'[i] es[i] es'[i] _ _ R (by have := IsL.mem_size (k := k) (n := n) (s := s) (List.getElem_mem hil); omega) hT hT' (hM'.app hlb)
            have hH' : H'.length = B := hM'.len
            obtain ⟨H4, rfl, hU4⟩ := Up.split (by have := hM'.big; omega) hU3
            have hH4 : H4.length = B := by rw [hU4.len, hH']
            have hb4 := hU4.below hM'.bel
            have ldx : ldAt (tb k n s c :: tb k' n' s' c' :: (tl ++ [AO.box 24 es[i].cells])) (tl.length + 1 + 1) true 4 0 = some es[i] := by
              have := hf.2.2.2.1 (tb k n s c :: tb k' n' s' c' :: tl) 24
              rw [← this]
              simp only [ldAt, evLoad, List.length_cons, List.cons_append]
              rfl
            have stx : stAt (tb k n s c :: tb k' n' s' c' :: (tl ++ [AO.box 24 [.v (.int .i64 0), .v (.string ⟨#[]⟩), .v (.int .i64 0), .v (.slice none 0 0)]])) 4 (tl.length + 1 + 1) 0 es[i] = some (tb k n s c :: tb k' n' s' c' :: (tl ++ [AO.box 24 es[i].cells])) := by
              have := hf.2.2.1 (tb k n s c :: tb k' n' s' c' :: tl) 24 (.v (.int .i64 0)) (.v (.string ⟨#[]⟩)) (.v (.int .i64 0)) (.v (.slice none 0 0))
              simp only [List.length_cons, List.cons_append] at this
              rw [← this]
              simp only [stAt, evStore]
              rfl
            have ldb : ∀ tl : List AO, ldAt (tb k n s c :: tb k' n' s' c' :: tl) 1 false 1 3 = some c' := fun _ => rfl
            rw [hd, hd', vrL] at hR
            rcases hcase with ⟨R2, hv2, hM2, hcall⟩ | ⟨hv2, hcall⟩
            · rw [hv2] at hR
              refine ⟨.normal, [.ptr 4 0, .junk, .junk, .junk, .ptr (B + 1) 0, .junk, .junk, .junk, .junk, .junk, .v (.int .i64 i), .ptr (B + (tl.length + 1 + 1)) 0, .junk, .junk, .junk, .junk, .junk, c, .v (.int .i64 l.length), .v (.int .i64 ((i + 1 : Nat) : Int)), .v (.bool true), .v (.bool false)], H4 ++ (tb k n s c :: tb k' n' s' c' :: (tl ++ [AO.box 24 es[i].cells])), ?_, hil, R2, H4, tl ++ [AO.box 24 es[i].cells], rfl, rfl, by rw [List.all_append, htl, hbe]; rfl, hU'.trans hU4, hM2.cut hH4 hM'.big hb4, hR⟩
              simp only [V40, c40_18, c40_13, c40_14, c40_15, c40_17, hlt, q2, q2', hf, hf', hw, q9z, ld _ hH', st _ hH', bxx _ hH', ldx, stx, ldb, preH_some, hcall, e_callh, List.map_cons, List.map_nil, List.length_cons, List.length_append, List.cons_append, snap_int, run_nil, run_cons, stp_plain, stp_guard, put_some, pass_eq, pick_tt, pick_ff, pick_tf, pick_ft, pick_u, reg_some, thn_normal, thn_exit, thn_ret, cnd_t, cnd_f, blk_normal, blk_ret, blk_exit, x_seq, x_region, x_cond, x_block, x_loop, x_ret, x_exit, x_skip, e_mov, e_pick, pk_t, pk_f, withH_some, e_box, e_load, e_store, stH_some, e_nil, e_bin, e_eqv, eqH_f, eqH_t, e_un, e_fa, e_ia, ia_eq, nat_eq, natV_nat, e_len, lnH_some, e_extract, ex_0, ex_1, e_call0, e_call1, e_call2, e_call3, pc0_eq, pc1_some, pc2_some, pc3_some, fin_some, g_var0, g_vars, g_loc0, g_locs, g_int, g_bool, g_str, g_sl, s_none, s_zero, s_succ, cl_nil, cl_str, cl_bool, cl_slc, cl_own, evFa, evNil, asEl, evBin, intBin, strBin, evUn, len_nil, len_slc, len_str, clr, List.length_nil, List.length_cons, List.getElem?_cons_zero, List.getElem?_cons_succ, Nat.reduceAdd, Nat.zero_add, Nat.add_zero, Nat.reduceLeDiff, Nat.reduceSub, ↓reduceIte, List.drop_succ_cons, List.drop_zero, List.take_succ_cons, List.take_zero, Bool.false_eq_true, List.nil_append, List.cons_append, Bool.not_true, Bool.not_false, cond_true, cond_false, bne, lv_ret, lv_normal, res1, res2, lv2_some, res_var, res_cell, lvf_v, lvf_slc, res1c, lvo1_some, e_mm, mm_max, mm_min, cl_agg, cl_int, g_agg, e_callv1, cv1_fn, e_slice2, e_clrrow, e_callf2, pick_und, cells_agg, Option.map_some, Option.map_none]
            · rw [hv2] at hR
              refine ⟨.ret, [.ptr 4 0, .junk, .junk, .junk, .ptr (B + 1) 0, .v (.bool false), .junk, .junk, .junk, .junk, .v (.int .i64 i), .ptr (B + (tl.length + 1 + 1)) 0, .junk, .junk, .junk, .junk, .junk, c, .v (.int .i64 l.length), .v (.int .i64 i), .v (.bool true), .v (.bool true)], H4 ++ (tb k n s c :: tb k' n' s' c' :: (tl ++ [AO.box 24 es[i].cells])), ?_, H4, _, hU'.trans hU4, rfl, .inr ⟨rfl, hR.symm, rfl⟩⟩
              simp only [V40, c40_18, c40_13, c40_14, c40_15, c40_16, hlt, q2, q2', hf, hf', hw, q9z, ld _ hH', st _ hH', bxx _ hH', ldx, stx, ldb, preH_some, hcall, e_callh, List.map_cons, List.map_nil, List.length_cons, List.length_append, List.cons_append, snap_int, run_nil, run_cons, stp_plain, stp_guard, put_some, pass_eq, pick_tt, pick_ff, pick_tf, pick_ft, pick_u, reg_some, thn_normal, thn_exit, thn_ret, cnd_t, cnd_f, blk_normal, blk_ret, blk_exit, x_seq, x_region, x_cond, x_block, x_loop, x_ret, x_exit, x_skip, e_mov, e_pick, pk_t, pk_f, withH_some, e_box, e_load, e_store, stH_some, e_nil, e_bin, e_eqv, eqH_f, eqH_t, e_un, e_fa, e_ia, ia_eq, nat_eq, natV_nat, e_len, lnH_some, e_extract, ex_0, ex_1, e_call0, e_call1, e_call2, e_call3, pc0_eq, pc1_some, pc2_some, pc3_some, fin_some, g_var0, g_vars, g_loc0, g_locs, g_int, g_bool, g_str, g_sl, s_none, s_zero, s_succ, cl_nil, cl_str, cl_bool, cl_slc, cl_own, evFa, evNil, asEl, evBin, intBin, strBin, evUn, len_nil, len_slc, len_str, clr, List.length_nil, List.length_cons, List.getElem?_cons_zero, List.getElem?_cons_succ, Nat.reduceAdd, Nat.zero_add, Nat.add_zero, Nat.reduceLeDiff, Nat.reduceSub, ↓reduceIte, List.drop_succ_cons, List.drop_zero, List.take_succ_cons, List.take_zero, Bool.false_eq_true, List.nil_append, List.cons_append, Bool.not_true, Bool.not_false, cond_true, cond_false, bne, lv_ret, lv_normal, res1, res2, lv2_some, res_var, res_cell, lvf_v, lvf_slc, res1c, lvo1_some, e_mm, mm_max, mm_min, cl_agg, cl_int, g_agg, e_callv1, cv1_fn, e_slice2, e_clrrow, e_callf2, pick_und, cells_agg, Option.map_some, Option.map_none]
          · have hie : i = l.length := by omega
            subst hie
            have hlt := lt_f (n := l.length)
            rw [List.drop_of_length_le (Nat.le_refl _), vrL] at hR
            refine ⟨.exit 0, V40 B c l.length l.length (.v (.bool false)), H' ++ (tb k n s c :: tb k' n' s' c' :: tl), ?_, H', (tb k n s c :: tb k' n' s' c' :: tl), hU', rfl, .inl ⟨rfl, R, hR.symm, hM', rfl⟩⟩
            simp only [V40, c40_18, c40_13, hlt, run_nil, run_cons, stp_plain, stp_guard, put_some, pass_eq, pick_tt, pick_ff, pick_tf, pick_ft, pick_u, reg_some, thn_normal, thn_exit, thn_ret, cnd_t, cnd_f, blk_normal, blk_ret, blk_exit, x_seq, x_region, x_cond, x_block, x_loop, x_ret, x_exit, x_skip, e_mov, e_pick, pk_t, pk_f, withH_some, e_box, e_load, e_store, stH_some, e_nil, e_bin, e_eqv, eqH_f, eqH_t, e_un, e_fa, e_ia, ia_eq, nat_eq, natV_nat, e_len, lnH_some, e_extract, ex_0, ex_1, e_call0, e_call1, e_call2, e_call3, pc0_eq, pc1_some, pc2_some, pc3_some, fin_some, g_var0, g_vars, g_loc0, g_locs, g_int, g_bool, g_str, g_sl, s_none, s_zero, s_succ, cl_nil, cl_str, cl_bool, cl_slc, cl_own, evFa, evNil, asEl, evBin, intBin, strBin, evUn, len_nil, len_slc, len_str, clr, List.length_nil, List.length_cons, List.getElem?_cons_zero, List.getElem?_cons_succ, Nat.reduceAdd, Nat.zero_add, Nat.add_zero, Nat.reduceLeDiff, Nat.reduceSub, ↓reduceIte, List.drop_succ_cons, List.drop_zero, List.take_succ_cons, List.take_zero, Bool.false_eq_true, List.nil_append, List.cons_append, Bool.not_true, Bool.not_false, cond_true, cond_false, bne, lv_ret, lv_normal, res1, res2, lv2_some, res_var, res_cell, lvf_v, lvf_slc, res1c, lvo1_some, e_mm, mm_max, mm_min, cl_agg, cl_int, g_agg, e_callv1, cv1_fn, e_slice2, e_clrrow, e_callf2, pick_und, cells_agg, Option.map_some, Option.map_none])
      obtain ⟨H2, tl, hU2, rfl, hcase⟩ := g3
      refine ⟨H2, tl, hU2, ?_⟩
      rcases hcase with ⟨rfl, R, h1, h2, rfl⟩ | ⟨rfl, h1, h2⟩
      · exact .inl ⟨R, h1, h2, g1⟩
      · exact .inr ⟨h1, v', g1, h2⟩
    -- behind the heads
    obtain ⟨rest, hrest⟩ : ∃ r, r = (CC.seq (.seq (.region [] [] c40_12) (.block 0 (.loop K40 [] c40_18))) (.seq (.region [] [] c40_19) .ret)) := ⟨_, rfl⟩
    have hbel : ∀ {H2 : List AO}, Up H H2 → H2.all (AO.below H2.length) = true := by
      intro H2 hU
      rw [hU.len, hB]; exact hU.below hM.bel
    have A0 : ldAt [tb k n s c, tb k' n' s' c'] 0 false 1 0 = some (.v (.int .i64 k)) := rfl
    have A1 : ldAt [tb k n s c, tb k' n' s' c'] 0 false 1 1 = some (.v (.string s)) := rfl
    have A2 : ldAt [tb k n s c, tb k' n' s' c'] 0 false 1 2 = some (.v (.int .i64 n)) := rfl
    have A3 : ldAt [tb k n s c, tb k' n' s' c'] 0 false 1 3 = some c := rfl
    have B0 : ldAt [tb k n s c, tb k' n' s' c'] 1 false 1 0 = some (.v (.int .i64 k')) := rfl
    have B1 : ldAt [tb k n s c, tb k' n' s' c'] 1 false 1 1 = some (.v (.string s')) := rfl
    have B2 : ldAt [tb k n s c, tb k' n' s' c'] 1 false 1 2 = some (.v (.int .i64 n')) := rfl
    have B3 : ldAt [tb k n s c, tb k' n' s' c'] 1 false 1 3 = some c' := rfl
    have b0 : bx (H ++ []) 24 (some [.v (.int .i64 k), .v (.string s), .v (.int .i64 n), c]) = some (.ptr B 0, H ++ [tb k n s c]) := bxx H hB [] 24 _
    have b1 : bx (H ++ [tb k n s c]) 24 (some [.v (.int .i64 k'), .v (.string s'), .v (.int .i64 n'), c']) = some (.ptr (B + 1) 0, H ++ [tb k n s c, tb k' n' s' c']) := bxx H hB [_] 24 _
    have fin : l.length = l'.length → ∀ (x1 x2 x3 x6 x7 x8 x9 x12 x13 x14 x15 x16 : AV) (H1 : List AO) (Q : Prs), Up H H1 → Mp B H1 Q →
        ∃ H2, Up H H2 ∧ ((∃ R, vrL l l' Q = some R ∧ Mp B H2 R ∧ leave H.length c40 (exec (callW F) (l.length + 1) rest [.ptr 4 0, x1, x2, .ptr B 0, .ptr (B + 1) 0, .v (.bool false), x6, x7, x8, x9, .v undef, .v undef, x12, x13, x14, x15, x16, .v undef, .v undef, .v undef, .v undef, .v undef] (H1 ++ [tb k n s c, tb k' n' s' c'])) = some (.v (.bool true), H2)) ∨
          (vrL l l' Q = none ∧ leave H.length c40 (exec (callW F) (l.length + 1) rest [.ptr 4 0, x1, x2, .ptr B 0, .ptr (B + 1) 0, .v (.bool false), x6, x7, x8, x9, .v undef, .v undef, x12, x13, x14, x15, x16, .v undef, .v undef, .v undef, .v undef, .v undef] (H1 ++ [tb k n s c, tb k' n' s' c'])) = some (.v (.bool false), H2))) := by
      intro hleq x1 x2 x3 x6 x7 x8 x9 x12 x13 x14 x15 x16 H1 Q hU1 hM1
      have hH1 : H1.length = B := hM1.len
      obtain ⟨H2, tl, hU2, hcase⟩ := loop hleq [.ptr 4 0, x1, x2, .ptr B 0, .ptr (B + 1) 0, .v (.bool false), x6, x7, x8, x9, .v undef, .v undef, x12, x13, x14, x15, x16, c, .v (.int .i64 l.length), .v (.int .i64 0), .v undef, .v undef] H1 Q rfl hU1 hM1
      refine ⟨H2, hU2, ?_⟩
      subst hrest
      generalize c40_18 = bb at hcase ⊢
      rcases hcase with ⟨R, h1, h2, h3⟩ | ⟨h1, v', h3, h4⟩
      · refine .inl ⟨R, h1, h2, ?_⟩
        simp only [V40, c40_12, c40_19, ld0 _ hH1, A3, q1, h3, run_nil, run_cons, stp_plain, stp_guard, put_some, pass_eq, pick_tt, pick_ff, pick_tf, pick_ft, pick_u, reg_some, thn_normal, thn_exit, thn_ret, cnd_t, cnd_f, blk_normal, blk_ret, blk_exit, x_seq, x_region, x_cond, x_block, x_loop, x_ret, x_exit, x_skip, e_mov, e_pick, pk_t, pk_f, withH_some, e_box, e_load, e_store, stH_some, e_nil, e_bin, e_eqv, eqH_f, eqH_t, e_un, e_fa, e_ia, ia_eq, nat_eq, natV_nat, e_len, lnH_some, e_extract, ex_0, ex_1, e_call0, e_call1, e_call2, e_call3, pc0_eq, pc1_some, pc2_some, pc3_some, fin_some, g_var0, g_vars, g_loc0, g_locs, g_int, g_bool, g_str, g_sl, s_none, s_zero, s_succ, cl_nil, cl_str, cl_bool, cl_slc, cl_own, evFa, evNil, asEl, evBin, intBin, strBin, evUn, len_nil, len_slc, len_str, clr, List.length_nil, List.length_cons, List.getElem?_cons_zero, List.getElem?_cons_succ, Nat.reduceAdd, Nat.zero_add, Nat.add_zero, Nat.reduceLeDiff, Nat.reduceSub, ↓reduceIte, List.drop_succ_cons, List.drop_zero, List.take_succ_cons, List.take_zero, Bool.false_eq_true, List.nil_append, List.cons_append, Bool.not_true, Bool.not_false, cond_true, cond_false, bne, lv_ret, lv_normal, res1, res2, lv2_some, res_var, res_cell, lvf_v, lvf_slc, res1c, lvo1_some, e_mm, mm_max, mm_min, cl_agg, cl_int, g_agg, e_callv1, cv1_fn, e_slice2, e_clrrow, e_callf2, pick_und, cells_agg, Option.map_some, Option.map_none]
        exact lv40 (hbel hU2) rfl hU2.len
      · refine .inr ⟨h1, ?_⟩
        simp only [V40, c40_12, c40_19, ld0 _ hH1, A3, q1, h3, run_nil, run_cons, stp_plain, stp_guard, put_some, pass_eq, pick_tt, pick_ff, pick_tf, pick_ft, pick_u, reg_some, thn_normal, thn_exit, thn_ret, cnd_t, cnd_f, blk_normal, blk_ret, blk_exit, x_seq, x_region, x_cond, x_block, x_loop, x_ret, x_exit, x_skip, e_mov, e_pick, pk_t, pk_f, withH_some, e_box, e_load, e_store, stH_some, e_nil, e_bin, e_eqv, eqH_f, eqH_t, e_un, e_fa, e_ia, ia_eq, nat_eq, natV_nat, e_len, lnH_some, e_extract, ex_0, ex_1, e_call0, e_call1, e_call2, e_call3, pc0_eq, pc1_some, pc2_some, pc3_some, fin_some, g_var0, g_vars, g_loc0, g_locs, g_int, g_bool, g_str, g_sl, s_none, s_zero, s_succ, cl_nil, cl_str, cl_bool, cl_slc, cl_own, evFa, evNil, asEl, evBin, intBin, strBin, evUn, len_nil, len_slc, len_str, clr, List.length_nil, List.length_cons, List.getElem?_cons_zero, List.getElem?_cons_succ, Nat.reduceAdd, Nat.zero_add, Nat.add_zero, Nat.reduceLeDiff, Nat.reduceSub, ↓reduceIte, List.drop_succ_cons, List.drop_zero, List.take_succ_cons, List.take_zero, Bool.false_eq_true, List.nil_append, List.cons_append, Bool.not_true, Bool.not_false, cond_true, cond_false, bne, lv_ret, lv_normal, res1, res2, lv2_some, res_var, res_cell, lvf_v, lvf_slc, res1c, lvo1_some, e_mm, mm_max, mm_min, cl_agg, cl_int, g_agg, e_callv1, cv1_fn, e_slice2, e_clrrow, e_callf2, pick_und, cells_agg, Option.map_some, Option.map_none]
        exact lv40 (hbel hU2) h4 hU2.len
    have hbody : c40.body = (.seq (.region [] [] c40_0) (.seq (.seq (.region [] [] c40_1) (.cond (.var 12) (.seq (.region [] [] c40_2) .ret) .skip)) (.seq (.seq (.region [] [] c40_3) (.cond (.var 13) (.seq (.region [] [] c40_4) (.seq (.region [] [] c40_5) (.seq (.region [] [] c40_6) (.cond (.var 14) (.region [] [] c40_7) (.seq (.region [] [] c40_8) (.cond (.var 15) (.seq (.region [] [] c40_9) .ret) .skip)))))) (.seq (.region [] [] c40_10) (.cond (.var 16) (.seq (.region [] [] c40_11) .ret) .skip)))) rest))) := by rw [hrest]; rfl
    have hst : start c40 [.ptr 4 0, .agg [.v (.int .i64 k), .v (.string s), .v (.int .i64 n), c], .agg [.v (.int .i64 k'), .v (.string s'), .v (.int .i64 n'), c']] = [.ptr 4 0, .agg [.v (.int .i64 k), .v (.string s), .v (.int .i64 n), c], .agg [.v (.int .i64 k'), .v (.string s'), .v (.int .i64 n'), c'], .v undef, .v undef, .v undef, .v undef, .v undef, .v undef, .v undef, .v undef, .v undef, .v undef, .v undef, .v undef, .v undef, .v undef, .v undef, .v undef, .v undef, .v undef, .v undef] := rfl
    have no : ∀ vs tl, vs.getD 5 .junk = .v (.bool false) → vrT (.mk k s n l) (.mk k' s' n' l') P = none → leave H.length c40 (exec (callW F) (l.length + 1) c40.body (start c40 [.ptr 4 0, .agg [.v (.int .i64 k), .v (.string s), .v (.int .i64 n), c], .agg [.v (.int .i64 k'), .v (.string s'), .v (.int .i64 n'), c']]) (H ++ [])) = leave H.length c40 (some (.ret, vs, H ++ tl)) → Does40 (.mk k s n l) (.mk k' s' n' l') (.agg [.v (.int .i64 k), .v (.string s), .v (.int .i64 n), c]) (.agg [.v (.int .i64 k'), .v (.string s'), .v (.int .i64 n'), c']) H B P := by
      intro vs tl h5 hv he
      exact ⟨H, .refl hM, .inr ⟨hv, callW_own (c := c40) rfl rfl (l.length + 1) (by rw [he]; exact lv40 (hbel (.refl hM)) h5 rfl)⟩⟩
    have yes : l.length = l'.length → ∀ (x1 x2 x3 x6 x7 x8 x9 x12 x13 x14 x15 x16 : AV) (H1 : List AO) (Q : Prs), Up H H1 → Mp B H1 Q → vrT (.mk k s n l) (.mk k' s' n' l') P = vrL l l' Q →
        leave H.length c40 (exec (callW F) (l.length + 1) c40.body (start c40 [.ptr 4 0, .agg [.v (.int .i64 k), .v (.string s), .v (.int .i64 n), c], .agg [.v (.int .i64 k'), .v (.string s'), .v (.int .i64 n'), c']]) (H ++ [])) = leave H.length c40 (exec (callW F) (l.length + 1) rest [.ptr 4 0, x1, x2, .ptr B 0, .ptr (B + 1) 0, .v (.bool false), x6, x7, x8, x9, .v undef, .v undef, x12, x13, x14, x15, x16, .v undef, .v undef, .v undef, .v undef, .v undef] (H1 ++ [tb k n s c, tb k' n' s' c'])) →
        Does40 (.mk k s n l) (.mk k' s' n' l') (.agg [.v (.int .i64 k), .v (.string s), .v (.int .i64 n), c]) (.agg [.v (.int .i64 k'), .v (.string s'), .v (.int .i64 n'), c']) H B P := by
      intro hleq x1 x2 x3 x6 x7 x8 x9 x12 x13 x14 x15 x16 H1 Q hU1 hM1 hv he
      obtain ⟨H2, hU2, hcase⟩ := fin hleq x1 x2 x3 x6 x7 x8 x9 x12 x13 x14 x15 x16 H1 Q hU1 hM1
      refine ⟨H2, hU2, ?_⟩
      rw [hv]
      rcases hcase with ⟨R, h1, h2, h3⟩ | ⟨h1, h3⟩
      · exact .inl ⟨R, h1, h2, callW_own (c := c40) rfl rfl (l.length + 1) (by rw [he]; exact h3)⟩
      · exact .inr ⟨h1, callW_own (c := c40) rfl rfl (l.length + 1) (by rw [he]; exact h3)⟩
    clear loop fin hrest
    cases hh : headV k s l k' s' l' with
    | false =>
      have hv : vrT (.mk k s n l) (.mk k' s' n' l') P = none := by rw [vrT, hh]; rfl
      unfold headV at hh
      rw [hbody, hst] at no
      cases h1 : (k == k') <;> cases h3 : (s.toList == s'.toList) <;> cases h4 : ((l.length : Int) == (l'.length : Int)) <;>
        (simp only [h1, h3, h4, Bool.and_true, Bool.and_false, Bool.false_and, Bool.true_and, Bool.and_self, reduceCtorEq] at hh) <;>
        (refine no ?_ ?_ ?_ hv ?_
         rotate_left 3
         · simp only [c40_0, c40_1, c40_2, b0, b1, ld _ hB, ld0 _ hB, A0, A1, A2, A3, B0, B1, B2, B3, q1, q1', h1, h3, h4, Bool.not_true, Bool.not_false, run_nil, run_cons, stp_plain, stp_guard, put_some, pass_eq, pick_tt, pick_ff, pick_tf, pick_ft, pick_u, reg_some, thn_normal, thn_exit, thn_ret, cnd_t, cnd_f, blk_normal, blk_ret, blk_exit, x_seq, x_region, x_cond, x_block, x_loop, x_ret, x_exit, x_skip, e_mov, e_pick, pk_t, pk_f, withH_some, e_box, e_load, e_store, stH_some, e_nil, e_bin, e_eqv, eqH_f, eqH_t, e_un, e_fa, e_ia, ia_eq, nat_eq, natV_nat, e_len, lnH_some, e_extract, ex_0, ex_1, e_call0, e_call1, e_call2, e_call3, pc0_eq, pc1_some, pc2_some, pc3_some, fin_some, g_var0, g_vars, g_loc0, g_locs, g_int, g_bool, g_str, g_sl, s_none, s_zero, s_succ, cl_nil, cl_str, cl_bool, cl_slc, cl_own, evFa, evNil, asEl, evBin, intBin, strBin, evUn, len_nil, len_slc, len_str, clr, List.length_nil, List.length_cons, List.getElem?_cons_zero, List.getElem?_cons_succ, Nat.reduceAdd, Nat.zero_add, Nat.add_zero, Nat.reduceLeDiff, Nat.reduceSub, ↓reduceIte, List.drop_succ_cons, List.drop_zero, List.take_succ_cons, List.take_zero, Bool.false_eq_true, List.nil_append, List.cons_append, Bool.not_true, Bool.not_false, cond_true, cond_false, bne, lv_ret, lv_normal, res1, res2, lv2_some, res_var, res_cell, lvf_v, lvf_slc, res1c, lvo1_some, e_mm, mm_max, mm_min, cl_agg, cl_int, g_agg, e_callv1, cv1_fn, e_slice2, e_clrrow, e_callf2, pick_und, cells_agg, Option.map_some, Option.map_none]
           rfl
         · rfl)
    | true =>
      have hleq := headV_len hh
      have hv : ∀ {x}, ownV k n n' P = x → vrT (.mk k s n l) (.mk k' s' n' l') P = match x with | some Q => vrL l l' Q | none => none := by
        rintro x rfl; rw [vrT, if_pos hh] <;> (cases ownV k n n' P <;> rfl)
      simp only [headV, Bool.and_eq_true] at hh
      obtain ⟨h1, h3, h4⟩ := hh
      rw [hbody, hst] at no yes
      cases h5 : (k == 1) with
      | false =>
        cases h6 : (n == n') with
        | true =>
          refine yes hleq (.agg [.v (.int .i64 k), .v (.string s), .v (.int .i64 n), c]) (.agg [.v (.int .i64 k'), .v (.string s'), .v (.int .i64 n'), c']) .junk (.v undef) (.v undef) (.v undef) (.v undef) (.v (.bool false)) (.v (.bool false)) (.v undef) (.v undef) (.v (.bool false)) H P (.refl hM) hM (hv (x := some P) (by rw [ownV, h5, h6]; rfl)) ?_
          simp only [c40_0, c40_1, c40_3, c40_10, b0, b1, ld _ hB, ld0 _ hB, A0, A1, A2, A3, B0, B1, B2, B3, q1, q1', h1, h3, h4, h5, Bool.not_true, Bool.not_false, h6, run_nil, run_cons, stp_plain, stp_guard, put_some, pass_eq, pick_tt, pick_ff, pick_tf, pick_ft, pick_u, reg_some, thn_normal, thn_exit, thn_ret, cnd_t, cnd_f, blk_normal, blk_ret, blk_exit, x_seq, x_region, x_cond, x_block, x_loop, x_ret, x_exit, x_skip, e_mov, e_pick, pk_t, pk_f, withH_some, e_box, e_load, e_store, stH_some, e_nil, e_bin, e_eqv, eqH_f, eqH_t, e_un, e_fa, e_ia, ia_eq, nat_eq, natV_nat, e_len, lnH_some, e_extract, ex_0, ex_1, e_call0, e_call1, e_call2, e_call3, pc0_eq, pc1_some, pc2_some, pc3_some, fin_some, g_var0, g_vars, g_loc0, g_locs, g_int, g_bool, g_str, g_sl, s_none, s_zero, s_succ, cl_nil, cl_str, cl_bool, cl_slc, cl_own, evFa, evNil, asEl, evBin, intBin, strBin, evUn, len_nil, len_slc, len_str, clr, List.length_nil, List.length_cons, List.getElem?_cons_zero, List.getElem?_cons_succ, Nat.reduceAdd, Nat.zero_add, Nat.add_zero, Nat.reduceLeDiff, Nat.reduceSub, ↓reduceIte, List.drop_succ_cons, List.drop_zero, List.take_succ_cons, List.take_zero, Bool.false_eq_true, List.nil_append, List.cons_append, Bool.not_true, Bool.not_false, cond_true, cond_false, bne, lv_ret, lv_normal, res1, res2, lv2_some, res_var, res_cell, lvf_v, lvf_slc, res1c, lvo1_some, e_mm, mm_max, mm_min, cl_agg, cl_int, g_agg, e_callv1, cv1_fn, e_slice2, e_clrrow, e_callf2, pick_und, cells_agg, Option.map_some, Option.map_none]
        | false =>
          refine no ?_ ?_ ?_ (hv (x := none) (by rw [ownV, h5, h6]; rfl)) ?_
          rotate_left 3
          · simp only [c40_0, c40_1, c40_3, c40_10, c40_11, b0, b1, ld _ hB, ld0 _ hB, A0, A1, A2, A3, B0, B1, B2, B3, q1, q1', h1, h3, h4, h5, Bool.not_true, Bool.not_false, h6, run_nil, run_cons, stp_plain, stp_guard, put_some, pass_eq, pick_tt, pick_ff, pick_tf, pick_ft, pick_u, reg_some, thn_normal, thn_exit, thn_ret, cnd_t, cnd_f, blk_normal, blk_ret, blk_exit, x_seq, x_region, x_cond, x_block, x_loop, x_ret, x_exit, x_skip, e_mov, e_pick, pk_t, pk_f, withH_some, e_box, e_load, e_store, stH_some, e_nil, e_bin, e_eqv, eqH_f, eqH_t, e_un, e_fa, e_ia, ia_eq, nat_eq, natV_nat, e_len, lnH_some, e_extract, ex_0, ex_1, e_call0, e_call1, e_call2, e_call3, pc0_eq, pc1_some, pc2_some, pc3_some, fin_some, g_var0, g_vars, g_loc0, g_locs, g_int, g_bool, g_str, g_sl, s_none, s_zero, s_succ, cl_nil, cl_str, cl_bool, cl_slc, cl_own, evFa, evNil, asEl, evBin, intBin, strBin, evUn, len_nil, len_slc, len_str, clr, List.length_nil, List.length_cons, List.getElem?_cons_zero, List.getElem?_cons_succ, Nat.reduceAdd, Nat.zero_add, Nat.add_zero, Nat.reduceLeDiff, Nat.reduceSub, ↓reduceIte, List.drop_succ_cons, List.drop_zero, List.take_succ_cons, List.take_zero, Bool.false_eq_true, List.nil_append, List.cons_append, Bool.not_true, Bool.not_false, cond_true, cond_false, bne, lv_ret, lv_normal, res1, res2, lv2_some, res_var, res_cell, lvf_v, lvf_slc, res1c, lvo1_some, e_mm, mm_max, mm_min, cl_agg, cl_int, g_agg, e_callv1, cv1_fn, e_slice2, e_clrrow, e_callf2, pick_und, cells_agg, Option.map_some, Option.map_none]
            rfl
          · rfl
      | true =>
        obtain ⟨e1, m1, g1⟩ := hM.m1
        obtain ⟨e2, m2, g2⟩ := hM.m2
        have lk1 := fun lst : List AO => lk_tup m1 g1 n lst
        have lk2 := fun lst : List AO => lk_tup m2 g2 n' lst
        have hv' : ∀ {x}, stepP P n n' = x → vrT (.mk k s n l) (.mk k' s' n' l') P = match x with | some Q => vrL l l' Q | none => none := fun h => hv (by rw [ownV, h5]; exact h)
        cases hx : thr P n with
        | none =>
          cases hy : bak P n' with
          | none =>
            simp only [hx, hy, Option.getD_none, Option.isSome_none] at lk1 lk2
            obtain ⟨i1, i2, H1, H2, H3, H4, t1, t2, t3, t4, hM4, hU4⟩ := hM.tell hx hy
            refine yes hleq (.agg [.v (.int .i64 k), .v (.string s), .v (.int .i64 n), c]) (.agg [.v (.int .i64 k'), .v (.string s'), .v (.int .i64 n'), c']) .junk (.v (.int .i64 0)) (.v (.bool false)) (.v (.int .i64 0)) (.v (.bool false)) (.v (.bool false)) (.v (.bool true)) (.v (.bool true)) (.v undef) (.v undef) H4 _ hU4 hM4 (hv' (x := some ((n, n') :: P)) (by rw [stepP, hx, hy])) ?_
            simp only [c40_0, c40_1, c40_3, c40_4, c40_5, c40_6, c40_7, b0, b1, ld _ hB, ld0 _ hB, A0, A1, A2, A3, B0, B1, B2, B3, q1, q1', h1, h3, h4, h5, Bool.not_true, Bool.not_false, p0 hM, p1 hM, lk1, lk2, eqb_ttt, eqb_ttf, eqb_tft, eqb_tff, ex_0, ex_1, e_lookup, t1, t2, t3, t4, e_mentry, e_estore, snap_int, run_nil, run_cons, stp_plain, stp_guard, put_some, pass_eq, pick_tt, pick_ff, pick_tf, pick_ft, pick_u, reg_some, thn_normal, thn_exit, thn_ret, cnd_t, cnd_f, blk_normal, blk_ret, blk_exit, x_seq, x_region, x_cond, x_block, x_loop, x_ret, x_exit, x_skip, e_mov, e_pick, pk_t, pk_f, withH_some, e_box, e_load, e_store, stH_some, e_nil, e_bin, e_eqv, eqH_f, eqH_t, e_un, e_fa, e_ia, ia_eq, nat_eq, natV_nat, e_len, lnH_some, e_extract, ex_0, ex_1, e_call0, e_call1, e_call2, e_call3, pc0_eq, pc1_some, pc2_some, pc3_some, fin_some, g_var0, g_vars, g_loc0, g_locs, g_int, g_bool, g_str, g_sl, s_none, s_zero, s_succ, cl_nil, cl_str, cl_bool, cl_slc, cl_own, evFa, evNil, asEl, evBin, intBin, strBin, evUn, len_nil, len_slc, len_str, clr, List.length_nil, List.length_cons, List.getElem?_cons_zero, List.getElem?_cons_succ, Nat.reduceAdd, Nat.zero_add, Nat.add_zero, Nat.reduceLeDiff, Nat.reduceSub, ↓reduceIte, List.drop_succ_cons, List.drop_zero, List.take_succ_cons, List.take_zero, Bool.false_eq_true, List.nil_append, List.cons_append, Bool.not_true, Bool.not_false, cond_true, cond_false, bne, lv_ret, lv_normal, res1, res2, lv2_some, res_var, res_cell, lvf_v, lvf_slc, res1c, lvo1_some, e_mm, mm_max, mm_min, cl_agg, cl_int, g_agg, e_callv1, cv1_fn, e_slice2, e_clrrow, e_callf2, pick_und, cells_agg, Option.map_some, Option.map_none]
          | some a' =>
            simp only [hx, hy, Option.getD_none, Option.isSome_none, Option.getD_some, Option.isSome_some] at lk1 lk2
            refine no ?_ ?_ ?_ (hv' (x := none) (by rw [stepP, hx, hy])) ?_
            rotate_left 3
            · simp only [c40_0, c40_1, c40_3, c40_4, c40_5, c40_6, c40_8, c40_9, b0, b1, ld _ hB, ld0 _ hB, A0, A1, A2, A3, B0, B1, B2, B3, q1, q1', h1, h3, h4, h5, Bool.not_true, Bool.not_false, p0 hM, p1 hM, lk1, lk2, eqb_ttt, eqb_ttf, eqb_tft, eqb_tff, ex_0, ex_1, e_lookup, run_nil, run_cons, stp_plain, stp_guard, put_some, pass_eq, pick_tt, pick_ff, pick_tf, pick_ft, pick_u, reg_some, thn_normal, thn_exit, thn_ret, cnd_t, cnd_f, blk_normal, blk_ret, blk_exit, x_seq, x_region, x_cond, x_block, x_loop, x_ret, x_exit, x_skip, e_mov, e_pick, pk_t, pk_f, withH_some, e_box, e_load, e_store, stH_some, e_nil, e_bin, e_eqv, eqH_f, eqH_t, e_un, e_fa, e_ia, ia_eq, nat_eq, natV_nat, e_len, lnH_some, e_extract, ex_0, ex_1, e_call0, e_call1, e_call2, e_call3, pc0_eq, pc1_some, pc2_some, pc3_some, fin_some, g_var0, g_vars, g_loc0, g_locs, g_int, g_bool, g_str, g_sl, s_none, s_zero, s_succ, cl_nil, cl_str, cl_bool, cl_slc, cl_own, evFa, evNil, asEl, evBin, intBin, strBin, evUn, len_nil, len_slc, len_str, clr, List.length_nil, List.length_cons, List.getElem?_cons_zero, List.getElem?_cons_succ, Nat.reduceAdd, Nat.zero_add, Nat.add_zero, Nat.reduceLeDiff, Nat.reduceSub, ↓reduceIte, List.drop_succ_cons, List.drop_zero, List.take_succ_cons, List.take_zero, Bool.false_eq_true, List.nil_append, List.cons_append, Bool.not_true, Bool.not_false, cond_true, cond_false, bne, lv_ret, lv_normal, res1, res2, lv2_some, res_var, res_cell, lvf_v, lvf_slc, res1c, lvo1_some, e_mm, mm_max, mm_min, cl_agg, cl_int, g_agg, e_callv1, cv1_fn, e_slice2, e_clrrow, e_callf2, pick_und, cells_agg, Option.map_some, Option.map_none]
              rfl
            · rfl
        | some b' =>
          cases hy : bak P n' with
          | none =>
            simp only [hx, hy, Option.getD_none, Option.isSome_none, Option.getD_some, Option.isSome_some] at lk1 lk2
            refine no ?_ ?_ ?_ (hv' (x := none) (by rw [stepP, hx, hy])) ?_
            rotate_left 3
            · simp only [c40_0, c40_1, c40_3, c40_4, c40_5, c40_6, c40_8, c40_9, b0, b1, ld _ hB, ld0 _ hB, A0, A1, A2, A3, B0, B1, B2, B3, q1, q1', h1, h3, h4, h5, Bool.not_true, Bool.not_false, p0 hM, p1 hM, lk1, lk2, eqb_ttt, eqb_ttf, eqb_tft, eqb_tff, ex_0, ex_1, e_lookup, run_nil, run_cons, stp_plain, stp_guard, put_some, pass_eq, pick_tt, pick_ff, pick_tf, pick_ft, pick_u, reg_some, thn_normal, thn_exit, thn_ret, cnd_t, cnd_f, blk_normal, blk_ret, blk_exit, x_seq, x_region, x_cond, x_block, x_loop, x_ret, x_exit, x_skip, e_mov, e_pick, pk_t, pk_f, withH_some, e_box, e_load, e_store, stH_some, e_nil, e_bin, e_eqv, eqH_f, eqH_t, e_un, e_fa, e_ia, ia_eq, nat_eq, natV_nat, e_len, lnH_some, e_extract, ex_0, ex_1, e_call0, e_call1, e_call2, e_call3, pc0_eq, pc1_some, pc2_some, pc3_some, fin_some, g_var0, g_vars, g_loc0, g_locs, g_int, g_bool, g_str, g_sl, s_none, s_zero, s_succ, cl_nil, cl_str, cl_bool, cl_slc, cl_own, evFa, evNil, asEl, evBin, intBin, strBin, evUn, len_nil, len_slc, len_str, clr, List.length_nil, List.length_cons, List.getElem?_cons_zero, List.getElem?_cons_succ, Nat.reduceAdd, Nat.zero_add, Nat.add_zero, Nat.reduceLeDiff, Nat.reduceSub, ↓reduceIte, List.drop_succ_cons, List.drop_zero, List.take_succ_cons, List.take_zero, Bool.false_eq_true, List.nil_append, List.cons_append, Bool.not_true, Bool.not_false, cond_true, cond_false, bne, lv_ret, lv_normal, res1, res2, lv2_some, res_var, res_cell, lvf_v, lvf_slc, res1c, lvo1_some, e_mm, mm_max, mm_min, cl_agg, cl_int, g_agg, e_callv1, cv1_fn, e_slice2, e_clrrow, e_callf2, pick_und, cells_agg, Option.map_some, Option.map_none]
              rfl
            · rfl
          | some a' =>
            simp only [hx, hy, Option.getD_some, Option.isSome_some] at lk1 lk2
            cases h7 : (b' == n') with
            | false =>
              refine no ?_ ?_ ?_ (hv' (x := none) (by rw [stepP, hx, hy]; simp only [h7]; rfl)) ?_
              rotate_left 3
              · simp only [c40_0, c40_1, c40_3, c40_4, c40_5, c40_6, c40_8, c40_9, b0, b1, ld _ hB, ld0 _ hB, A0, A1, A2, A3, B0, B1, B2, B3, q1, q1', h1, h3, h4, h5, Bool.not_true, Bool.not_false, p0 hM, p1 hM, lk1, lk2, eqb_ttt, eqb_ttf, eqb_tft, eqb_tff, ex_0, ex_1, e_lookup, h7, run_nil, run_cons, stp_plain, stp_guard, put_some, pass_eq, pick_tt, pick_ff, pick_tf, pick_ft, pick_u, reg_some, thn_normal, thn_exit, thn_ret, cnd_t, cnd_f, blk_normal, blk_ret, blk_exit, x_seq, x_region, x_cond, x_block, x_loop, x_ret, x_exit, x_skip, e_mov, e_pick, pk_t, pk_f, withH_some, e_box, e_load, e_store, stH_some, e_nil, e_bin, e_eqv, eqH_f, eqH_t, e_un, e_fa, e_ia, ia_eq, nat_eq, natV_nat, e_len, lnH_some, e_extract, ex_0, ex_1, e_call0, e_call1, e_call2, e_call3, pc0_eq, pc1_some, pc2_some, pc3_some, fin_some, g_var0, g_vars, g_loc0, g_locs, g_int, g_bool, g_str, g_sl, s_none, s_zero, s_succ, cl_nil, cl_str, cl_bool, cl_slc, cl_own, evFa, evNil, asEl, evBin, intBin, strBin, evUn, len_nil, len_slc, len_str, clr, List.length_nil, List.length_cons, List.getElem?_cons_zero, List.getElem?_cons_succ, Nat.reduceAdd, Nat.zero_add, Nat.add_zero, Nat.reduceLeDiff, Nat.reduceSub, ↓reduceIte, List.drop_succ_cons, List.drop_zero, List.take_succ_cons, List.take_zero, Bool.false_eq_true, List.nil_append, List.cons_append, Bool.not_true, Bool.not_false, cond_true, cond_false, bne, lv_ret, lv_normal, res1, res2, lv2_some, res_var, res_cell, lvf_v, lvf_slc, res1c, lvo1_some, e_mm, mm_max, mm_min, cl_agg, cl_int, g_agg, e_callv1, cv1_fn, e_slice2, e_clrrow, e_callf2, pick_und, cells_agg, Option.map_some, Option.map_none]
                rfl
              · rfl
            | true =>
              cases h8 : (a' == n) with
              | false =>
                refine no ?_ ?_ ?_ (hv' (x := none) (by rw [stepP, hx, hy]; simp only [h7, h8]; rfl)) ?_
                rotate_left 3
                · simp only [c40_0, c40_1, c40_3, c40_4, c40_5, c40_6, c40_8, c40_9, b0, b1, ld _ hB, ld0 _ hB, A0, A1, A2, A3, B0, B1, B2, B3, q1, q1', h1, h3, h4, h5, Bool.not_true, Bool.not_false, p0 hM, p1 hM, lk1, lk2, eqb_ttt, eqb_ttf, eqb_tft, eqb_tff, ex_0, ex_1, e_lookup, h7, h8, run_nil, run_cons, stp_plain, stp_guard, put_some, pass_eq, pick_tt, pick_ff, pick_tf, pick_ft, pick_u, reg_some, thn_normal, thn_exit, thn_ret, cnd_t, cnd_f, blk_normal, blk_ret, blk_exit, x_seq, x_region, x_cond, x_block, x_loop, x_ret, x_exit, x_skip, e_mov, e_pick, pk_t, pk_f, withH_some, e_box, e_load, e_store, stH_some, e_nil, e_bin, e_eqv, eqH_f, eqH_t, e_un, e_fa, e_ia, ia_eq, nat_eq, natV_nat, e_len, lnH_some, e_extract, ex_0, ex_1, e_call0, e_call1, e_call2, e_call3, pc0_eq, pc1_some, pc2_some, pc3_some, fin_some, g_var0, g_vars, g_loc0, g_locs, g_int, g_bool, g_str, g_sl, s_none, s_zero, s_succ, cl_nil, cl_str, cl_bool, cl_slc, cl_own, evFa, evNil, asEl, evBin, intBin, strBin, evUn, len_nil, len_slc, len_str, clr, List.length_nil, List.length_cons, List.getElem?_cons_zero, List.getElem?_cons_succ, Nat.reduceAdd, Nat.zero_add, Nat.add_zero, Nat.reduceLeDiff, Nat.reduceSub, ↓reduceIte, List.drop_succ_cons, List.drop_zero, List.take_succ_cons, List.take_zero, Bool.false_eq_true, List.nil_append, List.cons_append, Bool.not_true, Bool.not_false, cond_true, cond_false, bne, lv_ret, lv_normal, res1, res2, lv2_some, res_var, res_cell, lvf_v, lvf_slc, res1c, lvo1_some, e_mm, mm_max, mm_min, cl_agg, cl_int, g_agg, e_callv1, cv1_fn, e_slice2, e_clrrow, e_callf2, pick_und, cells_agg, Option.map_some, Option.map_none]
                  rfl
                · rfl
              | true =>
                refine yes hleq (.agg [.v (.int .i64 k), .v (.string s), .v (.int .i64 n), c]) (.agg [.v (.int .i64 k'), .v (.string s'), .v (.int .i64 n'), c']) .junk (.v (.int .i64 b')) (.v (.bool true)) (.v (.int .i64 a')) (.v (.bool true)) (.v (.bool false)) (.v (.bool true)) (.v (.bool false)) (.v (.bool false)) (.v undef) H P (.refl hM) hM (hv' (x := some P) (by rw [stepP, hx, hy]; simp only [h7, h8, if_true])) ?_
                simp only [c40_0, c40_1, c40_3, c40_4, c40_5, c40_6, c40_8, b0, b1, ld _ hB, ld0 _ hB, A0, A1, A2, A3, B0, B1, B2, B3, q1, q1', h1, h3, h4, h5, Bool.not_true, Bool.not_false, p0 hM, p1 hM, lk1, lk2, eqb_ttt, eqb_ttf, eqb_tft, eqb_tff, ex_0, ex_1, e_lookup, h7, h8, run_nil, run_cons, stp_plain, stp_guard, put_some, pass_eq, pick_tt, pick_ff, pick_tf, pick_ft, pick_u, reg_some, thn_normal, thn_exit, thn_ret, cnd_t, cnd_f, blk_normal, blk_ret, blk_exit, x_seq, x_region, x_cond, x_block, x_loop, x_ret, x_exit, x_skip, e_mov, e_pick, pk_t, pk_f, withH_some, e_box, e_load, e_store, stH_some, e_nil, e_bin, e_eqv, eqH_f, eqH_t, e_un, e_fa, e_ia, ia_eq, nat_eq, natV_nat, e_len, lnH_some, e_extract, ex_0, ex_1, e_call0, e_call1, e_call2, e_call3, pc0_eq, pc1_some, pc2_some, pc3_some, fin_some, g_var0, g_vars, g_loc0, g_locs, g_int, g_bool, g_str, g_sl, s_none, s_zero, s_succ, cl_nil, cl_str, cl_bool, cl_slc, cl_own, evFa, evNil, asEl, evBin, intBin, strBin, evUn, len_nil, len_slc, len_str, clr, List.length_nil, List.length_cons, List.getElem?_cons_zero, List.getElem?_cons_succ, Nat.reduceAdd, Nat.zero_add, Nat.add_zero, Nat.reduceLeDiff, Nat.reduceSub, ↓reduceIte, List.drop_succ_cons, List.drop_zero, List.take_succ_cons, List.take_zero, Bool.false_eq_true, List.nil_append, List.cons_append, Bool.not_true, Bool.not_false, cond_true, cond_false, bne, lv_ret, lv_normal, res1, res2, lv2_some, res_var, res_cell, lvf_v, lvf_slc, res1c, lvo1_some, e_mm, mm_max, mm_min, cl_agg, cl_int, g_agg, e_callv1, cv1_fn, e_slice2, e_clrrow, e_callf2, pick_und, cells_agg, Option.map_some, Option.map_none]
end Go.AE.YtgcbaefclkfnoaaDoor
end

/-! Fresh, of the program and of the document: both shift the numbers of all Vars. -/
section
set_option linter.unusedVariables false
set_option linter.unusedSimpArgs false
namespace Go.AE.YtgcbaefclkfnoaaDoor
open Go Go.AE Go.Proofs.YtgcbaefclkfnoaaDoor

mutual
def shiftT (by' : Int) : Tm → Tm
  | .mk k s n l => .mk k s (if k = 1 then IntKind.i64.wrap (n + by') else n) (shiftL by' l)
def shiftL (by' : Int) : List Tm → List Tm
  | [] => []
  | t :: l => shiftT by' t :: shiftL by' l
end
mutual
def size : Tm → Nat
  | .mk _ _ _ l => 1 + sizeL l
def sizeL : List Tm → Nat
  | [] => 0
  | t :: l => size t + sizeL l
end
theorem size_pos (t : Tm) : 1 ≤ size t := by cases t; simp only [size]; omega
theorem sizeL_len : ∀ l : List Tm, l.length ≤ sizeL l
  | [] => Nat.le_refl _
  | t :: l => by
    have := sizeL_len l
    have := size_pos t
    simp only [sizeL, List.length_cons]; omega
theorem size_mem : ∀ {l : List Tm} {t : Tm}, t ∈ l → size t ≤ sizeL l
  | u :: l, t, h => by
    simp only [sizeL]
    rcases List.mem_cons.1 h with rfl | h
    · omega
    · have := size_mem h; omega
theorem shiftL_len (by' : Int) : ∀ l : List Tm, (shiftL by' l).length = l.length
  | [] => rfl
  | t :: l => by simp [shiftL, shiftL_len by' l]

/-! ### The document's -/
def K35 : List Bool := [false, true, true, true, true, false, false, true, true, true, false]
def L35 (x : Int) (acc c : AV) (len i : Int) : List AV := [.junk, .v (.int .i64 x), .ptr 0 0, .ptr 1 0, acc, .junk, .junk, c, .v (.int .i64 len), .v (.int .i64 i), .junk]

theorem shift_loop {K : Nat} {c : AV} {es : List AV} (hs : Sl 4 c es) (hm : es.length ≤ 100000) (x : Int) :
    ∀ (l : List Tm) (i : Nat) (acc : AV) (ds : List AV) (dl : List Tm) (h : List AO) (vars : List AV), i + l.length = es.length → ds.length = i → All2 (es.drop i) l → All2 ds dl → (∀ t ∈ l, ∀ (e : AV), IsT e t → ∃ r, IsT r (shiftT x t) ∧ callW F 30 [e, .v (.int .i64 x)] [] = some (r, [])) →
      Acc 24 4 h acc ds → clr K35 vars = L35 x acc c es.length i →
      ∃ acc' ds' h' x5 x6 x10, loopN (exec (callW F) K c30_9) K35 (l.length + 1) vars h = some (.exit 0, [.junk, .v (.int .i64 x), .ptr 0 0, .ptr 1 0, acc', x5, x6, c, .v (.int .i64 es.length), .v (.int .i64 es.length), x10], h') ∧ Acc 24 4 h' acc' ds' ∧ All2 ds' (dl ++ shiftL x l) ∧ ds'.length = es.length ∧ Keeps h h' := by
  intro l
  induction l with
  | nil =>
    intro i acc ds dl h vars hi hds _ hall _ ha hv
    have hil : i = es.length := by simpa using hi
    subst hil
    have hlt : decide ((es.length : Int) < (es.length : Int)) = false := by simp
    refine ⟨acc, ds, h, .junk, .junk, .v (.bool false), loop_exit ?_, ha, by simpa [shiftL] using hall, hds, .refl h⟩
    rw [hv]
    simp only [L35, c30_9, c30_5, hlt, e_bslice1, e_bslice2, bs1, bs2, e_build, bdH_some, bd_nil, bd_cons, bd1, cl_agg, cl_int, toL, List.map_cons, List.map_nil, putAt, List.set_cons_zero, List.set_cons_succ, and_self, Nat.le_refl, app_get, app_set, g_agg, run_nil, run_cons, stp_plain, stp_guard, put_some, pass_eq, pick_tt, pick_ff, pick_tf, pick_ft, pick_u, reg_some, thn_normal, thn_exit, thn_ret, cnd_t, cnd_f, blk_normal, blk_ret, blk_exit, x_seq, x_region, x_cond, x_block, x_loop, x_ret, x_exit, x_skip, e_mov, e_pick, pk_t, pk_f, withH_some, e_box, bx_some, e_load, e_store, stH_some, e_nil, e_bin, e_eqv, eqH_f, eqH_t, e_un, e_fa, e_ia, ia_eq, nat_eq, natV_nat, e_len, lnH_some, e_extract, ex_0, ex_1, e_call0, e_call1, e_call2, e_call3, pc0_eq, pc1_some, pc2_some, pc3_some, fin_some, g_var0, g_vars, g_loc0, g_locs, g_int, g_bool, g_str, g_sl, s_none, s_zero, s_succ, cl_nil, cl_str, cl_bool, cl_slc, cl_own, evFa, evNil, asEl, evBin, intBin, strBin, evUn, len_nil, len_slc, len_str, clr, List.length_nil, List.length_cons, List.getElem?_cons_zero, List.getElem?_cons_succ, Nat.reduceAdd, Nat.zero_add, Nat.add_zero, Nat.reduceLeDiff, Nat.reduceSub, ↓reduceIte, List.drop_succ_cons, List.drop_zero, List.take_succ_cons, List.take_zero, Bool.false_eq_true, List.nil_append, List.cons_append, Bool.not_true, Bool.not_false, cond_true, cond_false, bne, lv_ret, lv_normal, res1, res2, lv2_some, res_var, res_cell, lvf_v, lvf_slc, res1c, lvo1_some, e_mm, mm_max, mm_min]
  | cons t l ih =>
    intro i acc ds dl h vars hi hds hes hall hcall ha hv
    have hil : i < es.length := by simp at hi; omega
    have he : es[i]? = some (es[i]'hil) := List.getElem?_eq_getElem _
    have hd : es.drop i = es[i] :: es.drop (i + 1) := List.drop_eq_getElem_cons hil
    rw [hd] at hes
    cases hes with
    | cons _ _ _ _ hT hs' =>
    obtain ⟨r, hr, hc⟩ := hcall t (by simp) _ hT
    obtain ⟨acc', h2, h3, h4, h5⟩ := (ha.app (.box 24 (es[i]).cells)).add (x := .slc 4 true true [r]) (ys := [r]) (bytes := 56) elems_one (by
      have : room = 140737488355328 := rfl
      simp only [fits, List.length_cons, List.length_nil, decide_eq_true_eq]; omega)
    have hlt : (decide ((i : Int) < (es.length : Int))) = true := by simp; omega
    have q1 := hs.ia he
    have q3 : ∀ h : List AO, evLoad h true 4 (.ip (es[i]).cells) = some es[i] := fun h => hT.load
    have q5 : ∀ h : List AO, (es[i]).snap1 h = some es[i] := fun h => hT.snap
    have q6 : ∀ h : List AO, r.snap1 h = some r := fun h => hr.snap
    have q7 : r.cl = some r.cells := hr.cl.1
    have q8 : r.cells.length = 4 := hr.cl.2
    have st : exec (callW F) K c30_9 (L35 x acc c es.length i) h = some (.normal, [.junk, .v (.int .i64 x), .ptr 0 0, .ptr 1 0, acc', .ptr h.length 0, .junk, c, .v (.int .i64 es.length), .v (.int .i64 ((i + 1 : Nat) : Int)), .v (.bool true)], h2) := by
      have hz : ([.v (.int .i64 0), .v (.string ⟨#[]⟩), .v (.int .i64 0), .v (.slice none 0 0)] : List AV).length = 4 := rfl
      simp only [L35, c30_9, c30_5, c30_6, c30_7, c30_8, hlt, wrap_succ hil (small_max hm), q1, q3, q5, q6, q7, q8, hc, h3, hT.st _ _ hz, hT.ld, snap_int, q9z, e_append, bs1_some q7 q8, e_bslice1, e_bslice2, bs1, bs2, e_build, bdH_some, bd_nil, bd_cons, bd1, cl_agg, cl_int, toL, List.map_cons, List.map_nil, putAt, List.set_cons_zero, List.set_cons_succ, and_self, Nat.le_refl, app_get, app_set, g_agg, run_nil, run_cons, stp_plain, stp_guard, put_some, pass_eq, pick_tt, pick_ff, pick_tf, pick_ft, pick_u, reg_some, thn_normal, thn_exit, thn_ret, cnd_t, cnd_f, blk_normal, blk_ret, blk_exit, x_seq, x_region, x_cond, x_block, x_loop, x_ret, x_exit, x_skip, e_mov, e_pick, pk_t, pk_f, withH_some, e_box, bx_some, e_load, e_store, stH_some, e_nil, e_bin, e_eqv, eqH_f, eqH_t, e_un, e_fa, e_ia, ia_eq, nat_eq, natV_nat, e_len, lnH_some, e_extract, ex_0, ex_1, e_call0, e_call1, e_call2, e_call3, pc0_eq, pc1_some, pc2_some, pc3_some, fin_some, g_var0, g_vars, g_loc0, g_locs, g_int, g_bool, g_str, g_sl, s_none, s_zero, s_succ, cl_nil, cl_str, cl_bool, cl_slc, cl_own, evFa, evNil, asEl, evBin, intBin, strBin, evUn, len_nil, len_slc, len_str, clr, List.length_nil, List.length_cons, List.getElem?_cons_zero, List.getElem?_cons_succ, Nat.reduceAdd, Nat.zero_add, Nat.add_zero, Nat.reduceLeDiff, Nat.reduceSub, ↓reduceIte, List.drop_succ_cons, List.drop_zero, List.take_succ_cons, List.take_zero, Bool.false_eq_true, List.nil_append, List.cons_append, Bool.not_true, Bool.not_false, cond_true, cond_false, bne, lv_ret, lv_normal, res1, res2, lv2_some, res_var, res_cell, lvf_v, lvf_slc, res1c, lvo1_some, e_mm, mm_max, mm_min]
    rw [show (t :: l).length + 1 = (l.length + 1) + 1 from rfl, loop_normal (by rw [hv]; exact st)]
    obtain ⟨acc'', ds', h', x5, x6, x10, g1, g2, g3, g4, g5⟩ := ih (i + 1) acc' (ds ++ [r]) (dl ++ [shiftT x t]) h2 [.junk, .v (.int .i64 x), .ptr 0 0, .ptr 1 0, acc', .ptr h.length 0, .junk, c, .v (.int .i64 es.length), .v (.int .i64 ((i + 1 : Nat) : Int)), .v (.bool true)] (by simp at hi; omega) (by simp [hds]) hs' (hall.app (.one hr)) (fun t ht => hcall t (by simp [ht])) h4 rfl
    refine ⟨acc'', ds', h', x5, x6, x10, g1, g2, ?_, g4, ((Keeps.app _ _).trans h5).trans g5⟩
    rw [shiftL]
    simpa using g3

theorem shift35 (x : Int) : ∀ (N : Nat) (t : Tm) (a : AV), SizeOf.sizeOf t < N → size t ≤ 100000 → IsT a t → ∃ r, IsT r (shiftT x t) ∧ callW F 30 [a, .v (.int .i64 x)] [] = some (r, []) := by
  intro N
  induction N with
  | zero => intro t a h; omega
  | succ N ih =>
    intro t a hN hsz ha
    cases ha with
    | mk k s n c l hc =>
    have h5 := Tm.mk.sizeOf_spec k s n l
    simp only [size] at hsz
    have hll := sizeL_len l
    have hcall : ∀ t ∈ l, ∀ (e : AV), IsT e t → ∃ r, IsT r (shiftT x t) ∧ callW F 30 [e, .v (.int .i64 x)] [] = some (r, []) := by
      intro t ht e hT
      have h6 := List.sizeOf_lt_of_mem ht
      have h7 := size_mem ht
      exact ih t e (by omega) (by omega) hT
    obtain ⟨es, hs, hes, hm⟩ := hc.sl
    have e1 := hes.length
    have key : ∀ n' : Int, ∃ acc' ds' h' x5 x6 x10, loopN (exec (callW F) (l.length + 1) c30_9) K35 (l.length + 1) (L35 x (.v (.slice none 0 0)) c es.length 0) [.box 24 [.v (.int .i64 k), .v (.string s), .v (.int .i64 n'), c], .box 24 zeroC] = some (.exit 0, [.junk, .v (.int .i64 x), .ptr 0 0, .ptr 1 0, acc', x5, x6, c, .v (.int .i64 es.length), .v (.int .i64 es.length), x10], h') ∧ Acc 24 4 h' acc' ds' ∧ All2 ds' (shiftL x l) ∧ ds'.length = es.length ∧ Keeps [.box 24 [.v (.int .i64 k), .v (.string s), .v (.int .i64 n'), c], .box 24 zeroC] h' := by
      intro n'
      exact shift_loop (K := l.length + 1) hs (by omega) x l 0 (.v (.slice none 0 0)) [] [] _ (L35 x (.v (.slice none 0 0)) c es.length 0) (by omega) rfl (by simpa using hes) .nil hcall .nil rfl
    have last : ∀ (n' : Int) (acc' x5 x6 x10 : AV) (ds' : List AV) (h' : List AO), Acc 24 4 h' acc' ds' → All2 ds' (shiftL x l) → ds'.length = es.length → Keeps [.box 24 [.v (.int .i64 k), .v (.string s), .v (.int .i64 n'), c], .box 24 zeroC] h' →
        ∃ r, IsT r (.mk k s n' (shiftL x l)) ∧ lv [.cell 3 true 4] (exec (callW F) (l.length + 1) (.seq (.region [] [] c30_10) (.seq (.region [] [] c30_11) .ret)) [.junk, .v (.int .i64 x), .ptr 0 0, .ptr 1 0, acc', x5, x6, c, .v (.int .i64 es.length), .v (.int .i64 es.length), x10] h') = some (r, []) := by
      intro n' acc' x5 x6 x10 ds' h' ha hall hlen hk
      have b0 := hk.2 0 _ _ rfl
      have b1 := hk.2 1 _ _ rfl
      have hlt0 : 0 < h'.length := (List.getElem?_eq_some_iff.1 b0).1
      have hlt1 : 1 < h'.length := (List.getElem?_eq_some_iff.1 b1).1
      have s1 := bx_st (n := 1) (o := 3) (xs := [acc']) (x := acc') b0 ha.cl rfl (by simp)
      simp only [putAt, List.set_cons_succ, List.set_cons_zero] at s1
      have b0' : (h'.set 0 (.box 24 [.v (.int .i64 k), .v (.string s), .v (.int .i64 n'), acc']))[0]? = some (.box 24 [.v (.int .i64 k), .v (.string s), .v (.int .i64 n'), acc']) := by simp [hlt0]
      have b1' : (h'.set 0 (.box 24 [.v (.int .i64 k), .v (.string s), .v (.int .i64 n'), acc']))[1]? = some (.box 24 zeroC) := by simp [b1]
      have s2 := bx_st (n := 4) (o := 0) (x := .agg [.v (.int .i64 k), .v (.string s), .v (.int .i64 n'), acc']) b1' cl_agg rfl (by simp [zeroC])
      simp only [putAt, zeroC, List.set_cons_succ, List.set_cons_zero, Nat.zero_add, Nat.reduceAdd] at s2
      have b1'' : ((h'.set 0 (.box 24 [.v (.int .i64 k), .v (.string s), .v (.int .i64 n'), acc'])).set 1 (.box 24 [.v (.int .i64 k), .v (.string s), .v (.int .i64 n'), acc']))[1]? = some (.box 24 [.v (.int .i64 k), .v (.string s), .v (.int .i64 n'), acc']) := by simp [hlt1]
      have l1 := bx_ld b0' (a := true) (n := 4) (o := 0)
      have l2 := bx_ld b1'' (a := true) (n := 4) (o := 0)
      have ha' : Acc 24 4 ((h'.set 0 (.box 24 [.v (.int .i64 k), .v (.string s), .v (.int .i64 n'), acc'])).set 1 (.box 24 [.v (.int .i64 k), .v (.string s), .v (.int .i64 n'), acc'])) acc' ds' := by
        cases ha with
        | nil => exact .nil
        | own id ver k es hr hk hne =>
          refine .own id ver k ds' ?_ hk hne
          have n0 : 0 ≠ id := fun e => by subst e; rw [b0] at hr; cases hr
          have n1 : 1 ≠ id := fun e => by subst e; rw [b1] at hr; cases hr
          rw [List.getElem?_set_ne n1, List.getElem?_set_ne n0]; exact hr
      obtain ⟨c', f1, f2⟩ := ha'.frz0
      refine ⟨.agg [.v (.int .i64 k), .v (.string s), .v (.int .i64 n'), c'], .mk k s n' c' _ (Sl.isL f2 hall (by omega)), ?_⟩
      have lf : lvf ((h'.set 0 (.box 24 [.v (.int .i64 k), .v (.string s), .v (.int .i64 n'), acc'])).set 1 (.box 24 [.v (.int .i64 k), .v (.string s), .v (.int .i64 n'), acc'])) (.agg [.v (.int .i64 k), .v (.string s), .v (.int .i64 n'), acc']) = some (.agg [.v (.int .i64 k), .v (.string s), .v (.int .i64 n'), c'], []) := by
        have fz : ∀ (x : Value) (h : List AO), (AV.v x).frz0 0 h = some (.v x) := fun _ _ => rfl
        simp [lvf, AV.frz2, AV.frz1, fz, f1]
      simp only [c30_10, c30_11, s1, s2, l1, l2, lf, e_bslice1, e_bslice2, bs1, bs2, e_build, bdH_some, bd_nil, bd_cons, bd1, cl_agg, cl_int, toL, List.map_cons, List.map_nil, putAt, List.set_cons_zero, List.set_cons_succ, and_self, Nat.le_refl, app_get, app_set, g_agg, run_nil, run_cons, stp_plain, stp_guard, put_some, pass_eq, pick_tt, pick_ff, pick_tf, pick_ft, pick_u, reg_some, thn_normal, thn_exit, thn_ret, cnd_t, cnd_f, blk_normal, blk_ret, blk_exit, x_seq, x_region, x_cond, x_block, x_loop, x_ret, x_exit, x_skip, e_mov, e_pick, pk_t, pk_f, withH_some, e_box, bx_some, e_load, e_store, stH_some, e_nil, e_bin, e_eqv, eqH_f, eqH_t, e_un, e_fa, e_ia, ia_eq, nat_eq, natV_nat, e_len, lnH_some, e_extract, ex_0, ex_1, e_call0, e_call1, e_call2, e_call3, pc0_eq, pc1_some, pc2_some, pc3_some, fin_some, g_var0, g_vars, g_loc0, g_locs, g_int, g_bool, g_str, g_sl, s_none, s_zero, s_succ, cl_nil, cl_str, cl_bool, cl_slc, cl_own, evFa, evNil, asEl, evBin, intBin, strBin, evUn, len_nil, len_slc, len_str, clr, List.length_nil, List.length_cons, List.getElem?_cons_zero, List.getElem?_cons_succ, Nat.reduceAdd, Nat.zero_add, Nat.add_zero, Nat.reduceLeDiff, Nat.reduceSub, ↓reduceIte, List.drop_succ_cons, List.drop_zero, List.take_succ_cons, List.take_zero, Bool.false_eq_true, List.nil_append, List.cons_append, Bool.not_true, Bool.not_false, cond_true, cond_false, bne, lv_ret, lv_normal, res1, res2, lv2_some, res_var, res_cell, lvf_v, lvf_slc, res1c, lvo1_some, e_mm, mm_max, mm_min]
    by_cases hk : k = 1
    · have h1 : (k == 1) = true := by simpa using hk
      obtain ⟨acc', ds', h', x5, x6, x10, g1, g2, g3, g4, g5⟩ := key (IntKind.i64.wrap (n + x))
      obtain ⟨r, hr, hlv⟩ := last _ acc' x5 x6 x10 ds' h' g2 g3 g4 g5
      refine ⟨r, by rw [shiftT, if_pos hk]; exact hr, callW_pure (c := c30) rfl rfl (l.length + 1) ?_⟩
      rw [← hlv]
      show lv [.cell 3 true 4] (exec (callW F) (l.length + 1) (.seq (.region [] [] c30_0) (.seq (.seq (.region [] [] c30_1) (.cond (.var 6) (.region [] [] c30_2) .skip)) (.seq (.region [] [] c30_3) (.seq (.seq (.region [] [] c30_4) (.block 0 (.loop K35 [] c30_9))) (.seq (.region [] [] c30_10) (.seq (.region [] [] c30_11) .ret)))))) _ _) = _
      generalize (CC.seq (.region [] [] c30_10) (.seq (.region [] [] c30_11) .ret)) = rest
      simp only [zeroC] at g1
      simp only [c30, start, List.replicate, c30_0, c30_1, c30_2, c30_3, c30_4, h1, hs.len, q9z, evStore, e_bslice1, e_bslice2, bs1, bs2, e_build, bdH_some, bd_nil, bd_cons, bd1, cl_agg, cl_int, toL, List.map_cons, List.map_nil, putAt, List.set_cons_zero, List.set_cons_succ, and_self, Nat.le_refl, evStore, app_get, app_set, g_agg, run_nil, run_cons, stp_plain, stp_guard, put_some, pass_eq, pick_tt, pick_ff, pick_tf, pick_ft, pick_u, reg_some, thn_normal, thn_exit, thn_ret, cnd_t, cnd_f, blk_normal, blk_ret, blk_exit, x_seq, x_region, x_cond, x_block, x_loop, x_ret, x_exit, x_skip, e_mov, e_pick, pk_t, pk_f, withH_some, e_box, bx_some, e_load, e_store, stH_some, e_nil, e_bin, e_eqv, eqH_f, eqH_t, e_un, e_fa, e_ia, ia_eq, nat_eq, natV_nat, e_len, lnH_some, e_extract, ex_0, ex_1, e_call0, e_call1, e_call2, e_call3, pc0_eq, pc1_some, pc2_some, pc3_some, fin_some, g_var0, g_vars, g_loc0, g_locs, g_int, g_bool, g_str, g_sl, s_none, s_zero, s_succ, cl_nil, cl_str, cl_bool, cl_slc, cl_own, evFa, evNil, evLoad, asEl, evBin, intBin, strBin, evUn, len_nil, len_slc, len_str, clr, List.length_nil, List.length_cons, List.getElem?_cons_zero, List.getElem?_cons_succ, Nat.reduceAdd, Nat.zero_add, Nat.add_zero, Nat.reduceLeDiff, Nat.reduceSub, ↓reduceIte, List.drop_succ_cons, List.drop_zero, List.take_succ_cons, List.take_zero, Bool.false_eq_true, List.nil_append, List.cons_append, Bool.not_true, Bool.not_false, cond_true, cond_false, bne, lv_ret, lv_normal, res1, res2, lv2_some, res_var, res_cell, lvf_v, lvf_slc, res1c, lvo1_some, e_mm, mm_max, mm_min]
      rw [loop_cong (v2 := L35 x (.v (.slice none 0 0)) c es.length 0) (by rfl), g1]
      simp only [blk_exit, thn_normal]
    · have h1 : (k == 1) = false := by simpa using hk
      obtain ⟨acc', ds', h', x5, x6, x10, g1, g2, g3, g4, g5⟩ := key n
      obtain ⟨r, hr, hlv⟩ := last _ acc' x5 x6 x10 ds' h' g2 g3 g4 g5
      refine ⟨r, by rw [shiftT, if_neg hk]; exact hr, callW_pure (c := c30) rfl rfl (l.length + 1) ?_⟩
      rw [← hlv]
      show lv [.cell 3 true 4] (exec (callW F) (l.length + 1) (.seq (.region [] [] c30_0) (.seq (.seq (.region [] [] c30_1) (.cond (.var 6) (.region [] [] c30_2) .skip)) (.seq (.region [] [] c30_3) (.seq (.seq (.region [] [] c30_4) (.block 0 (.loop K35 [] c30_9))) (.seq (.region [] [] c30_10) (.seq (.region [] [] c30_11) .ret)))))) _ _) = _
      generalize (CC.seq (.region [] [] c30_10) (.seq (.region [] [] c30_11) .ret)) = rest
      simp only [zeroC] at g1
      simp only [c30, start, List.replicate, c30_0, c30_1, c30_3, c30_4, h1, hs.len, q9z, evStore, e_bslice1, e_bslice2, bs1, bs2, e_build, bdH_some, bd_nil, bd_cons, bd1, cl_agg, cl_int, toL, List.map_cons, List.map_nil, putAt, List.set_cons_zero, List.set_cons_succ, and_self, Nat.le_refl, evStore, app_get, app_set, g_agg, run_nil, run_cons, stp_plain, stp_guard, put_some, pass_eq, pick_tt, pick_ff, pick_tf, pick_ft, pick_u, reg_some, thn_normal, thn_exit, thn_ret, cnd_t, cnd_f, blk_normal, blk_ret, blk_exit, x_seq, x_region, x_cond, x_block, x_loop, x_ret, x_exit, x_skip, e_mov, e_pick, pk_t, pk_f, withH_some, e_box, bx_some, e_load, e_store, stH_some, e_nil, e_bin, e_eqv, eqH_f, eqH_t, e_un, e_fa, e_ia, ia_eq, nat_eq, natV_nat, e_len, lnH_some, e_extract, ex_0, ex_1, e_call0, e_call1, e_call2, e_call3, pc0_eq, pc1_some, pc2_some, pc3_some, fin_some, g_var0, g_vars, g_loc0, g_locs, g_int, g_bool, g_str, g_sl, s_none, s_zero, s_succ, cl_nil, cl_str, cl_bool, cl_slc, cl_own, evFa, evNil, evLoad, asEl, evBin, intBin, strBin, evUn, len_nil, len_slc, len_str, clr, List.length_nil, List.length_cons, List.getElem?_cons_zero, List.getElem?_cons_succ, Nat.reduceAdd, Nat.zero_add, Nat.add_zero, Nat.reduceLeDiff, Nat.reduceSub, ↓reduceIte, List.drop_succ_cons, List.drop_zero, List.take_succ_cons, List.take_zero, Bool.false_eq_true, List.nil_append, List.cons_append, Bool.not_true, Bool.not_false, cond_true, cond_false, bne, lv_ret, lv_normal, res1, res2, lv2_some, res_var, res_cell, lvf_v, lvf_slc, res1c, lvo1_some, e_mm, mm_max, mm_min]
      rw [loop_cong (v2 := L35 x (.v (.slice none 0 0)) c es.length 0) (by rfl), g1]
      simp only [blk_exit, thn_normal]
end Go.AE.YtgcbaefclkfnoaaDoor
end
