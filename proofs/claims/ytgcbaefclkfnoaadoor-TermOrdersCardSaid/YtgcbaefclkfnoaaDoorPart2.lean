/- Texts of this claim, put together. -/
import Derived.Test.YtgcbaefclkfnoaaDoorPart1
import Derived.Test.YtgcbaefclkfnoaaDoorEval3
import Derived.Test.YtgcbaefclkfnoaaDoorEval4
import Derived.Test.YtgcbaefclkfnoaaDoorRows
import Derived.WalkKit
import Derived.ProofKit
import Derived.OpenShut
import Derived.ShutString
import Derived.ChangeOld
import Derived.Below
import Derived.SizedLaws
import Derived.Test.YtgcbaefclkfnoaaDoorTie
import Derived.Test.YtgcbaefclkfnoaaDoorCards
import Derived.Lib.LaidIn
import Derived.Lib.LaidU8T
import Derived.KernelRfl
import Derived.Handed
import Derived.SevenTiedAt
/-! Size and Deep, the program's and the document's. -/
section
set_option linter.unusedVariables false
set_option linter.unusedSimpArgs false
namespace Go.AE.YtgcbaefclkfnoaaDoor
open Go Go.AE Go.Proofs.YtgcbaefclkfnoaaDoor

mutual
def sizI : Tm → Int
  | .mk _ _ _ l => sizL l 1
def sizL : List Tm → Int → Int
  | [], m => m
  | a :: l, m => sizL l (IntKind.i64.wrap (m + sizI a))
end
mutual
def depI : Tm → Int
  | .mk _ _ _ l => IntKind.i64.wrap (depL l 0 + 1)
def depL : List Tm → Int → Int
  | [], m => m
  | a :: l, m => depL l (max m (depI a))
end
def Vfold (c : AV) (m n i : Int) (x4 x8 : AV) : List AV := [.junk, .junk, .junk, .v (.int .i64 m), x4, c, .v (.int .i64 n), .v (.int .i64 i), x8]
theorem size_ok : ∀ (N : Nat) (t : Tm) (a : AV), SizeOf.sizeOf t < N → IsT a t → callW F 27 [a] [] = some (.v (.int .i64 (sizI t)), []) := by
  intro N
  induction N with
  | zero => intro t a h; omega
  | succ N ih =>
    intro t a hN ha
    cases ha with
    | mk k s n c l hc =>
    obtain ⟨es, hs, hes, hm⟩ := hc.sl
    have hll := hes.length
    refine callW_pure (c := c27) rfl rfl (l.length + 1) ?_
    have q1 := fun h : List AO => hs.len h
    obtain ⟨e, v', h', g1, g2, g3⟩ := loop_rule0 (call := callW F) (K := l.length + 1) (b := c27_7) (keep := [false, false, false, true, false, true, true, true, false])
      (fun i v h => ∃ m', v = Vfold c m' es.length i .junk .junk ∧ sizL (l.drop i) m' = sizL l 1)
      (fun e v h => e = .exit 0 ∧ ∃ x4, v = Vfold c (sizL l 1) es.length es.length x4 (.v (.bool false)))
      l.length (m := l.length + 1) (v := [.agg [.v (.int .i64 k), .v (.string s), .v (.int .i64 n), c], .ptr 0 0, .v (.int .i64 0), .v (.int .i64 1), .v undef, c, .v (.int .i64 es.length), .v (.int .i64 0), .v undef]) (h := [.box 24 [.v (.int .i64 k), .v (.string s), .v (.int .i64 n), c]])
      (by omega) ⟨_, rfl, rfl⟩ (by
        rintro i v h hi ⟨m', rfl, hR⟩
        by_cases hil : i < es.length
        · have hil' : i < l.length := by omega
          have hT := hes.at hil hil'
          have hlt := lt_t hil
          have he : es[i]? = some es[i] := List.getElem?_eq_getElem hil
          have q2 := fun h : List AO => hs.ia he h
          have hf := hT.facts
          have hd : l.drop i = l[i] :: l.drop (i + 1) := List.drop_eq_getElem_cons hil'
          have hw := wrap_succ hil hm
          rw [hd, sizL] at hR
          have hc := ih l[i] es[i] (by have := IsL.mem_size (k := k) (n := n) (s := s) (List.getElem_mem hil'); omega) hT
          refine ⟨.normal, [.junk, .junk, .junk, .v (.int .i64 (IntKind.i64.wrap (m' + sizI l[i]))), .ptr h.length 0, c, .v (.int .i64 es.length), .v (.int .i64 ((i + 1 : Nat) : Int)), .v (.bool true)], h ++ [.box 24 es[i].cells], ?_, by omega, _, rfl, hR⟩
          simp only [Vfold, c27_7, c27_3, c27_4, c27_5, c27_6, hlt, q1, q2, hf, hc, hw, q9z, e_mm, mm_max, run_nil, run_cons, stp_plain, stp_guard, put_some, pass_eq, pick_tt, pick_ff, pick_tf, pick_ft, pick_u, reg_some, thn_normal, thn_exit, thn_ret, cnd_t, cnd_f, blk_normal, blk_ret, blk_exit, x_seq, x_region, x_cond, x_block, x_loop, x_ret, x_exit, x_skip, e_mov, e_pick, pk_t, pk_f, withH_some, e_box, e_load, e_store, stH_some, e_nil, e_bin, e_eqv, eqH_f, eqH_t, e_un, e_fa, e_ia, ia_eq, nat_eq, natV_nat, e_len, lnH_some, e_extract, ex_0, ex_1, e_call0, e_call1, e_call2, e_call3, pc0_eq, pc1_some, pc2_some, pc3_some, fin_some, g_var0, g_vars, g_loc0, g_locs, g_int, g_bool, g_str, g_sl, s_none, s_zero, s_succ, cl_nil, cl_str, cl_bool, cl_slc, cl_own, evFa, evNil, asEl, evBin, intBin, strBin, evUn, len_nil, len_slc, len_str, clr, List.length_nil, List.length_cons, List.getElem?_cons_zero, List.getElem?_cons_succ, Nat.reduceAdd, Nat.zero_add, Nat.add_zero, Nat.reduceLeDiff, Nat.reduceSub, ↓reduceIte, List.drop_succ_cons, List.drop_zero, List.take_succ_cons, List.take_zero, Bool.false_eq_true, List.nil_append, List.cons_append, Bool.not_true, Bool.not_false, cond_true, cond_false, bne, lv_ret, lv_normal, res1, res2, lv2_some, res_var, res_cell, lvf_v, lvf_slc, res1c, lvo1_some, e_mm, mm_max, mm_min, cl_agg, cl_int, g_agg, e_callv1, cv1_fn, e_slice2, e_clrrow, e_callf2, pick_und, cells_agg, Option.map_some, Option.map_none, bx_some]
        · have hie : i = es.length := by omega
          subst hie
          have hlt := lt_f (n := es.length)
          rw [List.drop_of_length_le (by omega), sizL] at hR
          refine ⟨.exit 0, Vfold c m' es.length es.length .junk (.v (.bool false)), h, ?_, rfl, _, by rw [hR]⟩
          simp only [Vfold, c27_7, c27_3, hlt, run_nil, run_cons, stp_plain, stp_guard, put_some, pass_eq, pick_tt, pick_ff, pick_tf, pick_ft, pick_u, reg_some, thn_normal, thn_exit, thn_ret, cnd_t, cnd_f, blk_normal, blk_ret, blk_exit, x_seq, x_region, x_cond, x_block, x_loop, x_ret, x_exit, x_skip, e_mov, e_pick, pk_t, pk_f, withH_some, e_box, e_load, e_store, stH_some, e_nil, e_bin, e_eqv, eqH_f, eqH_t, e_un, e_fa, e_ia, ia_eq, nat_eq, natV_nat, e_len, lnH_some, e_extract, ex_0, ex_1, e_call0, e_call1, e_call2, e_call3, pc0_eq, pc1_some, pc2_some, pc3_some, fin_some, g_var0, g_vars, g_loc0, g_locs, g_int, g_bool, g_str, g_sl, s_none, s_zero, s_succ, cl_nil, cl_str, cl_bool, cl_slc, cl_own, evFa, evNil, asEl, evBin, intBin, strBin, evUn, len_nil, len_slc, len_str, clr, List.length_nil, List.length_cons, List.getElem?_cons_zero, List.getElem?_cons_succ, Nat.reduceAdd, Nat.zero_add, Nat.add_zero, Nat.reduceLeDiff, Nat.reduceSub, ↓reduceIte, List.drop_succ_cons, List.drop_zero, List.take_succ_cons, List.take_zero, Bool.false_eq_true, List.nil_append, List.cons_append, Bool.not_true, Bool.not_false, cond_true, cond_false, bne, lv_ret, lv_normal, res1, res2, lv2_some, res_var, res_cell, lvf_v, lvf_slc, res1c, lvo1_some, e_mm, mm_max, mm_min, cl_agg, cl_int, g_agg, e_callv1, cv1_fn, e_slice2, e_clrrow, e_callf2, pick_und, cells_agg, Option.map_some, Option.map_none, bx_some])
    have e5 : evLoad [.box 24 [.v (.int .i64 k), .v (.string s), .v (.int .i64 n), c]] false 1 (.ptr 0 3) = some c := rfl
    rw [sizI]
    rw [show c27.body = (.seq (.region [] [] c27_0) (.seq (.region [] [] c27_1) (.seq (.seq (.region [] [] c27_2) (.block 0 (.loop [false, false, false, true, false, true, true, true, false] [] c27_7))) (.seq (.region [] [] c27_8) .ret)))) from rfl, show c27.res = [.var 2] from rfl]
    rw [show start c27 [.agg [.v (.int .i64 k), .v (.string s), .v (.int .i64 n), c]] = [.agg [.v (.int .i64 k), .v (.string s), .v (.int .i64 n), c], .v undef, .v undef, .v undef, .v undef, .v undef, .v undef, .v undef, .v undef] from rfl]
    obtain ⟨rfl, x4, rfl⟩ := g3
    generalize c27_7 = bb at g1 ⊢
    simp only [Vfold, c27_0, c27_1, c27_2, c27_8, e5, q1, g1, run_nil, run_cons, stp_plain, stp_guard, put_some, pass_eq, pick_tt, pick_ff, pick_tf, pick_ft, pick_u, reg_some, thn_normal, thn_exit, thn_ret, cnd_t, cnd_f, blk_normal, blk_ret, blk_exit, x_seq, x_region, x_cond, x_block, x_loop, x_ret, x_exit, x_skip, e_mov, e_pick, pk_t, pk_f, withH_some, e_box, e_load, e_store, stH_some, e_nil, e_bin, e_eqv, eqH_f, eqH_t, e_un, e_fa, e_ia, ia_eq, nat_eq, natV_nat, e_len, lnH_some, e_extract, ex_0, ex_1, e_call0, e_call1, e_call2, e_call3, pc0_eq, pc1_some, pc2_some, pc3_some, fin_some, g_var0, g_vars, g_loc0, g_locs, g_int, g_bool, g_str, g_sl, s_none, s_zero, s_succ, cl_nil, cl_str, cl_bool, cl_slc, cl_own, evFa, evNil, asEl, evBin, intBin, strBin, evUn, len_nil, len_slc, len_str, clr, List.length_nil, List.length_cons, List.getElem?_cons_zero, List.getElem?_cons_succ, Nat.reduceAdd, Nat.zero_add, Nat.add_zero, Nat.reduceLeDiff, Nat.reduceSub, ↓reduceIte, List.drop_succ_cons, List.drop_zero, List.take_succ_cons, List.take_zero, Bool.false_eq_true, List.nil_append, List.cons_append, Bool.not_true, Bool.not_false, cond_true, cond_false, bne, lv_ret, lv_normal, res1, res2, lv2_some, res_var, res_cell, lvf_v, lvf_slc, res1c, lvo1_some, e_mm, mm_max, mm_min, cl_agg, cl_int, g_agg, e_callv1, cv1_fn, e_slice2, e_clrrow, e_callf2, pick_und, cells_agg, Option.map_some, Option.map_none, bx_some]
theorem rsize_ok : ∀ (N : Nat) (t : Tm) (a : AV), SizeOf.sizeOf t < N → IsT a t → callW F 28 [a] [] = some (.v (.int .i64 (sizI t)), []) := by
  intro N
  induction N with
  | zero => intro t a h; omega
  | succ N ih =>
    intro t a hN ha
    cases ha with
    | mk k s n c l hc =>
    obtain ⟨es, hs, hes, hm⟩ := hc.sl
    have hll := hes.length
    refine callW_pure (c := c28) rfl rfl (l.length + 1) ?_
    have q1 := fun h : List AO => hs.len h
    obtain ⟨e, v', h', g1, g2, g3⟩ := loop_rule0 (call := callW F) (K := l.length + 1) (b := c28_7) (keep := [false, false, false, true, false, true, true, true, false])
      (fun i v h => ∃ m', v = Vfold c m' es.length i .junk .junk ∧ sizL (l.drop i) m' = sizL l 1)
      (fun e v h => e = .exit 0 ∧ ∃ x4, v = Vfold c (sizL l 1) es.length es.length x4 (.v (.bool false)))
      l.length (m := l.length + 1) (v := [.agg [.v (.int .i64 k), .v (.string s), .v (.int .i64 n), c], .ptr 0 0, .v (.int .i64 0), .v (.int .i64 1), .v undef, c, .v (.int .i64 es.length), .v (.int .i64 0), .v undef]) (h := [.box 24 [.v (.int .i64 k), .v (.string s), .v (.int .i64 n), c]])
      (by omega) ⟨_, rfl, rfl⟩ (by
        rintro i v h hi ⟨m', rfl, hR⟩
        by_cases hil : i < es.length
        · have hil' : i < l.length := by omega
          have hT := hes.at hil hil'
          have hlt := lt_t hil
          have he : es[i]? = some es[i] := List.getElem?_eq_getElem hil
          have q2 := fun h : List AO => hs.ia he h
          have hf := hT.facts
          have hd : l.drop i = l[i] :: l.drop (i + 1) := List.drop_eq_getElem_cons hil'
          have hw := wrap_succ hil hm
          rw [hd, sizL] at hR
          have hc := ih l[i] es[i] (by have := IsL.mem_size (k := k) (n := n) (s := s) (List.getElem_mem hil'); omega) hT
          refine ⟨.normal, [.junk, .junk, .junk, .v (.int .i64 (IntKind.i64.wrap (m' + sizI l[i]))), .ptr h.length 0, c, .v (.int .i64 es.length), .v (.int .i64 ((i + 1 : Nat) : Int)), .v (.bool true)], h ++ [.box 24 es[i].cells], ?_, by omega, _, rfl, hR⟩
          simp only [Vfold, c28_7, c28_3, c28_4, c28_5, c28_6, hlt, q1, q2, hf, hc, hw, q9z, e_mm, mm_max, run_nil, run_cons, stp_plain, stp_guard, put_some, pass_eq, pick_tt, pick_ff, pick_tf, pick_ft, pick_u, reg_some, thn_normal, thn_exit, thn_ret, cnd_t, cnd_f, blk_normal, blk_ret, blk_exit, x_seq, x_region, x_cond, x_block, x_loop, x_ret, x_exit, x_skip, e_mov, e_pick, pk_t, pk_f, withH_some, e_box, e_load, e_store, stH_some, e_nil, e_bin, e_eqv, eqH_f, eqH_t, e_un, e_fa, e_ia, ia_eq, nat_eq, natV_nat, e_len, lnH_some, e_extract, ex_0, ex_1, e_call0, e_call1, e_call2, e_call3, pc0_eq, pc1_some, pc2_some, pc3_some, fin_some, g_var0, g_vars, g_loc0, g_locs, g_int, g_bool, g_str, g_sl, s_none, s_zero, s_succ, cl_nil, cl_str, cl_bool, cl_slc, cl_own, evFa, evNil, asEl, evBin, intBin, strBin, evUn, len_nil, len_slc, len_str, clr, List.length_nil, List.length_cons, List.getElem?_cons_zero, List.getElem?_cons_succ, Nat.reduceAdd, Nat.zero_add, Nat.add_zero, Nat.reduceLeDiff, Nat.reduceSub, ↓reduceIte, List.drop_succ_cons, List.drop_zero, List.take_succ_cons, List.take_zero, Bool.false_eq_true, List.nil_append, List.cons_append, Bool.not_true, Bool.not_false, cond_true, cond_false, bne, lv_ret, lv_normal, res1, res2, lv2_some, res_var, res_cell, lvf_v, lvf_slc, res1c, lvo1_some, e_mm, mm_max, mm_min, cl_agg, cl_int, g_agg, e_callv1, cv1_fn, e_slice2, e_clrrow, e_callf2, pick_und, cells_agg, Option.map_some, Option.map_none, bx_some]
        · have hie : i = es.length := by omega
          subst hie
          have hlt := lt_f (n := es.length)
          rw [List.drop_of_length_le (by omega), sizL] at hR
          refine ⟨.exit 0, Vfold c m' es.length es.length .junk (.v (.bool false)), h, ?_, rfl, _, by rw [hR]⟩
          simp only [Vfold, c28_7, c28_3, hlt, run_nil, run_cons, stp_plain, stp_guard, put_some, pass_eq, pick_tt, pick_ff, pick_tf, pick_ft, pick_u, reg_some, thn_normal, thn_exit, thn_ret, cnd_t, cnd_f, blk_normal, blk_ret, blk_exit, x_seq, x_region, x_cond, x_block, x_loop, x_ret, x_exit, x_skip, e_mov, e_pick, pk_t, pk_f, withH_some, e_box, e_load, e_store, stH_some, e_nil, e_bin, e_eqv, eqH_f, eqH_t, e_un, e_fa, e_ia, ia_eq, nat_eq, natV_nat, e_len, lnH_some, e_extract, ex_0, ex_1, e_call0, e_call1, e_call2, e_call3, pc0_eq, pc1_some, pc2_some, pc3_some, fin_some, g_var0, g_vars, g_loc0, g_locs, g_int, g_bool, g_str, g_sl, s_none, s_zero, s_succ, cl_nil, cl_str, cl_bool, cl_slc, cl_own, evFa, evNil, asEl, evBin, intBin, strBin, evUn, len_nil, len_slc, len_str, clr, List.length_nil, List.length_cons, List.getElem?_cons_zero, List.getElem?_cons_succ, Nat.reduceAdd, Nat.zero_add, Nat.add_zero, Nat.reduceLeDiff, Nat.reduceSub, ↓reduceIte, List.drop_succ_cons, List.drop_zero, List.take_succ_cons, List.take_zero, Bool.false_eq_true, List.nil_append, List.cons_append, Bool.not_true, Bool.not_false, cond_true, cond_false, bne, lv_ret, lv_normal, res1, res2, lv2_some, res_var, res_cell, lvf_v, lvf_slc, res1c, lvo1_some, e_mm, mm_max, mm_min, cl_agg, cl_int, g_agg, e_callv1, cv1_fn, e_slice2, e_clrrow, e_callf2, pick_und, cells_agg, Option.map_some, Option.map_none, bx_some])
    have e5 : evLoad [.box 24 [.v (.int .i64 k), .v (.string s), .v (.int .i64 n), c]] false 1 (.ptr 0 3) = some c := rfl
    rw [sizI]
    rw [show c28.body = (.seq (.region [] [] c28_0) (.seq (.region [] [] c28_1) (.seq (.seq (.region [] [] c28_2) (.block 0 (.loop [false, false, false, true, false, true, true, true, false] [] c28_7))) (.seq (.region [] [] c28_8) .ret)))) from rfl, show c28.res = [.var 2] from rfl]
    rw [show start c28 [.agg [.v (.int .i64 k), .v (.string s), .v (.int .i64 n), c]] = [.agg [.v (.int .i64 k), .v (.string s), .v (.int .i64 n), c], .v undef, .v undef, .v undef, .v undef, .v undef, .v undef, .v undef, .v undef] from rfl]
    obtain ⟨rfl, x4, rfl⟩ := g3
    generalize c28_7 = bb at g1 ⊢
    simp only [Vfold, c28_0, c28_1, c28_2, c28_8, e5, q1, g1, run_nil, run_cons, stp_plain, stp_guard, put_some, pass_eq, pick_tt, pick_ff, pick_tf, pick_ft, pick_u, reg_some, thn_normal, thn_exit, thn_ret, cnd_t, cnd_f, blk_normal, blk_ret, blk_exit, x_seq, x_region, x_cond, x_block, x_loop, x_ret, x_exit, x_skip, e_mov, e_pick, pk_t, pk_f, withH_some, e_box, e_load, e_store, stH_some, e_nil, e_bin, e_eqv, eqH_f, eqH_t, e_un, e_fa, e_ia, ia_eq, nat_eq, natV_nat, e_len, lnH_some, e_extract, ex_0, ex_1, e_call0, e_call1, e_call2, e_call3, pc0_eq, pc1_some, pc2_some, pc3_some, fin_some, g_var0, g_vars, g_loc0, g_locs, g_int, g_bool, g_str, g_sl, s_none, s_zero, s_succ, cl_nil, cl_str, cl_bool, cl_slc, cl_own, evFa, evNil, asEl, evBin, intBin, strBin, evUn, len_nil, len_slc, len_str, clr, List.length_nil, List.length_cons, List.getElem?_cons_zero, List.getElem?_cons_succ, Nat.reduceAdd, Nat.zero_add, Nat.add_zero, Nat.reduceLeDiff, Nat.reduceSub, ↓reduceIte, List.drop_succ_cons, List.drop_zero, List.take_succ_cons, List.take_zero, Bool.false_eq_true, List.nil_append, List.cons_append, Bool.not_true, Bool.not_false, cond_true, cond_false, bne, lv_ret, lv_normal, res1, res2, lv2_some, res_var, res_cell, lvf_v, lvf_slc, res1c, lvo1_some, e_mm, mm_max, mm_min, cl_agg, cl_int, g_agg, e_callv1, cv1_fn, e_slice2, e_clrrow, e_callf2, pick_und, cells_agg, Option.map_some, Option.map_none, bx_some]
theorem deep_ok : ∀ (N : Nat) (t : Tm) (a : AV), SizeOf.sizeOf t < N → IsT a t → callW F 25 [a] [] = some (.v (.int .i64 (depI t)), []) := by
  intro N
  induction N with
  | zero => intro t a h; omega
  | succ N ih =>
    intro t a hN ha
    cases ha with
    | mk k s n c l hc =>
    obtain ⟨es, hs, hes, hm⟩ := hc.sl
    have hll := hes.length
    refine callW_pure (c := c25) rfl rfl (l.length + 1) ?_
    have q1 := fun h : List AO => hs.len h
    obtain ⟨e, v', h', g1, g2, g3⟩ := loop_rule0 (call := callW F) (K := l.length + 1) (b := c25_7) (keep := [false, false, false, true, false, true, true, true, false])
      (fun i v h => ∃ m', v = Vfold c m' es.length i .junk .junk ∧ depL (l.drop i) m' = depL l 0)
      (fun e v h => e = .exit 0 ∧ ∃ x4, v = Vfold c (depL l 0) es.length es.length x4 (.v (.bool false)))
      l.length (m := l.length + 1) (v := [.agg [.v (.int .i64 k), .v (.string s), .v (.int .i64 n), c], .ptr 0 0, .v (.int .i64 0), .v (.int .i64 0), .v undef, c, .v (.int .i64 es.length), .v (.int .i64 0), .v undef]) (h := [.box 24 [.v (.int .i64 k), .v (.string s), .v (.int .i64 n), c]])
      (by omega) ⟨_, rfl, rfl⟩ (by
        rintro i v h hi ⟨m', rfl, hR⟩
        by_cases hil : i < es.length
        · have hil' : i < l.length := by omega
          have hT := hes.at hil hil'
          have hlt := lt_t hil
          have he : es[i]? = some es[i] := List.getElem?_eq_getElem hil
          have q2 := fun h : List AO => hs.ia he h
          have hf := hT.facts
          have hd : l.drop i = l[i] :: l.drop (i + 1) := List.drop_eq_getElem_cons hil'
          have hw := wrap_succ hil hm
          rw [hd, depL] at hR
          have hc := ih l[i] es[i] (by have := IsL.mem_size (k := k) (n := n) (s := s) (List.getElem_mem hil'); omega) hT
          refine ⟨.normal, [.junk, .junk, .junk, .v (.int .i64 (max m' (depI l[i]))), .ptr h.length 0, c, .v (.int .i64 es.length), .v (.int .i64 ((i + 1 : Nat) : Int)), .v (.bool true)], h ++ [.box 24 es[i].cells], ?_, by omega, _, rfl, hR⟩
          simp only [Vfold, c25_7, c25_3, c25_4, c25_5, c25_6, hlt, q1, q2, hf, hc, hw, q9z, e_mm, mm_max, run_nil, run_cons, stp_plain, stp_guard, put_some, pass_eq, pick_tt, pick_ff, pick_tf, pick_ft, pick_u, reg_some, thn_normal, thn_exit, thn_ret, cnd_t, cnd_f, blk_normal, blk_ret, blk_exit, x_seq, x_region, x_cond, x_block, x_loop, x_ret, x_exit, x_skip, e_mov, e_pick, pk_t, pk_f, withH_some, e_box, e_load, e_store, stH_some, e_nil, e_bin, e_eqv, eqH_f, eqH_t, e_un, e_fa, e_ia, ia_eq, nat_eq, natV_nat, e_len, lnH_some, e_extract, ex_0, ex_1, e_call0, e_call1, e_call2, e_call3, pc0_eq, pc1_some, pc2_some, pc3_some, fin_some, g_var0, g_vars, g_loc0, g_locs, g_int, g_bool, g_str, g_sl, s_none, s_zero, s_succ, cl_nil, cl_str, cl_bool, cl_slc, cl_own, evFa, evNil, asEl, evBin, intBin, strBin, evUn, len_nil, len_slc, len_str, clr, List.length_nil, List.length_cons, List.getElem?_cons_zero, List.getElem?_cons_succ, Nat.reduceAdd, Nat.zero_add, Nat.add_zero, Nat.reduceLeDiff, Nat.reduceSub, ↓reduceIte, List.drop_succ_cons, List.drop_zero, List.take_succ_cons, List.take_zero, Bool.false_eq_true, List.nil_append, List.cons_append, Bool.not_true, Bool.not_false, cond_true, cond_false, bne, lv_ret, lv_normal, res1, res2, lv2_some, res_var, res_cell, lvf_v, lvf_slc, res1c, lvo1_some, e_mm, mm_max, mm_min, cl_agg, cl_int, g_agg, e_callv1, cv1_fn, e_slice2, e_clrrow, e_callf2, pick_und, cells_agg, Option.map_some, Option.map_none, bx_some]
        · have hie : i = es.length := by omega
          subst hie
          have hlt := lt_f (n := es.length)
          rw [List.drop_of_length_le (by omega), depL] at hR
          refine ⟨.exit 0, Vfold c m' es.length es.length .junk (.v (.bool false)), h, ?_, rfl, _, by rw [hR]⟩
          simp only [Vfold, c25_7, c25_3, hlt, run_nil, run_cons, stp_plain, stp_guard, put_some, pass_eq, pick_tt, pick_ff, pick_tf, pick_ft, pick_u, reg_some, thn_normal, thn_exit, thn_ret, cnd_t, cnd_f, blk_normal, blk_ret, blk_exit, x_seq, x_region, x_cond, x_block, x_loop, x_ret, x_exit, x_skip, e_mov, e_pick, pk_t, pk_f, withH_some, e_box, e_load, e_store, stH_some, e_nil, e_bin, e_eqv, eqH_f, eqH_t, e_un, e_fa, e_ia, ia_eq, nat_eq, natV_nat, e_len, lnH_some, e_extract, ex_0, ex_1, e_call0, e_call1, e_call2, e_call3, pc0_eq, pc1_some, pc2_some, pc3_some, fin_some, g_var0, g_vars, g_loc0, g_locs, g_int, g_bool, g_str, g_sl, s_none, s_zero, s_succ, cl_nil, cl_str, cl_bool, cl_slc, cl_own, evFa, evNil, asEl, evBin, intBin, strBin, evUn, len_nil, len_slc, len_str, clr, List.length_nil, List.length_cons, List.getElem?_cons_zero, List.getElem?_cons_succ, Nat.reduceAdd, Nat.zero_add, Nat.add_zero, Nat.reduceLeDiff, Nat.reduceSub, ↓reduceIte, List.drop_succ_cons, List.drop_zero, List.take_succ_cons, List.take_zero, Bool.false_eq_true, List.nil_append, List.cons_append, Bool.not_true, Bool.not_false, cond_true, cond_false, bne, lv_ret, lv_normal, res1, res2, lv2_some, res_var, res_cell, lvf_v, lvf_slc, res1c, lvo1_some, e_mm, mm_max, mm_min, cl_agg, cl_int, g_agg, e_callv1, cv1_fn, e_slice2, e_clrrow, e_callf2, pick_und, cells_agg, Option.map_some, Option.map_none, bx_some])
    have e5 : evLoad [.box 24 [.v (.int .i64 k), .v (.string s), .v (.int .i64 n), c]] false 1 (.ptr 0 3) = some c := rfl
    rw [depI]
    rw [show c25.body = (.seq (.region [] [] c25_0) (.seq (.region [] [] c25_1) (.seq (.seq (.region [] [] c25_2) (.block 0 (.loop [false, false, false, true, false, true, true, true, false] [] c25_7))) (.seq (.region [] [] c25_8) .ret)))) from rfl, show c25.res = [.var 2] from rfl]
    rw [show start c25 [.agg [.v (.int .i64 k), .v (.string s), .v (.int .i64 n), c]] = [.agg [.v (.int .i64 k), .v (.string s), .v (.int .i64 n), c], .v undef, .v undef, .v undef, .v undef, .v undef, .v undef, .v undef, .v undef] from rfl]
    obtain ⟨rfl, x4, rfl⟩ := g3
    generalize c25_7 = bb at g1 ⊢
    simp only [Vfold, c25_0, c25_1, c25_2, c25_8, e5, q1, g1, Int.add_comm 1, run_nil, run_cons, stp_plain, stp_guard, put_some, pass_eq, pick_tt, pick_ff, pick_tf, pick_ft, pick_u, reg_some, thn_normal, thn_exit, thn_ret, cnd_t, cnd_f, blk_normal, blk_ret, blk_exit, x_seq, x_region, x_cond, x_block, x_loop, x_ret, x_exit, x_skip, e_mov, e_pick, pk_t, pk_f, withH_some, e_box, e_load, e_store, stH_some, e_nil, e_bin, e_eqv, eqH_f, eqH_t, e_un, e_fa, e_ia, ia_eq, nat_eq, natV_nat, e_len, lnH_some, e_extract, ex_0, ex_1, e_call0, e_call1, e_call2, e_call3, pc0_eq, pc1_some, pc2_some, pc3_some, fin_some, g_var0, g_vars, g_loc0, g_locs, g_int, g_bool, g_str, g_sl, s_none, s_zero, s_succ, cl_nil, cl_str, cl_bool, cl_slc, cl_own, evFa, evNil, asEl, evBin, intBin, strBin, evUn, len_nil, len_slc, len_str, clr, List.length_nil, List.length_cons, List.getElem?_cons_zero, List.getElem?_cons_succ, Nat.reduceAdd, Nat.zero_add, Nat.add_zero, Nat.reduceLeDiff, Nat.reduceSub, ↓reduceIte, List.drop_succ_cons, List.drop_zero, List.take_succ_cons, List.take_zero, Bool.false_eq_true, List.nil_append, List.cons_append, Bool.not_true, Bool.not_false, cond_true, cond_false, bne, lv_ret, lv_normal, res1, res2, lv2_some, res_var, res_cell, lvf_v, lvf_slc, res1c, lvo1_some, e_mm, mm_max, mm_min, cl_agg, cl_int, g_agg, e_callv1, cv1_fn, e_slice2, e_clrrow, e_callf2, pick_und, cells_agg, Option.map_some, Option.map_none, bx_some]
theorem rdeep_ok : ∀ (N : Nat) (t : Tm) (a : AV), SizeOf.sizeOf t < N → IsT a t → callW F 26 [a] [] = some (.v (.int .i64 (depI t)), []) := by
  intro N
  induction N with
  | zero => intro t a h; omega
  | succ N ih =>
    intro t a hN ha
    cases ha with
    | mk k s n c l hc =>
    obtain ⟨es, hs, hes, hm⟩ := hc.sl
    have hll := hes.length
    refine callW_pure (c := c26) rfl rfl (l.length + 1) ?_
    have q1 := fun h : List AO => hs.len h
    obtain ⟨e, v', h', g1, g2, g3⟩ := loop_rule0 (call := callW F) (K := l.length + 1) (b := c26_7) (keep := [false, false, false, true, false, true, true, true, false])
      (fun i v h => ∃ m', v = Vfold c m' es.length i .junk .junk ∧ depL (l.drop i) m' = depL l 0)
      (fun e v h => e = .exit 0 ∧ ∃ x4, v = Vfold c (depL l 0) es.length es.length x4 (.v (.bool false)))
      l.length (m := l.length + 1) (v := [.agg [.v (.int .i64 k), .v (.string s), .v (.int .i64 n), c], .ptr 0 0, .v (.int .i64 0), .v (.int .i64 0), .v undef, c, .v (.int .i64 es.length), .v (.int .i64 0), .v undef]) (h := [.box 24 [.v (.int .i64 k), .v (.string s), .v (.int .i64 n), c]])
      (by omega) ⟨_, rfl, rfl⟩ (by
        rintro i v h hi ⟨m', rfl, hR⟩
        by_cases hil : i < es.length
        · have hil' : i < l.length := by omega
          have hT := hes.at hil hil'
          have hlt := lt_t hil
          have he : es[i]? = some es[i] := List.getElem?_eq_getElem hil
          have q2 := fun h : List AO => hs.ia he h
          have hf := hT.facts
          have hd : l.drop i = l[i] :: l.drop (i + 1) := List.drop_eq_getElem_cons hil'
          have hw := wrap_succ hil hm
          rw [hd, depL] at hR
          have hc := ih l[i] es[i] (by have := IsL.mem_size (k := k) (n := n) (s := s) (List.getElem_mem hil'); omega) hT
          refine ⟨.normal, [.junk, .junk, .junk, .v (.int .i64 (max m' (depI l[i]))), .ptr h.length 0, c, .v (.int .i64 es.length), .v (.int .i64 ((i + 1 : Nat) : Int)), .v (.bool true)], h ++ [.box 24 es[i].cells], ?_, by omega, _, rfl, hR⟩
          simp only [Vfold, c26_7, c26_3, c26_4, c26_5, c26_6, hlt, q1, q2, hf, hc, hw, q9z, e_mm, mm_max, run_nil, run_cons, stp_plain, stp_guard, put_some, pass_eq, pick_tt, pick_ff, pick_tf, pick_ft, pick_u, reg_some, thn_normal, thn_exit, thn_ret, cnd_t, cnd_f, blk_normal, blk_ret, blk_exit, x_seq, x_region, x_cond, x_block, x_loop, x_ret, x_exit, x_skip, e_mov, e_pick, pk_t, pk_f, withH_some, e_box, e_load, e_store, stH_some, e_nil, e_bin, e_eqv, eqH_f, eqH_t, e_un, e_fa, e_ia, ia_eq, nat_eq, natV_nat, e_len, lnH_some, e_extract, ex_0, ex_1, e_call0, e_call1, e_call2, e_call3, pc0_eq, pc1_some, pc2_some, pc3_some, fin_some, g_var0, g_vars, g_loc0, g_locs, g_int, g_bool, g_str, g_sl, s_none, s_zero, s_succ, cl_nil, cl_str, cl_bool, cl_slc, cl_own, evFa, evNil, asEl, evBin, intBin, strBin, evUn, len_nil, len_slc, len_str, clr, List.length_nil, List.length_cons, List.getElem?_cons_zero, List.getElem?_cons_succ, Nat.reduceAdd, Nat.zero_add, Nat.add_zero, Nat.reduceLeDiff, Nat.reduceSub, ↓reduceIte, List.drop_succ_cons, List.drop_zero, List.take_succ_cons, List.take_zero, Bool.false_eq_true, List.nil_append, List.cons_append, Bool.not_true, Bool.not_false, cond_true, cond_false, bne, lv_ret, lv_normal, res1, res2, lv2_some, res_var, res_cell, lvf_v, lvf_slc, res1c, lvo1_some, e_mm, mm_max, mm_min, cl_agg, cl_int, g_agg, e_callv1, cv1_fn, e_slice2, e_clrrow, e_callf2, pick_und, cells_agg, Option.map_some, Option.map_none, bx_some]
        · have hie : i = es.length := by omega
          subst hie
          have hlt := lt_f (n := es.length)
          rw [List.drop_of_length_le (by omega), depL] at hR
          refine ⟨.exit 0, Vfold c m' es.length es.length .junk (.v (.bool false)), h, ?_, rfl, _, by rw [hR]⟩
          simp only [Vfold, c26_7, c26_3, hlt, run_nil, run_cons, stp_plain, stp_guard, put_some, pass_eq, pick_tt, pick_ff, pick_tf, pick_ft, pick_u, reg_some, thn_normal, thn_exit, thn_ret, cnd_t, cnd_f, blk_normal, blk_ret, blk_exit, x_seq, x_region, x_cond, x_block, x_loop, x_ret, x_exit, x_skip, e_mov, e_pick, pk_t, pk_f, withH_some, e_box, e_load, e_store, stH_some, e_nil, e_bin, e_eqv, eqH_f, eqH_t, e_un, e_fa, e_ia, ia_eq, nat_eq, natV_nat, e_len, lnH_some, e_extract, ex_0, ex_1, e_call0, e_call1, e_call2, e_call3, pc0_eq, pc1_some, pc2_some, pc3_some, fin_some, g_var0, g_vars, g_loc0, g_locs, g_int, g_bool, g_str, g_sl, s_none, s_zero, s_succ, cl_nil, cl_str, cl_bool, cl_slc, cl_own, evFa, evNil, asEl, evBin, intBin, strBin, evUn, len_nil, len_slc, len_str, clr, List.length_nil, List.length_cons, List.getElem?_cons_zero, List.getElem?_cons_succ, Nat.reduceAdd, Nat.zero_add, Nat.add_zero, Nat.reduceLeDiff, Nat.reduceSub, ↓reduceIte, List.drop_succ_cons, List.drop_zero, List.take_succ_cons, List.take_zero, Bool.false_eq_true, List.nil_append, List.cons_append, Bool.not_true, Bool.not_false, cond_true, cond_false, bne, lv_ret, lv_normal, res1, res2, lv2_some, res_var, res_cell, lvf_v, lvf_slc, res1c, lvo1_some, e_mm, mm_max, mm_min, cl_agg, cl_int, g_agg, e_callv1, cv1_fn, e_slice2, e_clrrow, e_callf2, pick_und, cells_agg, Option.map_some, Option.map_none, bx_some])
    have e5 : evLoad [.box 24 [.v (.int .i64 k), .v (.string s), .v (.int .i64 n), c]] false 1 (.ptr 0 3) = some c := rfl
    rw [depI]
    rw [show c26.body = (.seq (.region [] [] c26_0) (.seq (.region [] [] c26_1) (.seq (.seq (.region [] [] c26_2) (.block 0 (.loop [false, false, false, true, false, true, true, true, false] [] c26_7))) (.seq (.region [] [] c26_8) .ret)))) from rfl, show c26.res = [.var 2] from rfl]
    rw [show start c26 [.agg [.v (.int .i64 k), .v (.string s), .v (.int .i64 n), c]] = [.agg [.v (.int .i64 k), .v (.string s), .v (.int .i64 n), c], .v undef, .v undef, .v undef, .v undef, .v undef, .v undef, .v undef, .v undef] from rfl]
    obtain ⟨rfl, x4, rfl⟩ := g3
    generalize c26_7 = bb at g1 ⊢
    simp only [Vfold, c26_0, c26_1, c26_2, c26_8, e5, q1, g1, run_nil, run_cons, stp_plain, stp_guard, put_some, pass_eq, pick_tt, pick_ff, pick_tf, pick_ft, pick_u, reg_some, thn_normal, thn_exit, thn_ret, cnd_t, cnd_f, blk_normal, blk_ret, blk_exit, x_seq, x_region, x_cond, x_block, x_loop, x_ret, x_exit, x_skip, e_mov, e_pick, pk_t, pk_f, withH_some, e_box, e_load, e_store, stH_some, e_nil, e_bin, e_eqv, eqH_f, eqH_t, e_un, e_fa, e_ia, ia_eq, nat_eq, natV_nat, e_len, lnH_some, e_extract, ex_0, ex_1, e_call0, e_call1, e_call2, e_call3, pc0_eq, pc1_some, pc2_some, pc3_some, fin_some, g_var0, g_vars, g_loc0, g_locs, g_int, g_bool, g_str, g_sl, s_none, s_zero, s_succ, cl_nil, cl_str, cl_bool, cl_slc, cl_own, evFa, evNil, asEl, evBin, intBin, strBin, evUn, len_nil, len_slc, len_str, clr, List.length_nil, List.length_cons, List.getElem?_cons_zero, List.getElem?_cons_succ, Nat.reduceAdd, Nat.zero_add, Nat.add_zero, Nat.reduceLeDiff, Nat.reduceSub, ↓reduceIte, List.drop_succ_cons, List.drop_zero, List.take_succ_cons, List.take_zero, Bool.false_eq_true, List.nil_append, List.cons_append, Bool.not_true, Bool.not_false, cond_true, cond_false, bne, lv_ret, lv_normal, res1, res2, lv2_some, res_var, res_cell, lvf_v, lvf_slc, res1c, lvo1_some, e_mm, mm_max, mm_min, cl_agg, cl_int, g_agg, e_callv1, cv1_fn, e_slice2, e_clrrow, e_callf2, pick_und, cells_agg, Option.map_some, Option.map_none, bx_some]
end Go.AE.YtgcbaefclkfnoaaDoor
end

/-! Whether a term may be: the program's Check and the document's. -/
section
set_option linter.unusedVariables false
set_option linter.unusedSimpArgs false
namespace Go.AE.YtgcbaefclkfnoaaDoor
open Go Go.AE Go.Proofs.YtgcbaefclkfnoaaDoor

def chkS (s : ByteArray) : Bool := decide ((s.size : Int) ≤ 255) && Lib.validD s.data.toList
def noS (s : ByteArray) : Bool := s.toList == (⟨#[]⟩ : ByteArray).toList
mutual
def mayT : Tm → Bool
  | .mk k s n l =>
    if (k == 1) = true then ((l.length : Int) == 0) && (noS s && decide (n ≥ 0))
    else if (k == 2) = true then ((l.length : Int) == 0) && ((n == 0) && chkS s)
    else if (k == 3) = true then ((l.length : Int) == 0) && noS s
    else if (k == 4) = true then !((l.length : Int) == 0) && ((n == 0) && (decide ((l.length : Int) ≤ 16) && (chkS s && mayL l)))
    else false
def mayL : List Tm → Bool
  | [] => true
  | a :: l => mayT a && mayL l
end
theorem valid_call (s : ByteArray) (h : s.size ≤ 9223372036854775807) : callW F 75 [.v (.string s)] [] = some (.v (.bool (Lib.validD s.data.toList)), []) := by
  refine callW_oracle (g := validG) rfl ?_
  simp only [validG, h, if_true]
theorem chk_ok (s : ByteArray) : callW F 70 [.v (.string s)] [] = some (.v (.bool (chkS s)), []) := by
  refine callW_pure (c := c70) rfl rfl 0 ?_
  unfold chkS
  cases h1 : decide ((s.size : Int) ≤ 255) with
  | true =>
    have hc := valid_call s (by simp at h1; omega)
    simp only [c70, start, List.replicate, c70_0, c70_1, h1, hc, snap_str, Bool.true_and, run_nil, run_cons, stp_plain, stp_guard, put_some, pass_eq, pick_tt, pick_ff, pick_tf, pick_ft, pick_u, reg_some, thn_normal, thn_exit, thn_ret, cnd_t, cnd_f, blk_normal, blk_ret, blk_exit, x_seq, x_region, x_cond, x_block, x_loop, x_ret, x_exit, x_skip, e_mov, e_pick, pk_t, pk_f, withH_some, e_box, e_load, e_store, stH_some, e_nil, e_bin, e_eqv, eqH_f, eqH_t, e_un, e_fa, e_ia, ia_eq, nat_eq, natV_nat, e_len, lnH_some, e_extract, ex_0, ex_1, e_call0, e_call1, e_call2, e_call3, pc0_eq, pc1_some, pc2_some, pc3_some, fin_some, g_var0, g_vars, g_loc0, g_locs, g_int, g_bool, g_str, g_sl, s_none, s_zero, s_succ, cl_nil, cl_str, cl_bool, cl_slc, cl_own, evFa, evNil, asEl, evBin, intBin, strBin, evUn, len_nil, len_slc, len_str, clr, List.length_nil, List.length_cons, List.getElem?_cons_zero, List.getElem?_cons_succ, Nat.reduceAdd, Nat.zero_add, Nat.add_zero, Nat.reduceLeDiff, Nat.reduceSub, ↓reduceIte, List.drop_succ_cons, List.drop_zero, List.take_succ_cons, List.take_zero, Bool.false_eq_true, List.nil_append, List.cons_append, Bool.not_true, Bool.not_false, cond_true, cond_false, bne, lv_ret, lv_normal, res1, res2, lv2_some, res_var, res_cell, lvf_v, lvf_slc, res1c, lvo1_some, e_mm, mm_max, mm_min, cl_agg, cl_int, g_agg, e_callv1, cv1_fn, e_slice2, e_clrrow, e_callf2, pick_und, cells_agg, Option.map_some, Option.map_none, bx_some]
  | false => simp only [c70, start, List.replicate, c70_0, c70_1, h1, Bool.false_and, run_nil, run_cons, stp_plain, stp_guard, put_some, pass_eq, pick_tt, pick_ff, pick_tf, pick_ft, pick_u, reg_some, thn_normal, thn_exit, thn_ret, cnd_t, cnd_f, blk_normal, blk_ret, blk_exit, x_seq, x_region, x_cond, x_block, x_loop, x_ret, x_exit, x_skip, e_mov, e_pick, pk_t, pk_f, withH_some, e_box, e_load, e_store, stH_some, e_nil, e_bin, e_eqv, eqH_f, eqH_t, e_un, e_fa, e_ia, ia_eq, nat_eq, natV_nat, e_len, lnH_some, e_extract, ex_0, ex_1, e_call0, e_call1, e_call2, e_call3, pc0_eq, pc1_some, pc2_some, pc3_some, fin_some, g_var0, g_vars, g_loc0, g_locs, g_int, g_bool, g_str, g_sl, s_none, s_zero, s_succ, cl_nil, cl_str, cl_bool, cl_slc, cl_own, evFa, evNil, asEl, evBin, intBin, strBin, evUn, len_nil, len_slc, len_str, clr, List.length_nil, List.length_cons, List.getElem?_cons_zero, List.getElem?_cons_succ, Nat.reduceAdd, Nat.zero_add, Nat.add_zero, Nat.reduceLeDiff, Nat.reduceSub, ↓reduceIte, List.drop_succ_cons, List.drop_zero, List.take_succ_cons, List.take_zero, Bool.false_eq_true, List.nil_append, List.cons_append, Bool.not_true, Bool.not_false, cond_true, cond_false, bne, lv_ret, lv_normal, res1, res2, lv2_some, res_var, res_cell, lvf_v, lvf_slc, res1c, lvo1_some, e_mm, mm_max, mm_min, cl_agg, cl_int, g_agg, e_callv1, cv1_fn, e_slice2, e_clrrow, e_callf2, pick_und, cells_agg, Option.map_some, Option.map_none, bx_some]
theorem rchk_ok (s : ByteArray) : callW F 62 [.v (.string s)] [] = some (.v (.bool (chkS s)), []) := by
  refine callW_pure (c := c62) rfl rfl 0 ?_
  unfold chkS
  cases h1 : decide ((s.size : Int) ≤ 255) with
  | true =>
    have hc := valid_call s (by simp at h1; omega)
    simp only [c62, start, List.replicate, c62_0, c62_1, h1, hc, snap_str, Bool.true_and, run_nil, run_cons, stp_plain, stp_guard, put_some, pass_eq, pick_tt, pick_ff, pick_tf, pick_ft, pick_u, reg_some, thn_normal, thn_exit, thn_ret, cnd_t, cnd_f, blk_normal, blk_ret, blk_exit, x_seq, x_region, x_cond, x_block, x_loop, x_ret, x_exit, x_skip, e_mov, e_pick, pk_t, pk_f, withH_some, e_box, e_load, e_store, stH_some, e_nil, e_bin, e_eqv, eqH_f, eqH_t, e_un, e_fa, e_ia, ia_eq, nat_eq, natV_nat, e_len, lnH_some, e_extract, ex_0, ex_1, e_call0, e_call1, e_call2, e_call3, pc0_eq, pc1_some, pc2_some, pc3_some, fin_some, g_var0, g_vars, g_loc0, g_locs, g_int, g_bool, g_str, g_sl, s_none, s_zero, s_succ, cl_nil, cl_str, cl_bool, cl_slc, cl_own, evFa, evNil, asEl, evBin, intBin, strBin, evUn, len_nil, len_slc, len_str, clr, List.length_nil, List.length_cons, List.getElem?_cons_zero, List.getElem?_cons_succ, Nat.reduceAdd, Nat.zero_add, Nat.add_zero, Nat.reduceLeDiff, Nat.reduceSub, ↓reduceIte, List.drop_succ_cons, List.drop_zero, List.take_succ_cons, List.take_zero, Bool.false_eq_true, List.nil_append, List.cons_append, Bool.not_true, Bool.not_false, cond_true, cond_false, bne, lv_ret, lv_normal, res1, res2, lv2_some, res_var, res_cell, lvf_v, lvf_slc, res1c, lvo1_some, e_mm, mm_max, mm_min, cl_agg, cl_int, g_agg, e_callv1, cv1_fn, e_slice2, e_clrrow, e_callf2, pick_und, cells_agg, Option.map_some, Option.map_none, bx_some]
  | false => simp only [c62, start, List.replicate, c62_0, c62_1, h1, Bool.false_and, run_nil, run_cons, stp_plain, stp_guard, put_some, pass_eq, pick_tt, pick_ff, pick_tf, pick_ft, pick_u, reg_some, thn_normal, thn_exit, thn_ret, cnd_t, cnd_f, blk_normal, blk_ret, blk_exit, x_seq, x_region, x_cond, x_block, x_loop, x_ret, x_exit, x_skip, e_mov, e_pick, pk_t, pk_f, withH_some, e_box, e_load, e_store, stH_some, e_nil, e_bin, e_eqv, eqH_f, eqH_t, e_un, e_fa, e_ia, ia_eq, nat_eq, natV_nat, e_len, lnH_some, e_extract, ex_0, ex_1, e_call0, e_call1, e_call2, e_call3, pc0_eq, pc1_some, pc2_some, pc3_some, fin_some, g_var0, g_vars, g_loc0, g_locs, g_int, g_bool, g_str, g_sl, s_none, s_zero, s_succ, cl_nil, cl_str, cl_bool, cl_slc, cl_own, evFa, evNil, asEl, evBin, intBin, strBin, evUn, len_nil, len_slc, len_str, clr, List.length_nil, List.length_cons, List.getElem?_cons_zero, List.getElem?_cons_succ, Nat.reduceAdd, Nat.zero_add, Nat.add_zero, Nat.reduceLeDiff, Nat.reduceSub, ↓reduceIte, List.drop_succ_cons, List.drop_zero, List.take_succ_cons, List.take_zero, Bool.false_eq_true, List.nil_append, List.cons_append, Bool.not_true, Bool.not_false, cond_true, cond_false, bne, lv_ret, lv_normal, res1, res2, lv2_some, res_var, res_cell, lvf_v, lvf_slc, res1c, lvo1_some, e_mm, mm_max, mm_min, cl_agg, cl_int, g_agg, e_callv1, cv1_fn, e_slice2, e_clrrow, e_callf2, pick_und, cells_agg, Option.map_some, Option.map_none, bx_some]

def tb (k n : Int) (s : ByteArray) (c : AV) : AO := .box 24 [.v (.int .i64 k), .v (.string s), .v (.int .i64 n), c]
section
variable {k n : Int} {s : ByteArray} {c : AV} {G : List AO}
theorem tb0 : evLoad (tb k n s c :: G) false 1 (.ptr 0 0) = some (.v (.int .i64 k)) := rfl
theorem tb1 : evLoad (tb k n s c :: G) false 1 (.ptr 0 1) = some (.v (.string s)) := rfl
theorem tb2 : evLoad (tb k n s c :: G) false 1 (.ptr 0 2) = some (.v (.int .i64 n)) := rfl
theorem tb3 : evLoad (tb k n s c :: G) false 1 (.ptr 0 3) = some c := rfl
theorem tb4 : evLoad (tb k n s c :: G) true 4 (.ptr 0 0) = some (.agg [.v (.int .i64 k), .v (.string s), .v (.int .i64 n), c]) := rfl
theorem tbx : bx [] 24 (some [.v (.int .i64 k), .v (.string s), .v (.int .i64 n), c]) = some (.ptr 0 0, [tb k n s c]) := rfl
end

def V54 (b : Bool) (i : Int) (x11 : AV) : List AV := [.junk, .ptr 0 0, .junk, .junk, .v (.bool b), .v (.int .i64 i), .junk, .junk, .junk, .junk, .junk, x11]
def K54 : List Bool := [false, true, false, false, true, true, false, false, false, false, false, false]
theorem may_ok : ∀ (N : Nat) (t : Tm) (a : AV), SizeOf.sizeOf t < N → IsT a t → callW F 54 [a] [] = some (.v (.bool (mayT t)), []) := by
  intro N
  induction N with
  | zero => intro t a h; omega
  | succ N ih =>
    intro t a hN ha
    cases ha with
    | mk k s n c l hc =>
    obtain ⟨es, hs, hes, hm⟩ := hc.sl
    have hll := hes.length
    refine callW_pure (c := c54) rfl rfl (l.length + 1) ?_
    have q1 := fun h : List AO => hs.len h
    rw [hll] at q1
    have hchk := chk_ok s
    have loop : ∀ (b0 : Bool) (v : List AV), clr K54 v = V54 b0 0 .junk → ∃ x11, ∃ i : Int, loopN (exec (callW F) (l.length + 1) c54_15) K54 (l.length + 1) v [tb k n s c] = some (.exit 1, V54 (b0 && mayL l) i x11, [tb k n s c]) := by
      intro b0 v hv
      obtain ⟨e, v', h', g1, g2, g3⟩ := loop_rule0 (call := callW F) (K := l.length + 1) (b := c54_15) (keep := K54)
        (fun i v h => ∃ b, v = V54 b i .junk ∧ (b && mayL (l.drop i)) = (b0 && mayL l) ∧ h = [tb k n s c])
        (fun e v h => e = .exit 1 ∧ (∃ x11, ∃ i : Int, v = V54 (b0 && mayL l) i x11) ∧ h = [tb k n s c])
        l.length (m := l.length + 1) (v := v) (h := [tb k n s c]) (by omega) ⟨b0, hv, rfl, rfl⟩ (by
          rintro i v h hi ⟨b, rfl, hR, rfl⟩
          cases b with
          | false =>
            rw [Bool.false_and] at hR
            refine ⟨.exit 1, V54 false i (.v (.bool false)), _, ?_, rfl, ⟨_, i, by rw [← hR]⟩, rfl⟩
            simp only [V54, c54_15, c54_12, run_nil, run_cons, stp_plain, stp_guard, put_some, pass_eq, pick_tt, pick_ff, pick_tf, pick_ft, pick_u, reg_some, thn_normal, thn_exit, thn_ret, cnd_t, cnd_f, blk_normal, blk_ret, blk_exit, x_seq, x_region, x_cond, x_block, x_loop, x_ret, x_exit, x_skip, e_mov, e_pick, pk_t, pk_f, withH_some, e_box, e_load, e_store, stH_some, e_nil, e_bin, e_eqv, eqH_f, eqH_t, e_un, e_fa, e_ia, ia_eq, nat_eq, natV_nat, e_len, lnH_some, e_extract, ex_0, ex_1, e_call0, e_call1, e_call2, e_call3, pc0_eq, pc1_some, pc2_some, pc3_some, fin_some, g_var0, g_vars, g_loc0, g_locs, g_int, g_bool, g_str, g_sl, s_none, s_zero, s_succ, cl_nil, cl_str, cl_bool, cl_slc, cl_own, evFa, evNil, asEl, evBin, intBin, strBin, evUn, len_nil, len_slc, len_str, clr, List.length_nil, List.length_cons, List.getElem?_cons_zero, List.getElem?_cons_succ, Nat.reduceAdd, Nat.zero_add, Nat.add_zero, Nat.reduceLeDiff, Nat.reduceSub, ↓reduceIte, List.drop_succ_cons, List.drop_zero, List.take_succ_cons, List.take_zero, Bool.false_eq_true, List.nil_append, List.cons_append, Bool.not_true, Bool.not_false, cond_true, cond_false, bne, lv_ret, lv_normal, res1, res2, lv2_some, res_var, res_cell, lvf_v, lvf_slc, res1c, lvo1_some, e_mm, mm_max, mm_min, cl_agg, cl_int, g_agg, e_callv1, cv1_fn, e_slice2, e_clrrow, e_callf2, pick_und, cells_agg, Option.map_some, Option.map_none, bx_some]
          | true =>
            by_cases hil' : i < l.length
            · have hil : i < es.length := by omega
              have hT := hes.at hil hil'
              have hlt := lt_t hil'
              have he : es[i]? = some es[i] := List.getElem?_eq_getElem hil
              have q2 := fun h : List AO => hs.ia he h
              have hf := hT.facts
              have hd : l.drop i = l[i] :: l.drop (i + 1) := List.drop_eq_getElem_cons hil'
              have hw := wrap_succ hil hm
              have hc := ih l[i] es[i] (by have := IsL.mem_size (k := k) (n := n) (s := s) (List.getElem_mem hil'); omega) hT
              rw [hd, mayL, Bool.true_and] at hR
              refine ⟨.normal, V54 (mayT l[i]) ((i + 1 : Nat) : Int) (.v (.bool true)), [tb k n s c], ?_, hil', _, rfl, hR, rfl⟩
              simp only [V54, c54_15, c54_12, c54_13, c54_14, hlt, q1, q2, hf, hc, hw, tb3, run_nil, run_cons, stp_plain, stp_guard, put_some, pass_eq, pick_tt, pick_ff, pick_tf, pick_ft, pick_u, reg_some, thn_normal, thn_exit, thn_ret, cnd_t, cnd_f, blk_normal, blk_ret, blk_exit, x_seq, x_region, x_cond, x_block, x_loop, x_ret, x_exit, x_skip, e_mov, e_pick, pk_t, pk_f, withH_some, e_box, e_load, e_store, stH_some, e_nil, e_bin, e_eqv, eqH_f, eqH_t, e_un, e_fa, e_ia, ia_eq, nat_eq, natV_nat, e_len, lnH_some, e_extract, ex_0, ex_1, e_call0, e_call1, e_call2, e_call3, pc0_eq, pc1_some, pc2_some, pc3_some, fin_some, g_var0, g_vars, g_loc0, g_locs, g_int, g_bool, g_str, g_sl, s_none, s_zero, s_succ, cl_nil, cl_str, cl_bool, cl_slc, cl_own, evFa, evNil, asEl, evBin, intBin, strBin, evUn, len_nil, len_slc, len_str, clr, List.length_nil, List.length_cons, List.getElem?_cons_zero, List.getElem?_cons_succ, Nat.reduceAdd, Nat.zero_add, Nat.add_zero, Nat.reduceLeDiff, Nat.reduceSub, ↓reduceIte, List.drop_succ_cons, List.drop_zero, List.take_succ_cons, List.take_zero, Bool.false_eq_true, List.nil_append, List.cons_append, Bool.not_true, Bool.not_false, cond_true, cond_false, bne, lv_ret, lv_normal, res1, res2, lv2_some, res_var, res_cell, lvf_v, lvf_slc, res1c, lvo1_some, e_mm, mm_max, mm_min, cl_agg, cl_int, g_agg, e_callv1, cv1_fn, e_slice2, e_clrrow, e_callf2, pick_und, cells_agg, Option.map_some, Option.map_none, bx_some]
            · have hie : i = l.length := by omega
              subst hie
              have hlt := lt_f (n := l.length)
              rw [List.drop_of_length_le (Nat.le_refl _), mayL, Bool.and_true] at hR
              refine ⟨.exit 1, V54 true l.length (.v (.bool false)), _, ?_, rfl, ⟨_, _, by rw [← hR]⟩, rfl⟩
              simp only [V54, c54_15, c54_12, hlt, q1, tb3, run_nil, run_cons, stp_plain, stp_guard, put_some, pass_eq, pick_tt, pick_ff, pick_tf, pick_ft, pick_u, reg_some, thn_normal, thn_exit, thn_ret, cnd_t, cnd_f, blk_normal, blk_ret, blk_exit, x_seq, x_region, x_cond, x_block, x_loop, x_ret, x_exit, x_skip, e_mov, e_pick, pk_t, pk_f, withH_some, e_box, e_load, e_store, stH_some, e_nil, e_bin, e_eqv, eqH_f, eqH_t, e_un, e_fa, e_ia, ia_eq, nat_eq, natV_nat, e_len, lnH_some, e_extract, ex_0, ex_1, e_call0, e_call1, e_call2, e_call3, pc0_eq, pc1_some, pc2_some, pc3_some, fin_some, g_var0, g_vars, g_loc0, g_locs, g_int, g_bool, g_str, g_sl, s_none, s_zero, s_succ, cl_nil, cl_str, cl_bool, cl_slc, cl_own, evFa, evNil, asEl, evBin, intBin, strBin, evUn, len_nil, len_slc, len_str, clr, List.length_nil, List.length_cons, List.getElem?_cons_zero, List.getElem?_cons_succ, Nat.reduceAdd, Nat.zero_add, Nat.add_zero, Nat.reduceLeDiff, Nat.reduceSub, ↓reduceIte, List.drop_succ_cons, List.drop_zero, List.take_succ_cons, List.take_zero, Bool.false_eq_true, List.nil_append, List.cons_append, Bool.not_true, Bool.not_false, cond_true, cond_false, bne, lv_ret, lv_normal, res1, res2, lv2_some, res_var, res_cell, lvf_v, lvf_slc, res1c, lvo1_some, e_mm, mm_max, mm_min, cl_agg, cl_int, g_agg, e_callv1, cv1_fn, e_slice2, e_clrrow, e_callf2, pick_und, cells_agg, Option.map_some, Option.map_none, bx_some])
      obtain ⟨rfl, ⟨x11, i, rfl⟩, rfl⟩ := g3
      exact ⟨x11, i, g1⟩
    rw [mayT]
    rw [show c54.body = (.seq (.region [] [] c54_0) (.seq (.region [] [] c54_1) (.seq (.seq (.region [] [] c54_2) (.block 0 (.seq (.region [] [] c54_3) (.cond (.var 7) (.seq (.region [] [] c54_4) .ret) (.seq (.region [] [] c54_5) (.cond (.var 8) (.seq (.region [] [] c54_6) .ret) (.seq (.region [] [] c54_7) (.cond (.var 9) (.seq (.region [] [] c54_8) .ret) (.seq (.region [] [] c54_9) (.cond (.var 10) (.seq (.region [] [] c54_10) (.seq (.seq (.region [] [] c54_11) (.block 1 (.loop K54 [] c54_15))) (.seq (.region [] [] c54_16) .ret))) .skip)))))))))) (.seq (.region [] [] c54_17) .ret)))) from rfl, show c54.res = [.var 2] from rfl]
    rw [show start c54 [.agg [.v (.int .i64 k), .v (.string s), .v (.int .i64 n), c]] = [.agg [.v (.int .i64 k), .v (.string s), .v (.int .i64 n), c], .v undef, .v undef, .v undef, .v undef, .v undef, .v undef, .v undef, .v undef, .v undef, .v undef, .v undef] from rfl]
    generalize c54_15 = bb at loop ⊢
    generalize hA : ((l.length : Int) == 0) = A
    generalize hB : noS s = B
    unfold noS at hB
    generalize hC : decide (n ≥ 0) = C
    generalize hD : (n == 0) = D
    generalize hE : decide ((l.length : Int) ≤ 16) = E
    generalize chkS s = G at hchk ⊢
    cases h1 : (k == 1) with
    | true => cases A <;> cases B <;> simp only [c54_0, c54_1, c54_2, c54_3, c54_4, tbx, tb0, tb1, tb2, tb3, q1, h1, hA, hB, hC, Bool.true_and, Bool.false_and, Bool.and_self, run_nil, run_cons, stp_plain, stp_guard, put_some, pass_eq, pick_tt, pick_ff, pick_tf, pick_ft, pick_u, reg_some, thn_normal, thn_exit, thn_ret, cnd_t, cnd_f, blk_normal, blk_ret, blk_exit, x_seq, x_region, x_cond, x_block, x_loop, x_ret, x_exit, x_skip, e_mov, e_pick, pk_t, pk_f, withH_some, e_box, e_load, e_store, stH_some, e_nil, e_bin, e_eqv, eqH_f, eqH_t, e_un, e_fa, e_ia, ia_eq, nat_eq, natV_nat, e_len, lnH_some, e_extract, ex_0, ex_1, e_call0, e_call1, e_call2, e_call3, pc0_eq, pc1_some, pc2_some, pc3_some, fin_some, g_var0, g_vars, g_loc0, g_locs, g_int, g_bool, g_str, g_sl, s_none, s_zero, s_succ, cl_nil, cl_str, cl_bool, cl_slc, cl_own, evFa, evNil, asEl, evBin, intBin, strBin, evUn, len_nil, len_slc, len_str, clr, List.length_nil, List.length_cons, List.getElem?_cons_zero, List.getElem?_cons_succ, Nat.reduceAdd, Nat.zero_add, Nat.add_zero, Nat.reduceLeDiff, Nat.reduceSub, ↓reduceIte, List.drop_succ_cons, List.drop_zero, List.take_succ_cons, List.take_zero, Bool.false_eq_true, List.nil_append, List.cons_append, Bool.not_true, Bool.not_false, cond_true, cond_false, bne, lv_ret, lv_normal, res1, res2, lv2_some, res_var, res_cell, lvf_v, lvf_slc, res1c, lvo1_some, e_mm, mm_max, mm_min, cl_agg, cl_int, g_agg, e_callv1, cv1_fn, e_slice2, e_clrrow, e_callf2, pick_und, cells_agg, Option.map_some, Option.map_none]
    | false =>
    cases h3 : (k == 3) with
    | true =>
      have h2 : (k == 2) = false := by simp at h3 ⊢; omega
      cases A <;> simp only [c54_0, c54_1, c54_2, c54_3, c54_4, c54_5, c54_6, tbx, tb0, tb1, tb2, tb3, q1, h1, h2, h3, hA, hB, Bool.true_and, Bool.false_and, run_nil, run_cons, stp_plain, stp_guard, put_some, pass_eq, pick_tt, pick_ff, pick_tf, pick_ft, pick_u, reg_some, thn_normal, thn_exit, thn_ret, cnd_t, cnd_f, blk_normal, blk_ret, blk_exit, x_seq, x_region, x_cond, x_block, x_loop, x_ret, x_exit, x_skip, e_mov, e_pick, pk_t, pk_f, withH_some, e_box, e_load, e_store, stH_some, e_nil, e_bin, e_eqv, eqH_f, eqH_t, e_un, e_fa, e_ia, ia_eq, nat_eq, natV_nat, e_len, lnH_some, e_extract, ex_0, ex_1, e_call0, e_call1, e_call2, e_call3, pc0_eq, pc1_some, pc2_some, pc3_some, fin_some, g_var0, g_vars, g_loc0, g_locs, g_int, g_bool, g_str, g_sl, s_none, s_zero, s_succ, cl_nil, cl_str, cl_bool, cl_slc, cl_own, evFa, evNil, asEl, evBin, intBin, strBin, evUn, len_nil, len_slc, len_str, clr, List.length_nil, List.length_cons, List.getElem?_cons_zero, List.getElem?_cons_succ, Nat.reduceAdd, Nat.zero_add, Nat.add_zero, Nat.reduceLeDiff, Nat.reduceSub, ↓reduceIte, List.drop_succ_cons, List.drop_zero, List.take_succ_cons, List.take_zero, Bool.false_eq_true, List.nil_append, List.cons_append, Bool.not_true, Bool.not_false, cond_true, cond_false, bne, lv_ret, lv_normal, res1, res2, lv2_some, res_var, res_cell, lvf_v, lvf_slc, res1c, lvo1_some, e_mm, mm_max, mm_min, cl_agg, cl_int, g_agg, e_callv1, cv1_fn, e_slice2, e_clrrow, e_callf2, pick_und, cells_agg, Option.map_some, Option.map_none]
    | false =>
    cases h2 : (k == 2) with
    | true => cases A <;> cases D <;> simp only [c54_0, c54_1, c54_2, c54_3, c54_4, c54_5, c54_6, c54_7, c54_8, tbx, tb0, tb1, tb2, tb3, q1, h1, h2, h3, hA, hD, hchk, snap_str, Bool.true_and, Bool.false_and, run_nil, run_cons, stp_plain, stp_guard, put_some, pass_eq, pick_tt, pick_ff, pick_tf, pick_ft, pick_u, reg_some, thn_normal, thn_exit, thn_ret, cnd_t, cnd_f, blk_normal, blk_ret, blk_exit, x_seq, x_region, x_cond, x_block, x_loop, x_ret, x_exit, x_skip, e_mov, e_pick, pk_t, pk_f, withH_some, e_box, e_load, e_store, stH_some, e_nil, e_bin, e_eqv, eqH_f, eqH_t, e_un, e_fa, e_ia, ia_eq, nat_eq, natV_nat, e_len, lnH_some, e_extract, ex_0, ex_1, e_call0, e_call1, e_call2, e_call3, pc0_eq, pc1_some, pc2_some, pc3_some, fin_some, g_var0, g_vars, g_loc0, g_locs, g_int, g_bool, g_str, g_sl, s_none, s_zero, s_succ, cl_nil, cl_str, cl_bool, cl_slc, cl_own, evFa, evNil, asEl, evBin, intBin, strBin, evUn, len_nil, len_slc, len_str, clr, List.length_nil, List.length_cons, List.getElem?_cons_zero, List.getElem?_cons_succ, Nat.reduceAdd, Nat.zero_add, Nat.add_zero, Nat.reduceLeDiff, Nat.reduceSub, ↓reduceIte, List.drop_succ_cons, List.drop_zero, List.take_succ_cons, List.take_zero, Bool.false_eq_true, List.nil_append, List.cons_append, Bool.not_true, Bool.not_false, cond_true, cond_false, bne, lv_ret, lv_normal, res1, res2, lv2_some, res_var, res_cell, lvf_v, lvf_slc, res1c, lvo1_some, e_mm, mm_max, mm_min, cl_agg, cl_int, g_agg, e_callv1, cv1_fn, e_slice2, e_clrrow, e_callf2, pick_und, cells_agg, Option.map_some, Option.map_none]
    | false =>
    cases h4 : (k == 4) with
    | false => simp only [c54_0, c54_1, c54_2, c54_3, c54_4, c54_5, c54_6, c54_7, c54_8, c54_9, c54_17, tbx, tb0, tb1, tb2, tb3, q1, h1, h2, h3, h4, run_nil, run_cons, stp_plain, stp_guard, put_some, pass_eq, pick_tt, pick_ff, pick_tf, pick_ft, pick_u, reg_some, thn_normal, thn_exit, thn_ret, cnd_t, cnd_f, blk_normal, blk_ret, blk_exit, x_seq, x_region, x_cond, x_block, x_loop, x_ret, x_exit, x_skip, e_mov, e_pick, pk_t, pk_f, withH_some, e_box, e_load, e_store, stH_some, e_nil, e_bin, e_eqv, eqH_f, eqH_t, e_un, e_fa, e_ia, ia_eq, nat_eq, natV_nat, e_len, lnH_some, e_extract, ex_0, ex_1, e_call0, e_call1, e_call2, e_call3, pc0_eq, pc1_some, pc2_some, pc3_some, fin_some, g_var0, g_vars, g_loc0, g_locs, g_int, g_bool, g_str, g_sl, s_none, s_zero, s_succ, cl_nil, cl_str, cl_bool, cl_slc, cl_own, evFa, evNil, asEl, evBin, intBin, strBin, evUn, len_nil, len_slc, len_str, clr, List.length_nil, List.length_cons, List.getElem?_cons_zero, List.getElem?_cons_succ, Nat.reduceAdd, Nat.zero_add, Nat.add_zero, Nat.reduceLeDiff, Nat.reduceSub, ↓reduceIte, List.drop_succ_cons, List.drop_zero, List.take_succ_cons, List.take_zero, Bool.false_eq_true, List.nil_append, List.cons_append, Bool.not_true, Bool.not_false, cond_true, cond_false, bne, lv_ret, lv_normal, res1, res2, lv2_some, res_var, res_cell, lvf_v, lvf_slc, res1c, lvo1_some, e_mm, mm_max, mm_min, cl_agg, cl_int, g_agg, e_callv1, cv1_fn, e_slice2, e_clrrow, e_callf2, pick_und, cells_agg, Option.map_some, Option.map_none]
    | true =>
      have fin : ∀ (v : List AV) (b0 : Bool), clr K54 v = V54 b0 0 .junk → ∃ x11, ∃ i : Int, loopN (exec (callW F) (l.length + 1) bb) K54 (l.length + 1) v [tb k n s c] = some (.exit 1, V54 (b0 && mayL l) i x11, [tb k n s c]) := fun v b0 hv => loop b0 v hv
      obtain ⟨y1, i1, p1⟩ := fin [.agg [.v (.int .i64 k), .v (.string s), .v (.int .i64 n), c], .ptr 0 0, .v (.bool false), .v (.bool A), .v (.bool (!A && (D && (E && G)))), .v (.int .i64 0), .v (.int .i64 k), .v (.bool false), .v (.bool false), .v (.bool false), .v (.bool true), .v undef] (!A && (D && (E && G))) rfl
      cases A <;> cases D <;> cases E <;> simp only [Bool.not_true, Bool.not_false, Bool.true_and, Bool.false_and] at p1 <;>
        simp only [c54_0, c54_1, c54_2, c54_3, c54_4, c54_5, c54_6, c54_7, c54_8, c54_9, c54_10, c54_11, c54_16, V54, tbx, tb0, tb1, tb2, tb3, q1, h1, h2, h3, h4, hA, hD, hE, hchk, p1, snap_str, Bool.true_and, Bool.false_and, run_nil, run_cons, stp_plain, stp_guard, put_some, pass_eq, pick_tt, pick_ff, pick_tf, pick_ft, pick_u, reg_some, thn_normal, thn_exit, thn_ret, cnd_t, cnd_f, blk_normal, blk_ret, blk_exit, x_seq, x_region, x_cond, x_block, x_loop, x_ret, x_exit, x_skip, e_mov, e_pick, pk_t, pk_f, withH_some, e_box, e_load, e_store, stH_some, e_nil, e_bin, e_eqv, eqH_f, eqH_t, e_un, e_fa, e_ia, ia_eq, nat_eq, natV_nat, e_len, lnH_some, e_extract, ex_0, ex_1, e_call0, e_call1, e_call2, e_call3, pc0_eq, pc1_some, pc2_some, pc3_some, fin_some, g_var0, g_vars, g_loc0, g_locs, g_int, g_bool, g_str, g_sl, s_none, s_zero, s_succ, cl_nil, cl_str, cl_bool, cl_slc, cl_own, evFa, evNil, asEl, evBin, intBin, strBin, evUn, len_nil, len_slc, len_str, clr, List.length_nil, List.length_cons, List.getElem?_cons_zero, List.getElem?_cons_succ, Nat.reduceAdd, Nat.zero_add, Nat.add_zero, Nat.reduceLeDiff, Nat.reduceSub, ↓reduceIte, List.drop_succ_cons, List.drop_zero, List.take_succ_cons, List.take_zero, Bool.false_eq_true, List.nil_append, List.cons_append, Bool.not_true, Bool.not_false, cond_true, cond_false, bne, lv_ret, lv_normal, res1, res2, lv2_some, res_var, res_cell, lvf_v, lvf_slc, res1c, lvo1_some, e_mm, mm_max, mm_min, cl_agg, cl_int, g_agg, e_callv1, cv1_fn, e_slice2, e_clrrow, e_callf2, pick_und, cells_agg, Option.map_some, Option.map_none]
end Go.AE.YtgcbaefclkfnoaaDoor
end

/-! The document's Check; the program's. -/
section
set_option linter.unusedVariables false
set_option linter.unusedSimpArgs false
namespace Go.AE.YtgcbaefclkfnoaaDoor
open Go Go.AE Go.Proofs.YtgcbaefclkfnoaaDoor

def V43 (c : AV) (n i : Int) (x3 x13 x14 : AV) : List AV := [.junk, .junk, .junk, x3, .junk, .junk, .junk, .junk, .junk, .junk, c, .v (.int .i64 n), .v (.int .i64 i), x13, x14]
def K43 : List Bool := [false, false, false, false, false, false, false, false, false, false, true, true, true, false, false]
theorem rmay_ok : ∀ (N : Nat) (t : Tm) (a : AV), SizeOf.sizeOf t < N → IsT a t → callW F 43 [a] [] = some (.v (.bool (mayT t)), []) := by
  intro N
  induction N with
  | zero => intro t a h; omega
  | succ N ih =>
    intro t a hN ha
    cases ha with
    | mk k s n c l hc =>
    obtain ⟨es, hs, hes, hm⟩ := hc.sl
    have hll := hes.length
    refine callW_pure (c := c43) rfl rfl (l.length + 1) ?_
    have q1 := fun h : List AO => hs.len h
    rw [hll] at q1
    have hchk := rchk_ok s
    have loop : ∀ (v : List AV), clr K43 v = V43 c l.length 0 .junk .junk .junk → (mayL l = true ∧ ∃ x3 x14 h, loopN (exec (callW F) (l.length + 1) c43_17) K43 (l.length + 1) v [tb k n s c] = some (.exit 1, V43 c l.length l.length x3 (.v (.bool false)) x14, h)) ∨
        (mayL l = false ∧ ∃ v' h, loopN (exec (callW F) (l.length + 1) c43_17) K43 (l.length + 1) v [tb k n s c] = some (.ret, v', h) ∧ getO v' [] (.var 2) = .v (.bool false)) := by
      intro v hv
      obtain ⟨e, v', h', g1, g2, g3⟩ := loop_rule0 (call := callW F) (K := l.length + 1) (b := c43_17) (keep := K43)
        (fun i v h => v = V43 c l.length i .junk .junk .junk ∧ mayL (l.drop i) = mayL l)
        (fun e v h => (e = .exit 1 ∧ mayL l = true ∧ ∃ x3 x14, v = V43 c l.length l.length x3 (.v (.bool false)) x14) ∨ (e = .ret ∧ mayL l = false ∧ getO v [] (.var 2) = .v (.bool false)))
        l.length (m := l.length + 1) (v := v) (h := [tb k n s c]) (by omega) ⟨hv, rfl⟩ (by
          rintro i v h hi ⟨rfl, hR⟩
          by_cases hil' : i < l.length
          · have hil : i < es.length := by omega
            have hT := hes.at hil hil'
            have hlt := lt_t hil'
            have he : es[i]? = some es[i] := List.getElem?_eq_getElem hil
            have q2 := fun h : List AO => hs.ia he h
            have hf := hT.facts
            have hd : l.drop i = l[i] :: l.drop (i + 1) := List.drop_eq_getElem_cons hil'
            have hw := wrap_succ hil hm
            have hc := ih l[i] es[i] (by have := IsL.mem_size (k := k) (n := n) (s := s) (List.getElem_mem hil'); omega) hT
            rw [hd, mayL] at hR
            cases hb : mayT l[i] with
            | true =>
              rw [hb] at hc hR
              rw [Bool.true_and] at hR
              refine ⟨.normal, V43 c l.length ((i + 1 : Nat) : Int) (.ptr h.length 0) (.v (.bool true)) (.v (.bool false)), h ++ [.box 24 es[i].cells], ?_, hil', rfl, hR⟩
              simp only [V43, c43_17, c43_12, c43_13, c43_14, c43_16, hlt, q2, hf, hc, hw, q9z, run_nil, run_cons, stp_plain, stp_guard, put_some, pass_eq, pick_tt, pick_ff, pick_tf, pick_ft, pick_u, reg_some, thn_normal, thn_exit, thn_ret, cnd_t, cnd_f, blk_normal, blk_ret, blk_exit, x_seq, x_region, x_cond, x_block, x_loop, x_ret, x_exit, x_skip, e_mov, e_pick, pk_t, pk_f, withH_some, e_box, e_load, e_store, stH_some, e_nil, e_bin, e_eqv, eqH_f, eqH_t, e_un, e_fa, e_ia, ia_eq, nat_eq, natV_nat, e_len, lnH_some, e_extract, ex_0, ex_1, e_call0, e_call1, e_call2, e_call3, pc0_eq, pc1_some, pc2_some, pc3_some, fin_some, g_var0, g_vars, g_loc0, g_locs, g_int, g_bool, g_str, g_sl, s_none, s_zero, s_succ, cl_nil, cl_str, cl_bool, cl_slc, cl_own, evFa, evNil, asEl, evBin, intBin, strBin, evUn, len_nil, len_slc, len_str, clr, List.length_nil, List.length_cons, List.getElem?_cons_zero, List.getElem?_cons_succ, Nat.reduceAdd, Nat.zero_add, Nat.add_zero, Nat.reduceLeDiff, Nat.reduceSub, ↓reduceIte, List.drop_succ_cons, List.drop_zero, List.take_succ_cons, List.take_zero, Bool.false_eq_true, List.nil_append, List.cons_append, Bool.not_true, Bool.not_false, cond_true, cond_false, bne, lv_ret, lv_normal, res1, res2, lv2_some, res_var, res_cell, lvf_v, lvf_slc, res1c, lvo1_some, e_mm, mm_max, mm_min, cl_agg, cl_int, g_agg, e_callv1, cv1_fn, e_slice2, e_clrrow, e_callf2, pick_und, cells_agg, Option.map_some, Option.map_none, bx_some]
            | false =>
              rw [hb] at hc hR
              rw [Bool.false_and] at hR
              refine ⟨.ret, [.junk, .junk, .v (.bool false), .ptr h.length 0, .junk, .junk, .junk, .junk, .junk, .junk, c, .v (.int .i64 l.length), .v (.int .i64 i), .v (.bool true), .v (.bool true)], h ++ [.box 24 es[i].cells], ?_, .inr ⟨rfl, hR.symm, rfl⟩⟩
              simp only [V43, c43_17, c43_12, c43_13, c43_14, c43_15, hlt, q2, hf, hc, hw, q9z, run_nil, run_cons, stp_plain, stp_guard, put_some, pass_eq, pick_tt, pick_ff, pick_tf, pick_ft, pick_u, reg_some, thn_normal, thn_exit, thn_ret, cnd_t, cnd_f, blk_normal, blk_ret, blk_exit, x_seq, x_region, x_cond, x_block, x_loop, x_ret, x_exit, x_skip, e_mov, e_pick, pk_t, pk_f, withH_some, e_box, e_load, e_store, stH_some, e_nil, e_bin, e_eqv, eqH_f, eqH_t, e_un, e_fa, e_ia, ia_eq, nat_eq, natV_nat, e_len, lnH_some, e_extract, ex_0, ex_1, e_call0, e_call1, e_call2, e_call3, pc0_eq, pc1_some, pc2_some, pc3_some, fin_some, g_var0, g_vars, g_loc0, g_locs, g_int, g_bool, g_str, g_sl, s_none, s_zero, s_succ, cl_nil, cl_str, cl_bool, cl_slc, cl_own, evFa, evNil, asEl, evBin, intBin, strBin, evUn, len_nil, len_slc, len_str, clr, List.length_nil, List.length_cons, List.getElem?_cons_zero, List.getElem?_cons_succ, Nat.reduceAdd, Nat.zero_add, Nat.add_zero, Nat.reduceLeDiff, Nat.reduceSub, ↓reduceIte, List.drop_succ_cons, List.drop_zero, List.take_succ_cons, List.take_zero, Bool.false_eq_true, List.nil_append, List.cons_append, Bool.not_true, Bool.not_false, cond_true, cond_false, bne, lv_ret, lv_normal, res1, res2, lv2_some, res_var, res_cell, lvf_v, lvf_slc, res1c, lvo1_some, e_mm, mm_max, mm_min, cl_agg, cl_int, g_agg, e_callv1, cv1_fn, e_slice2, e_clrrow, e_callf2, pick_und, cells_agg, Option.map_some, Option.map_none, bx_some]
          · have hie : i = l.length := by omega
            subst hie
            have hlt := lt_f (n := l.length)
            rw [List.drop_of_length_le (Nat.le_refl _), mayL] at hR
            refine ⟨.exit 1, V43 c l.length l.length .junk (.v (.bool false)) .junk, h, ?_, .inl ⟨rfl, hR.symm, _, _, rfl⟩⟩
            simp only [V43, c43_17, c43_12, hlt, run_nil, run_cons, stp_plain, stp_guard, put_some, pass_eq, pick_tt, pick_ff, pick_tf, pick_ft, pick_u, reg_some, thn_normal, thn_exit, thn_ret, cnd_t, cnd_f, blk_normal, blk_ret, blk_exit, x_seq, x_region, x_cond, x_block, x_loop, x_ret, x_exit, x_skip, e_mov, e_pick, pk_t, pk_f, withH_some, e_box, e_load, e_store, stH_some, e_nil, e_bin, e_eqv, eqH_f, eqH_t, e_un, e_fa, e_ia, ia_eq, nat_eq, natV_nat, e_len, lnH_some, e_extract, ex_0, ex_1, e_call0, e_call1, e_call2, e_call3, pc0_eq, pc1_some, pc2_some, pc3_some, fin_some, g_var0, g_vars, g_loc0, g_locs, g_int, g_bool, g_str, g_sl, s_none, s_zero, s_succ, cl_nil, cl_str, cl_bool, cl_slc, cl_own, evFa, evNil, asEl, evBin, intBin, strBin, evUn, len_nil, len_slc, len_str, clr, List.length_nil, List.length_cons, List.getElem?_cons_zero, List.getElem?_cons_succ, Nat.reduceAdd, Nat.zero_add, Nat.add_zero, Nat.reduceLeDiff, Nat.reduceSub, ↓reduceIte, List.drop_succ_cons, List.drop_zero, List.take_succ_cons, List.take_zero, Bool.false_eq_true, List.nil_append, List.cons_append, Bool.not_true, Bool.not_false, cond_true, cond_false, bne, lv_ret, lv_normal, res1, res2, lv2_some, res_var, res_cell, lvf_v, lvf_slc, res1c, lvo1_some, e_mm, mm_max, mm_min, cl_agg, cl_int, g_agg, e_callv1, cv1_fn, e_slice2, e_clrrow, e_callf2, pick_und, cells_agg, Option.map_some, Option.map_none, bx_some])
      rcases g3 with ⟨rfl, h1, x3, x14, rfl⟩ | ⟨rfl, h1, h2⟩
      · exact .inl ⟨h1, x3, x14, h', g1⟩
      · exact .inr ⟨h1, v', h', g1, h2⟩
    rw [mayT]
    rw [show c43.body = (.seq (.region [] [] c43_0) (.seq (.seq (.region [] [] c43_1) (.block 0 (.seq (.region [] [] c43_2) (.cond (.var 5) (.seq (.region [] [] c43_3) .ret) (.seq (.region [] [] c43_4) (.cond (.var 6) (.seq (.region [] [] c43_5) .ret) (.seq (.region [] [] c43_6) (.cond (.var 7) (.seq (.region [] [] c43_7) .ret) (.seq (.region [] [] c43_8) (.cond (.var 8) (.seq (.seq (.region [] [] c43_9) (.cond (.var 9) (.seq (.region [] [] c43_10) .ret) .skip)) (.seq (.seq (.region [] [] c43_11) (.block 1 (.loop K43 [] c43_17))) (.seq (.region [] [] c43_18) .ret))) .skip)))))))))) (.seq (.region [] [] c43_19) .ret))) from rfl, show c43.res = [.var 2] from rfl]
    rw [show start c43 [.agg [.v (.int .i64 k), .v (.string s), .v (.int .i64 n), c]] = [.agg [.v (.int .i64 k), .v (.string s), .v (.int .i64 n), c], .v undef, .v undef, .v undef, .v undef, .v undef, .v undef, .v undef, .v undef, .v undef, .v undef, .v undef, .v undef, .v undef, .v undef] from rfl]
    generalize c43_17 = bb at loop ⊢
    have hA2 : decide ((l.length : Int) < 1) = ((l.length : Int) == 0) := by
      by_cases e : l.length = 0
      · rw [e]; rfl
      · rw [decide_eq_false (by omega)]; symm; simp only [beq_eq_false_iff_ne]; omega
    have hE2 : decide ((l.length : Int) > 16) = !decide ((l.length : Int) ≤ 16) := by
      by_cases e : (l.length : Int) ≤ 16
      · rw [decide_eq_true e, decide_eq_false (by omega)]; rfl
      · rw [decide_eq_false e, decide_eq_true (by omega)]; rfl
    generalize hA : ((l.length : Int) == 0) = A at hA2 ⊢
    generalize hB : noS s = B
    unfold noS at hB
    generalize hC : decide (n ≥ 0) = C
    generalize hD : (n == 0) = D
    generalize hE : decide ((l.length : Int) ≤ 16) = E at hE2 ⊢
    generalize chkS s = G at hchk ⊢
    cases h1 : (k == 1) with
    | true => cases A <;> cases B <;> cases C <;> simp only [c43_0, c43_1, c43_2, c43_3, tbx, tb0, tb1, tb2, tb3, q1, h1, hA, hB, hC, Bool.true_and, Bool.false_and, Bool.and_self, run_nil, run_cons, stp_plain, stp_guard, put_some, pass_eq, pick_tt, pick_ff, pick_tf, pick_ft, pick_u, reg_some, thn_normal, thn_exit, thn_ret, cnd_t, cnd_f, blk_normal, blk_ret, blk_exit, x_seq, x_region, x_cond, x_block, x_loop, x_ret, x_exit, x_skip, e_mov, e_pick, pk_t, pk_f, withH_some, e_box, e_load, e_store, stH_some, e_nil, e_bin, e_eqv, eqH_f, eqH_t, e_un, e_fa, e_ia, ia_eq, nat_eq, natV_nat, e_len, lnH_some, e_extract, ex_0, ex_1, e_call0, e_call1, e_call2, e_call3, pc0_eq, pc1_some, pc2_some, pc3_some, fin_some, g_var0, g_vars, g_loc0, g_locs, g_int, g_bool, g_str, g_sl, s_none, s_zero, s_succ, cl_nil, cl_str, cl_bool, cl_slc, cl_own, evFa, evNil, asEl, evBin, intBin, strBin, evUn, len_nil, len_slc, len_str, clr, List.length_nil, List.length_cons, List.getElem?_cons_zero, List.getElem?_cons_succ, Nat.reduceAdd, Nat.zero_add, Nat.add_zero, Nat.reduceLeDiff, Nat.reduceSub, ↓reduceIte, List.drop_succ_cons, List.drop_zero, List.take_succ_cons, List.take_zero, Bool.false_eq_true, List.nil_append, List.cons_append, Bool.not_true, Bool.not_false, cond_true, cond_false, bne, lv_ret, lv_normal, res1, res2, lv2_some, res_var, res_cell, lvf_v, lvf_slc, res1c, lvo1_some, e_mm, mm_max, mm_min, cl_agg, cl_int, g_agg, e_callv1, cv1_fn, e_slice2, e_clrrow, e_callf2, pick_und, cells_agg, Option.map_some, Option.map_none]
    | false =>
    cases h2 : (k == 2) with
    | true => cases A <;> cases D <;> cases G <;> simp only [c43_0, c43_1, c43_2, c43_3, c43_4, c43_5, tbx, tb0, tb1, tb2, tb3, q1, h1, h2, hA, hD, hchk, snap_str, Bool.true_and, Bool.false_and, run_nil, run_cons, stp_plain, stp_guard, put_some, pass_eq, pick_tt, pick_ff, pick_tf, pick_ft, pick_u, reg_some, thn_normal, thn_exit, thn_ret, cnd_t, cnd_f, blk_normal, blk_ret, blk_exit, x_seq, x_region, x_cond, x_block, x_loop, x_ret, x_exit, x_skip, e_mov, e_pick, pk_t, pk_f, withH_some, e_box, e_load, e_store, stH_some, e_nil, e_bin, e_eqv, eqH_f, eqH_t, e_un, e_fa, e_ia, ia_eq, nat_eq, natV_nat, e_len, lnH_some, e_extract, ex_0, ex_1, e_call0, e_call1, e_call2, e_call3, pc0_eq, pc1_some, pc2_some, pc3_some, fin_some, g_var0, g_vars, g_loc0, g_locs, g_int, g_bool, g_str, g_sl, s_none, s_zero, s_succ, cl_nil, cl_str, cl_bool, cl_slc, cl_own, evFa, evNil, asEl, evBin, intBin, strBin, evUn, len_nil, len_slc, len_str, clr, List.length_nil, List.length_cons, List.getElem?_cons_zero, List.getElem?_cons_succ, Nat.reduceAdd, Nat.zero_add, Nat.add_zero, Nat.reduceLeDiff, Nat.reduceSub, ↓reduceIte, List.drop_succ_cons, List.drop_zero, List.take_succ_cons, List.take_zero, Bool.false_eq_true, List.nil_append, List.cons_append, Bool.not_true, Bool.not_false, cond_true, cond_false, bne, lv_ret, lv_normal, res1, res2, lv2_some, res_var, res_cell, lvf_v, lvf_slc, res1c, lvo1_some, e_mm, mm_max, mm_min, cl_agg, cl_int, g_agg, e_callv1, cv1_fn, e_slice2, e_clrrow, e_callf2, pick_und, cells_agg, Option.map_some, Option.map_none]
    | false =>
    cases h3 : (k == 3) with
    | true => cases A <;> cases B <;> simp only [c43_0, c43_1, c43_2, c43_3, c43_4, c43_5, c43_6, c43_7, tbx, tb0, tb1, tb2, tb3, q1, h1, h2, h3, hA, hB, Bool.true_and, Bool.false_and, run_nil, run_cons, stp_plain, stp_guard, put_some, pass_eq, pick_tt, pick_ff, pick_tf, pick_ft, pick_u, reg_some, thn_normal, thn_exit, thn_ret, cnd_t, cnd_f, blk_normal, blk_ret, blk_exit, x_seq, x_region, x_cond, x_block, x_loop, x_ret, x_exit, x_skip, e_mov, e_pick, pk_t, pk_f, withH_some, e_box, e_load, e_store, stH_some, e_nil, e_bin, e_eqv, eqH_f, eqH_t, e_un, e_fa, e_ia, ia_eq, nat_eq, natV_nat, e_len, lnH_some, e_extract, ex_0, ex_1, e_call0, e_call1, e_call2, e_call3, pc0_eq, pc1_some, pc2_some, pc3_some, fin_some, g_var0, g_vars, g_loc0, g_locs, g_int, g_bool, g_str, g_sl, s_none, s_zero, s_succ, cl_nil, cl_str, cl_bool, cl_slc, cl_own, evFa, evNil, asEl, evBin, intBin, strBin, evUn, len_nil, len_slc, len_str, clr, List.length_nil, List.length_cons, List.getElem?_cons_zero, List.getElem?_cons_succ, Nat.reduceAdd, Nat.zero_add, Nat.add_zero, Nat.reduceLeDiff, Nat.reduceSub, ↓reduceIte, List.drop_succ_cons, List.drop_zero, List.take_succ_cons, List.take_zero, Bool.false_eq_true, List.nil_append, List.cons_append, Bool.not_true, Bool.not_false, cond_true, cond_false, bne, lv_ret, lv_normal, res1, res2, lv2_some, res_var, res_cell, lvf_v, lvf_slc, res1c, lvo1_some, e_mm, mm_max, mm_min, cl_agg, cl_int, g_agg, e_callv1, cv1_fn, e_slice2, e_clrrow, e_callf2, pick_und, cells_agg, Option.map_some, Option.map_none]
    | false =>
    cases h4 : (k == 4) with
    | false => simp only [c43_0, c43_1, c43_2, c43_3, c43_4, c43_5, c43_6, c43_7, c43_8, c43_19, tbx, tb0, tb1, tb2, tb3, q1, h1, h2, h3, h4, run_nil, run_cons, stp_plain, stp_guard, put_some, pass_eq, pick_tt, pick_ff, pick_tf, pick_ft, pick_u, reg_some, thn_normal, thn_exit, thn_ret, cnd_t, cnd_f, blk_normal, blk_ret, blk_exit, x_seq, x_region, x_cond, x_block, x_loop, x_ret, x_exit, x_skip, e_mov, e_pick, pk_t, pk_f, withH_some, e_box, e_load, e_store, stH_some, e_nil, e_bin, e_eqv, eqH_f, eqH_t, e_un, e_fa, e_ia, ia_eq, nat_eq, natV_nat, e_len, lnH_some, e_extract, ex_0, ex_1, e_call0, e_call1, e_call2, e_call3, pc0_eq, pc1_some, pc2_some, pc3_some, fin_some, g_var0, g_vars, g_loc0, g_locs, g_int, g_bool, g_str, g_sl, s_none, s_zero, s_succ, cl_nil, cl_str, cl_bool, cl_slc, cl_own, evFa, evNil, asEl, evBin, intBin, strBin, evUn, len_nil, len_slc, len_str, clr, List.length_nil, List.length_cons, List.getElem?_cons_zero, List.getElem?_cons_succ, Nat.reduceAdd, Nat.zero_add, Nat.add_zero, Nat.reduceLeDiff, Nat.reduceSub, ↓reduceIte, List.drop_succ_cons, List.drop_zero, List.take_succ_cons, List.take_zero, Bool.false_eq_true, List.nil_append, List.cons_append, Bool.not_true, Bool.not_false, cond_true, cond_false, bne, lv_ret, lv_normal, res1, res2, lv2_some, res_var, res_cell, lvf_v, lvf_slc, res1c, lvo1_some, e_mm, mm_max, mm_min, cl_agg, cl_int, g_agg, e_callv1, cv1_fn, e_slice2, e_clrrow, e_callf2, pick_und, cells_agg, Option.map_some, Option.map_none]
    | true =>
      have lp := loop [.agg [.v (.int .i64 k), .v (.string s), .v (.int .i64 n), c], .ptr 0 0, .v (.bool false), .v undef, .v (.int .i64 k), .v (.bool false), .v (.bool false), .v (.bool false), .v (.bool true), .v (.bool false), c, .v (.int .i64 l.length), .v (.int .i64 0), .v undef, .v undef] rfl
      rcases lp with ⟨p0, x3, x14, h', p1⟩ | ⟨p0, v', h', p1, p2⟩
      · rw [p0]
        cases A <;> cases D <;> cases E <;> cases G <;> simp only [c43_0, c43_1, c43_2, c43_3, c43_4, c43_5, c43_6, c43_7, c43_8, c43_9, c43_10, c43_11, c43_18, V43, tbx, tb0, tb1, tb2, tb3, q1, h1, h2, h3, h4, hA2, hD, hE2, hchk, p1, snap_str, Bool.true_and, Bool.false_and, run_nil, run_cons, stp_plain, stp_guard, put_some, pass_eq, pick_tt, pick_ff, pick_tf, pick_ft, pick_u, reg_some, thn_normal, thn_exit, thn_ret, cnd_t, cnd_f, blk_normal, blk_ret, blk_exit, x_seq, x_region, x_cond, x_block, x_loop, x_ret, x_exit, x_skip, e_mov, e_pick, pk_t, pk_f, withH_some, e_box, e_load, e_store, stH_some, e_nil, e_bin, e_eqv, eqH_f, eqH_t, e_un, e_fa, e_ia, ia_eq, nat_eq, natV_nat, e_len, lnH_some, e_extract, ex_0, ex_1, e_call0, e_call1, e_call2, e_call3, pc0_eq, pc1_some, pc2_some, pc3_some, fin_some, g_var0, g_vars, g_loc0, g_locs, g_int, g_bool, g_str, g_sl, s_none, s_zero, s_succ, cl_nil, cl_str, cl_bool, cl_slc, cl_own, evFa, evNil, asEl, evBin, intBin, strBin, evUn, len_nil, len_slc, len_str, clr, List.length_nil, List.length_cons, List.getElem?_cons_zero, List.getElem?_cons_succ, Nat.reduceAdd, Nat.zero_add, Nat.add_zero, Nat.reduceLeDiff, Nat.reduceSub, ↓reduceIte, List.drop_succ_cons, List.drop_zero, List.take_succ_cons, List.take_zero, Bool.false_eq_true, List.nil_append, List.cons_append, Bool.not_true, Bool.not_false, cond_true, cond_false, bne, lv_ret, lv_normal, res1, res2, lv2_some, res_var, res_cell, lvf_v, lvf_slc, res1c, lvo1_some, e_mm, mm_max, mm_min, cl_agg, cl_int, g_agg, e_callv1, cv1_fn, e_slice2, e_clrrow, e_callf2, pick_und, cells_agg, Option.map_some, Option.map_none]
      · rw [p0]
        cases A <;> cases D <;> cases E <;> cases G <;> simp only [c43_0, c43_1, c43_2, c43_3, c43_4, c43_5, c43_6, c43_7, c43_8, c43_9, c43_10, c43_11, c43_18, V43, tbx, tb0, tb1, tb2, tb3, q1, h1, h2, h3, h4, hA2, hD, hE2, hchk, p1, p2, snap_str, Bool.true_and, Bool.false_and, run_nil, run_cons, stp_plain, stp_guard, put_some, pass_eq, pick_tt, pick_ff, pick_tf, pick_ft, pick_u, reg_some, thn_normal, thn_exit, thn_ret, cnd_t, cnd_f, blk_normal, blk_ret, blk_exit, x_seq, x_region, x_cond, x_block, x_loop, x_ret, x_exit, x_skip, e_mov, e_pick, pk_t, pk_f, withH_some, e_box, e_load, e_store, stH_some, e_nil, e_bin, e_eqv, eqH_f, eqH_t, e_un, e_fa, e_ia, ia_eq, nat_eq, natV_nat, e_len, lnH_some, e_extract, ex_0, ex_1, e_call0, e_call1, e_call2, e_call3, pc0_eq, pc1_some, pc2_some, pc3_some, fin_some, g_var0, g_vars, g_loc0, g_locs, g_int, g_bool, g_str, g_sl, s_none, s_zero, s_succ, cl_nil, cl_str, cl_bool, cl_slc, cl_own, evFa, evNil, asEl, evBin, intBin, strBin, evUn, len_nil, len_slc, len_str, clr, List.length_nil, List.length_cons, List.getElem?_cons_zero, List.getElem?_cons_succ, Nat.reduceAdd, Nat.zero_add, Nat.add_zero, Nat.reduceLeDiff, Nat.reduceSub, ↓reduceIte, List.drop_succ_cons, List.drop_zero, List.take_succ_cons, List.take_zero, Bool.false_eq_true, List.nil_append, List.cons_append, Bool.not_true, Bool.not_false, cond_true, cond_false, bne, lv_ret, lv_normal, res1, res2, lv2_some, res_var, res_cell, lvf_v, lvf_slc, res1c, lvo1_some, e_mm, mm_max, mm_min, cl_agg, cl_int, g_agg, e_callv1, cv1_fn, e_slice2, e_clrrow, e_callf2, pick_und, cells_agg, Option.map_some, Option.map_none]

/-- Check: 0, 30, 3 -/
def checkT (t : Tm) : Int := if mayT t = true then (if decide (depI t > 60) = true then 3 else 0) else 30
theorem check_ok (t : Tm) (a : AV) (ha : IsT a t) : callW F 22 [a] [] = some (.v (.int .i64 (checkT t)), []) := by
  refine callW_pure (c := c22) rfl rfl 0 ?_
  have hf := ha.facts
  have h1 := may_ok _ t a (Nat.lt_succ_self _) ha
  have h2 := deep_ok _ t a (Nat.lt_succ_self _) ha
  have e1 : evLoad [.box 24 a.cells] true 4 (.ptr 0 0) = some a := hf.2.2.2.1 [] 24
  unfold checkT
  cases h3 : mayT t with
  | false => rw [h3] at h1; simp only [c22, start, List.replicate, c22_0, c22_1, c22_2, hf, e1, h1, run_nil, run_cons, stp_plain, stp_guard, put_some, pass_eq, pick_tt, pick_ff, pick_tf, pick_ft, pick_u, reg_some, thn_normal, thn_exit, thn_ret, cnd_t, cnd_f, blk_normal, blk_ret, blk_exit, x_seq, x_region, x_cond, x_block, x_loop, x_ret, x_exit, x_skip, e_mov, e_pick, pk_t, pk_f, withH_some, e_box, e_load, e_store, stH_some, e_nil, e_bin, e_eqv, eqH_f, eqH_t, e_un, e_fa, e_ia, ia_eq, nat_eq, natV_nat, e_len, lnH_some, e_extract, ex_0, ex_1, e_call0, e_call1, e_call2, e_call3, pc0_eq, pc1_some, pc2_some, pc3_some, fin_some, g_var0, g_vars, g_loc0, g_locs, g_int, g_bool, g_str, g_sl, s_none, s_zero, s_succ, cl_nil, cl_str, cl_bool, cl_slc, cl_own, evFa, evNil, asEl, evBin, intBin, strBin, evUn, len_nil, len_slc, len_str, clr, List.length_nil, List.length_cons, List.getElem?_cons_zero, List.getElem?_cons_succ, Nat.reduceAdd, Nat.zero_add, Nat.add_zero, Nat.reduceLeDiff, Nat.reduceSub, ↓reduceIte, List.drop_succ_cons, List.drop_zero, List.take_succ_cons, List.take_zero, Bool.false_eq_true, List.nil_append, List.cons_append, Bool.not_true, Bool.not_false, cond_true, cond_false, bne, lv_ret, lv_normal, res1, res2, lv2_some, res_var, res_cell, lvf_v, lvf_slc, res1c, lvo1_some, e_mm, mm_max, mm_min, cl_agg, cl_int, g_agg, e_callv1, cv1_fn, e_slice2, e_clrrow, e_callf2, pick_und, cells_agg, Option.map_some, Option.map_none, bx_some]
  | true =>
    rw [h3] at h1
    cases h4 : decide (depI t > 60) <;> simp only [c22, start, List.replicate, c22_0, c22_1, c22_3, c22_4, c22_5, hf, e1, h1, h2, h4, run_nil, run_cons, stp_plain, stp_guard, put_some, pass_eq, pick_tt, pick_ff, pick_tf, pick_ft, pick_u, reg_some, thn_normal, thn_exit, thn_ret, cnd_t, cnd_f, blk_normal, blk_ret, blk_exit, x_seq, x_region, x_cond, x_block, x_loop, x_ret, x_exit, x_skip, e_mov, e_pick, pk_t, pk_f, withH_some, e_box, e_load, e_store, stH_some, e_nil, e_bin, e_eqv, eqH_f, eqH_t, e_un, e_fa, e_ia, ia_eq, nat_eq, natV_nat, e_len, lnH_some, e_extract, ex_0, ex_1, e_call0, e_call1, e_call2, e_call3, pc0_eq, pc1_some, pc2_some, pc3_some, fin_some, g_var0, g_vars, g_loc0, g_locs, g_int, g_bool, g_str, g_sl, s_none, s_zero, s_succ, cl_nil, cl_str, cl_bool, cl_slc, cl_own, evFa, evNil, asEl, evBin, intBin, strBin, evUn, len_nil, len_slc, len_str, clr, List.length_nil, List.length_cons, List.getElem?_cons_zero, List.getElem?_cons_succ, Nat.reduceAdd, Nat.zero_add, Nat.add_zero, Nat.reduceLeDiff, Nat.reduceSub, ↓reduceIte, List.drop_succ_cons, List.drop_zero, List.take_succ_cons, List.take_zero, Bool.false_eq_true, List.nil_append, List.cons_append, Bool.not_true, Bool.not_false, cond_true, cond_false, bne, lv_ret, lv_normal, res1, res2, lv2_some, res_var, res_cell, lvf_v, lvf_slc, res1c, lvo1_some, e_mm, mm_max, mm_min, cl_agg, cl_int, g_agg, e_callv1, cv1_fn, e_slice2, e_clrrow, e_callf2, pick_und, cells_agg, Option.map_some, Option.map_none, bx_some]
theorem rcheck_ok (t : Tm) (a : AV) (ha : IsT a t) : callW F 18 [a] [] = some (.v (.int .i64 (checkT t)), []) := by
  refine callW_pure (c := c18) rfl rfl 0 ?_
  have hf := ha.facts
  have h1 := rmay_ok _ t a (Nat.lt_succ_self _) ha
  have h2 := rdeep_ok _ t a (Nat.lt_succ_self _) ha
  have e1 : evLoad [.box 24 a.cells] true 4 (.ptr 0 0) = some a := hf.2.2.2.1 [] 24
  unfold checkT
  cases h3 : mayT t with
  | false => rw [h3] at h1; simp only [c18, start, List.replicate, c18_0, c18_1, c18_2, hf, e1, h1, run_nil, run_cons, stp_plain, stp_guard, put_some, pass_eq, pick_tt, pick_ff, pick_tf, pick_ft, pick_u, reg_some, thn_normal, thn_exit, thn_ret, cnd_t, cnd_f, blk_normal, blk_ret, blk_exit, x_seq, x_region, x_cond, x_block, x_loop, x_ret, x_exit, x_skip, e_mov, e_pick, pk_t, pk_f, withH_some, e_box, e_load, e_store, stH_some, e_nil, e_bin, e_eqv, eqH_f, eqH_t, e_un, e_fa, e_ia, ia_eq, nat_eq, natV_nat, e_len, lnH_some, e_extract, ex_0, ex_1, e_call0, e_call1, e_call2, e_call3, pc0_eq, pc1_some, pc2_some, pc3_some, fin_some, g_var0, g_vars, g_loc0, g_locs, g_int, g_bool, g_str, g_sl, s_none, s_zero, s_succ, cl_nil, cl_str, cl_bool, cl_slc, cl_own, evFa, evNil, asEl, evBin, intBin, strBin, evUn, len_nil, len_slc, len_str, clr, List.length_nil, List.length_cons, List.getElem?_cons_zero, List.getElem?_cons_succ, Nat.reduceAdd, Nat.zero_add, Nat.add_zero, Nat.reduceLeDiff, Nat.reduceSub, ↓reduceIte, List.drop_succ_cons, List.drop_zero, List.take_succ_cons, List.take_zero, Bool.false_eq_true, List.nil_append, List.cons_append, Bool.not_true, Bool.not_false, cond_true, cond_false, bne, lv_ret, lv_normal, res1, res2, lv2_some, res_var, res_cell, lvf_v, lvf_slc, res1c, lvo1_some, e_mm, mm_max, mm_min, cl_agg, cl_int, g_agg, e_callv1, cv1_fn, e_slice2, e_clrrow, e_callf2, pick_und, cells_agg, Option.map_some, Option.map_none, bx_some]
  | true =>
    rw [h3] at h1
    cases h4 : decide (depI t > 60) <;> simp only [c18, start, List.replicate, c18_0, c18_1, c18_3, c18_4, c18_5, hf, e1, h1, h2, h4, run_nil, run_cons, stp_plain, stp_guard, put_some, pass_eq, pick_tt, pick_ff, pick_tf, pick_ft, pick_u, reg_some, thn_normal, thn_exit, thn_ret, cnd_t, cnd_f, blk_normal, blk_ret, blk_exit, x_seq, x_region, x_cond, x_block, x_loop, x_ret, x_exit, x_skip, e_mov, e_pick, pk_t, pk_f, withH_some, e_box, e_load, e_store, stH_some, e_nil, e_bin, e_eqv, eqH_f, eqH_t, e_un, e_fa, e_ia, ia_eq, nat_eq, natV_nat, e_len, lnH_some, e_extract, ex_0, ex_1, e_call0, e_call1, e_call2, e_call3, pc0_eq, pc1_some, pc2_some, pc3_some, fin_some, g_var0, g_vars, g_loc0, g_locs, g_int, g_bool, g_str, g_sl, s_none, s_zero, s_succ, cl_nil, cl_str, cl_bool, cl_slc, cl_own, evFa, evNil, asEl, evBin, intBin, strBin, evUn, len_nil, len_slc, len_str, clr, List.length_nil, List.length_cons, List.getElem?_cons_zero, List.getElem?_cons_succ, Nat.reduceAdd, Nat.zero_add, Nat.add_zero, Nat.reduceLeDiff, Nat.reduceSub, ↓reduceIte, List.drop_succ_cons, List.drop_zero, List.take_succ_cons, List.take_zero, Bool.false_eq_true, List.nil_append, List.cons_append, Bool.not_true, Bool.not_false, cond_true, cond_false, bne, lv_ret, lv_normal, res1, res2, lv2_some, res_var, res_cell, lvf_v, lvf_slc, res1c, lvo1_some, e_mm, mm_max, mm_min, cl_agg, cl_int, g_agg, e_callv1, cv1_fn, e_slice2, e_clrrow, e_callf2, pick_und, cells_agg, Option.map_some, Option.map_none, bx_some]
end Go.AE.YtgcbaefclkfnoaaDoor
end

/-! The examples (live). -/
section
namespace Go.AE.YtgcbaefclkfnoaaDoor
open Go Go.AE Go.Proofs.YtgcbaefclkfnoaaDoor
set_option linter.unusedVariables false
set_option linter.unusedSimpArgs false
set_option maxRecDepth 1000000
theorem live_n : callN F 14 12 [] [] = some (.v (.bool true), []) := by kernel_rfl
end Go.AE.YtgcbaefclkfnoaaDoor
end

/-! Whether terms are too great; what comes in. -/
section
set_option linter.unusedVariables false
set_option linter.unusedSimpArgs false
namespace Go.AE.YtgcbaefclkfnoaaDoor
open Go Go.AE Go.Proofs.YtgcbaefclkfnoaaDoor

theorem live_ok : callW F 12 [] [] = some (.v (.bool true), []) := callW_iff.2 ⟨_, live_n⟩
def fewB (t : Tm) : Bool := decide (fewT t 3000 ≥ 0)
def bigT (l : List Tm) : Bool := !(l.all fewB)
def V13 (c : AV) (n i : Int) (x2 x6 x7 : AV) : List AV := [.junk, .junk, x2, c, .v (.int .i64 n), .v (.int .i64 i), x6, x7]
def K13 : List Bool := [false, false, false, true, true, true, false, false]
theorem big_ok {c : AV} {l : List Tm} (hc : IsL c l) : callW F 13 [c] [] = some (.v (.bool (bigT l)), []) := by
  obtain ⟨es, hs, hes, hm⟩ := hc.sl
  have hll := hes.length
  refine callW_pure (c := c13) rfl rfl (l.length + 1) ?_
  have q1 := fun h : List AO => hs.len h
  rw [hll] at q1
  obtain ⟨e, v', h', g1, g2, g3⟩ := loop_rule0 (call := callW F) (K := l.length + 1) (b := c13_7) (keep := K13)
    (fun i v h => v = V13 c l.length i .junk .junk .junk ∧ bigT (l.drop i) = bigT l)
    (fun e v h => (e = .exit 0 ∧ bigT l = false ∧ ∃ x2 x7, v = V13 c l.length l.length x2 (.v (.bool false)) x7) ∨ (e = .ret ∧ bigT l = true ∧ getO v [] (.var 1) = .v (.bool true)))
    l.length (m := l.length + 1) (v := [c, .v (.bool false), .v undef, c, .v (.int .i64 l.length), .v (.int .i64 0), .v undef, .v undef]) (h := []) (by omega) ⟨rfl, rfl⟩ (by
      rintro i v h hi ⟨rfl, hR⟩
      by_cases hil' : i < l.length
      · have hil : i < es.length := by omega
        have hT := hes.at hil hil'
        have hlt := lt_t hil'
        have he : es[i]? = some es[i] := List.getElem?_eq_getElem hil
        have q2 := fun h : List AO => hs.ia he h
        have hf := hT.facts
        have hd : l.drop i = l[i] :: l.drop (i + 1) := List.drop_eq_getElem_cons hil'
        have hw := wrap_succ hil hm
        have hc := few_ok l[i] es[i] 3000 hT
        rw [show decide (fewT l[i] 3000 ≥ 0) = fewB l[i] from rfl] at hc
        rw [hd, bigT, List.all_cons] at hR
        cases hb : fewB l[i] with
        | true =>
          rw [hb] at hc hR
          rw [Bool.true_and] at hR
          refine ⟨.normal, V13 c l.length ((i + 1 : Nat) : Int) (.ptr h.length 0) (.v (.bool true)) (.v (.bool false)), h ++ [.box 24 es[i].cells], ?_, hil', rfl, hR⟩
          simp only [V13, c13_7, c13_2, c13_3, c13_4, c13_6, hlt, q2, hf, hc, hw, snap_int, q9z, run_nil, run_cons, stp_plain, stp_guard, put_some, pass_eq, pick_tt, pick_ff, pick_tf, pick_ft, pick_u, reg_some, thn_normal, thn_exit, thn_ret, cnd_t, cnd_f, blk_normal, blk_ret, blk_exit, x_seq, x_region, x_cond, x_block, x_loop, x_ret, x_exit, x_skip, e_mov, e_pick, pk_t, pk_f, withH_some, e_box, e_load, e_store, stH_some, e_nil, e_bin, e_eqv, eqH_f, eqH_t, e_un, e_fa, e_ia, ia_eq, nat_eq, natV_nat, e_len, lnH_some, e_extract, ex_0, ex_1, e_call0, e_call1, e_call2, e_call3, pc0_eq, pc1_some, pc2_some, pc3_some, fin_some, g_var0, g_vars, g_loc0, g_locs, g_int, g_bool, g_str, g_sl, s_none, s_zero, s_succ, cl_nil, cl_str, cl_bool, cl_slc, cl_own, evFa, evNil, asEl, evBin, intBin, strBin, evUn, len_nil, len_slc, len_str, clr, List.length_nil, List.length_cons, List.getElem?_cons_zero, List.getElem?_cons_succ, Nat.reduceAdd, Nat.zero_add, Nat.add_zero, Nat.reduceLeDiff, Nat.reduceSub, ↓reduceIte, List.drop_succ_cons, List.drop_zero, List.take_succ_cons, List.take_zero, Bool.false_eq_true, List.nil_append, List.cons_append, Bool.not_true, Bool.not_false, cond_true, cond_false, bne, lv_ret, lv_normal, res1, res2, lv2_some, res_var, res_cell, lvf_v, lvf_slc, res1c, lvo1_some, e_mm, mm_max, mm_min, cl_agg, cl_int, g_agg, e_callv1, cv1_fn, e_slice2, e_clrrow, e_callf2, pick_und, cells_agg, Option.map_some, Option.map_none, bx_some]
        | false =>
          rw [hb] at hc hR
          rw [Bool.false_and] at hR
          refine ⟨.ret, [.junk, .v (.bool true), .ptr h.length 0, c, .v (.int .i64 l.length), .v (.int .i64 i), .v (.bool true), .v (.bool true)], h ++ [.box 24 es[i].cells], ?_, .inr ⟨rfl, hR.symm, rfl⟩⟩
          simp only [V13, c13_7, c13_2, c13_3, c13_4, c13_5, hlt, q2, hf, hc, hw, snap_int, q9z, run_nil, run_cons, stp_plain, stp_guard, put_some, pass_eq, pick_tt, pick_ff, pick_tf, pick_ft, pick_u, reg_some, thn_normal, thn_exit, thn_ret, cnd_t, cnd_f, blk_normal, blk_ret, blk_exit, x_seq, x_region, x_cond, x_block, x_loop, x_ret, x_exit, x_skip, e_mov, e_pick, pk_t, pk_f, withH_some, e_box, e_load, e_store, stH_some, e_nil, e_bin, e_eqv, eqH_f, eqH_t, e_un, e_fa, e_ia, ia_eq, nat_eq, natV_nat, e_len, lnH_some, e_extract, ex_0, ex_1, e_call0, e_call1, e_call2, e_call3, pc0_eq, pc1_some, pc2_some, pc3_some, fin_some, g_var0, g_vars, g_loc0, g_locs, g_int, g_bool, g_str, g_sl, s_none, s_zero, s_succ, cl_nil, cl_str, cl_bool, cl_slc, cl_own, evFa, evNil, asEl, evBin, intBin, strBin, evUn, len_nil, len_slc, len_str, clr, List.length_nil, List.length_cons, List.getElem?_cons_zero, List.getElem?_cons_succ, Nat.reduceAdd, Nat.zero_add, Nat.add_zero, Nat.reduceLeDiff, Nat.reduceSub, ↓reduceIte, List.drop_succ_cons, List.drop_zero, List.take_succ_cons, List.take_zero, Bool.false_eq_true, List.nil_append, List.cons_append, Bool.not_true, Bool.not_false, cond_true, cond_false, bne, lv_ret, lv_normal, res1, res2, lv2_some, res_var, res_cell, lvf_v, lvf_slc, res1c, lvo1_some, e_mm, mm_max, mm_min, cl_agg, cl_int, g_agg, e_callv1, cv1_fn, e_slice2, e_clrrow, e_callf2, pick_und, cells_agg, Option.map_some, Option.map_none, bx_some]
      · have hie : i = l.length := by omega
        subst hie
        have hlt := lt_f (n := l.length)
        rw [List.drop_of_length_le (Nat.le_refl _)] at hR
        refine ⟨.exit 0, V13 c l.length l.length .junk (.v (.bool false)) .junk, h, ?_, .inl ⟨rfl, hR.symm, _, _, rfl⟩⟩
        simp only [V13, c13_7, c13_2, hlt, run_nil, run_cons, stp_plain, stp_guard, put_some, pass_eq, pick_tt, pick_ff, pick_tf, pick_ft, pick_u, reg_some, thn_normal, thn_exit, thn_ret, cnd_t, cnd_f, blk_normal, blk_ret, blk_exit, x_seq, x_region, x_cond, x_block, x_loop, x_ret, x_exit, x_skip, e_mov, e_pick, pk_t, pk_f, withH_some, e_box, e_load, e_store, stH_some, e_nil, e_bin, e_eqv, eqH_f, eqH_t, e_un, e_fa, e_ia, ia_eq, nat_eq, natV_nat, e_len, lnH_some, e_extract, ex_0, ex_1, e_call0, e_call1, e_call2, e_call3, pc0_eq, pc1_some, pc2_some, pc3_some, fin_some, g_var0, g_vars, g_loc0, g_locs, g_int, g_bool, g_str, g_sl, s_none, s_zero, s_succ, cl_nil, cl_str, cl_bool, cl_slc, cl_own, evFa, evNil, asEl, evBin, intBin, strBin, evUn, len_nil, len_slc, len_str, clr, List.length_nil, List.length_cons, List.getElem?_cons_zero, List.getElem?_cons_succ, Nat.reduceAdd, Nat.zero_add, Nat.add_zero, Nat.reduceLeDiff, Nat.reduceSub, ↓reduceIte, List.drop_succ_cons, List.drop_zero, List.take_succ_cons, List.take_zero, Bool.false_eq_true, List.nil_append, List.cons_append, Bool.not_true, Bool.not_false, cond_true, cond_false, bne, lv_ret, lv_normal, res1, res2, lv2_some, res_var, res_cell, lvf_v, lvf_slc, res1c, lvo1_some, e_mm, mm_max, mm_min, cl_agg, cl_int, g_agg, e_callv1, cv1_fn, e_slice2, e_clrrow, e_callf2, pick_und, cells_agg, Option.map_some, Option.map_none, bx_some])
  rw [show c13.body = (.seq (.region [] [] c13_0) (.seq (.seq (.region [] [] c13_1) (.block 0 (.loop K13 [] c13_7))) (.seq (.region [] [] c13_8) .ret))) from rfl, show c13.res = [.var 1] from rfl]
  rw [show start c13 [c] = [c, .v undef, .v undef, .v undef, .v undef, .v undef, .v undef, .v undef] from rfl]
  rcases g3 with ⟨rfl, h1, x2, x7, rfl⟩ | ⟨rfl, h1, h2⟩
  · rw [h1]
    generalize c13_7 = bb at g1 ⊢
    simp only [V13, c13_0, c13_1, c13_8, q1, g1, run_nil, run_cons, stp_plain, stp_guard, put_some, pass_eq, pick_tt, pick_ff, pick_tf, pick_ft, pick_u, reg_some, thn_normal, thn_exit, thn_ret, cnd_t, cnd_f, blk_normal, blk_ret, blk_exit, x_seq, x_region, x_cond, x_block, x_loop, x_ret, x_exit, x_skip, e_mov, e_pick, pk_t, pk_f, withH_some, e_box, e_load, e_store, stH_some, e_nil, e_bin, e_eqv, eqH_f, eqH_t, e_un, e_fa, e_ia, ia_eq, nat_eq, natV_nat, e_len, lnH_some, e_extract, ex_0, ex_1, e_call0, e_call1, e_call2, e_call3, pc0_eq, pc1_some, pc2_some, pc3_some, fin_some, g_var0, g_vars, g_loc0, g_locs, g_int, g_bool, g_str, g_sl, s_none, s_zero, s_succ, cl_nil, cl_str, cl_bool, cl_slc, cl_own, evFa, evNil, asEl, evBin, intBin, strBin, evUn, len_nil, len_slc, len_str, clr, List.length_nil, List.length_cons, List.getElem?_cons_zero, List.getElem?_cons_succ, Nat.reduceAdd, Nat.zero_add, Nat.add_zero, Nat.reduceLeDiff, Nat.reduceSub, ↓reduceIte, List.drop_succ_cons, List.drop_zero, List.take_succ_cons, List.take_zero, Bool.false_eq_true, List.nil_append, List.cons_append, Bool.not_true, Bool.not_false, cond_true, cond_false, bne, lv_ret, lv_normal, res1, res2, lv2_some, res_var, res_cell, lvf_v, lvf_slc, res1c, lvo1_some, e_mm, mm_max, mm_min, cl_agg, cl_int, g_agg, e_callv1, cv1_fn, e_slice2, e_clrrow, e_callf2, pick_und, cells_agg, Option.map_some, Option.map_none, bx_some]
  · rw [h1]
    generalize c13_7 = bb at g1 ⊢
    simp only [V13, c13_0, c13_1, c13_8, q1, g1, h2, run_nil, run_cons, stp_plain, stp_guard, put_some, pass_eq, pick_tt, pick_ff, pick_tf, pick_ft, pick_u, reg_some, thn_normal, thn_exit, thn_ret, cnd_t, cnd_f, blk_normal, blk_ret, blk_exit, x_seq, x_region, x_cond, x_block, x_loop, x_ret, x_exit, x_skip, e_mov, e_pick, pk_t, pk_f, withH_some, e_box, e_load, e_store, stH_some, e_nil, e_bin, e_eqv, eqH_f, eqH_t, e_un, e_fa, e_ia, ia_eq, nat_eq, natV_nat, e_len, lnH_some, e_extract, ex_0, ex_1, e_call0, e_call1, e_call2, e_call3, pc0_eq, pc1_some, pc2_some, pc3_some, fin_some, g_var0, g_vars, g_loc0, g_locs, g_int, g_bool, g_str, g_sl, s_none, s_zero, s_succ, cl_nil, cl_str, cl_bool, cl_slc, cl_own, evFa, evNil, asEl, evBin, intBin, strBin, evUn, len_nil, len_slc, len_str, clr, List.length_nil, List.length_cons, List.getElem?_cons_zero, List.getElem?_cons_succ, Nat.reduceAdd, Nat.zero_add, Nat.add_zero, Nat.reduceLeDiff, Nat.reduceSub, ↓reduceIte, List.drop_succ_cons, List.drop_zero, List.take_succ_cons, List.take_zero, Bool.false_eq_true, List.nil_append, List.cons_append, Bool.not_true, Bool.not_false, cond_true, cond_false, bne, lv_ret, lv_normal, res1, res2, lv2_some, res_var, res_cell, lvf_v, lvf_slc, res1c, lvo1_some, e_mm, mm_max, mm_min, cl_agg, cl_int, g_agg, e_callv1, cv1_fn, e_slice2, e_clrrow, e_callf2, pick_und, cells_agg, Option.map_some, Option.map_none, bx_some]
/-- a slice of one term, of two, of three -/
theorem isL1 {a : AV} {t : Tm} (h : IsT a t) : IsL (.slc 4 true true [a]) [t] := .slc _ _ _ _ (.cons _ _ _ _ h .nil) (by simp [maxLen])
theorem isL2 {a b : AV} {t u : Tm} (h : IsT a t) (k : IsT b u) : IsL (.slc 4 true true [a, b]) [t, u] := .slc _ _ _ _ (.cons _ _ _ _ h (.cons _ _ _ _ k .nil)) (by simp [maxLen])
theorem isL3 {a b c : AV} {t u v : Tm} (h : IsT a t) (k : IsT b u) (m : IsT c v) : IsL (.slc 4 true true [a, b, c]) [t, u, v] := .slc _ _ _ _ (.cons _ _ _ _ h (.cons _ _ _ _ k (.cons _ _ _ _ m .nil))) (by simp [maxLen])

theorem tmTy : TmTy T 3 9 2 24 22 := ⟨⟨_, rfl, rfl⟩, ⟨_, rfl, rfl⟩, ⟨_, rfl, rfl⟩, ⟨_, _, _, _, _, rfl, rfl, rfl, rfl, rfl, rfl, rfl, rfl⟩, ⟨_, rfl, rfl⟩⟩
theorem term_in {a : AV} (w : WT T 24 a.cells) (e : asEl ti24.agg a.cells = some a) : ∃ p, IsT a p := by
  obtain ⟨x, hx⟩ := tmTy.term w
  rw [agg_cells e]; exact ⟨x, hx⟩
theorem int_in {a : AV} (w : WT T 2 a.cells) (e : asEl ti2.agg a.cells = some a) : ∃ n : Int, a = .v (.int .i64 n) ∧ (Lit.int .i64 n).wf = true := by
  obtain ⟨n, h, hn⟩ := wt_int_of (t := 2) (k := .i64) rfl rfl w
  exact ⟨n, one_cell e h, hn⟩
theorem str_in {a : AV} (w : WT T 9 a.cells) (e : asEl ti9.agg a.cells = some a) : ∃ s : ByteArray, a = .v (.string s) ∧ s.size ≤ maxLen := by
  obtain ⟨n, h, hn⟩ := wt_str_of (t := 9) rfl rfl w
  exact ⟨n, one_cell e h, hn⟩
end Go.AE.YtgcbaefclkfnoaaDoor
end

/-! Compare: numbers, the first that is not 0, terms. -/
section
set_option linter.unusedVariables false
set_option linter.unusedSimpArgs false
namespace Go.AE.YtgcbaefclkfnoaaDoor
open Go Go.AE Go.Proofs.YtgcbaefclkfnoaaDoor

def cmpI (a b : Int) : Int := if decide (a < b) = true then -1 else if decide (a > b) = true then 1 else 0
def cmpS (a b : ByteArray) : Int := Lib.compareBytes a.data.toList b.data.toList
theorem nan_ok (x : Int) : callW F 63 [.v (.int .i64 x)] [] = some (.v (.bool false), []) := by
  refine callW_pure (c := c63) rfl rfl 0 ?_
  have z : (x == x) = true := beq_self_eq_true x
  simp only [c63, start, List.replicate, c63_0, c63_1, z, run_nil, run_cons, stp_plain, stp_guard, put_some, pass_eq, pick_tt, pick_ff, pick_tf, pick_ft, pick_u, reg_some, thn_normal, thn_exit, thn_ret, cnd_t, cnd_f, blk_normal, blk_ret, blk_exit, x_seq, x_region, x_cond, x_block, x_loop, x_ret, x_exit, x_skip, e_mov, e_pick, pk_t, pk_f, withH_some, e_box, e_load, e_store, stH_some, e_nil, e_bin, e_eqv, eqH_f, eqH_t, e_un, e_fa, e_ia, ia_eq, nat_eq, natV_nat, e_len, lnH_some, e_extract, ex_0, ex_1, e_call0, e_call1, e_call2, e_call3, pc0_eq, pc1_some, pc2_some, pc3_some, fin_some, g_var0, g_vars, g_loc0, g_locs, g_int, g_bool, g_str, g_sl, s_none, s_zero, s_succ, cl_nil, cl_str, cl_bool, cl_slc, cl_own, evFa, evNil, asEl, evBin, intBin, strBin, evUn, len_nil, len_slc, len_str, clr, List.length_nil, List.length_cons, List.getElem?_cons_zero, List.getElem?_cons_succ, Nat.reduceAdd, Nat.zero_add, Nat.add_zero, Nat.reduceLeDiff, Nat.reduceSub, ↓reduceIte, List.drop_succ_cons, List.drop_zero, List.take_succ_cons, List.take_zero, Bool.false_eq_true, List.nil_append, List.cons_append, Bool.not_true, Bool.not_false, cond_true, cond_false, bne, lv_ret, lv_normal, res1, res2, lv2_some, res_var, res_cell, lvf_v, lvf_slc, res1c, lvo1_some, e_mm, mm_max, mm_min, cl_agg, cl_int, g_agg, e_callv1, cv1_fn, e_slice2, e_clrrow, e_callf2, pick_und, cells_agg, Option.map_some, Option.map_none, bx_some]
theorem nan2_ok (x : Int) : callW F 65 [.v (.int .i64 x)] [] = some (.v (.bool false), []) := by
  refine callW_pure (c := c65) rfl rfl 0 ?_
  have z : (x == x) = true := beq_self_eq_true x
  simp only [c65, start, List.replicate, c65_0, c65_1, z, run_nil, run_cons, stp_plain, stp_guard, put_some, pass_eq, pick_tt, pick_ff, pick_tf, pick_ft, pick_u, reg_some, thn_normal, thn_exit, thn_ret, cnd_t, cnd_f, blk_normal, blk_ret, blk_exit, x_seq, x_region, x_cond, x_block, x_loop, x_ret, x_exit, x_skip, e_mov, e_pick, pk_t, pk_f, withH_some, e_box, e_load, e_store, stH_some, e_nil, e_bin, e_eqv, eqH_f, eqH_t, e_un, e_fa, e_ia, ia_eq, nat_eq, natV_nat, e_len, lnH_some, e_extract, ex_0, ex_1, e_call0, e_call1, e_call2, e_call3, pc0_eq, pc1_some, pc2_some, pc3_some, fin_some, g_var0, g_vars, g_loc0, g_locs, g_int, g_bool, g_str, g_sl, s_none, s_zero, s_succ, cl_nil, cl_str, cl_bool, cl_slc, cl_own, evFa, evNil, asEl, evBin, intBin, strBin, evUn, len_nil, len_slc, len_str, clr, List.length_nil, List.length_cons, List.getElem?_cons_zero, List.getElem?_cons_succ, Nat.reduceAdd, Nat.zero_add, Nat.add_zero, Nat.reduceLeDiff, Nat.reduceSub, ↓reduceIte, List.drop_succ_cons, List.drop_zero, List.take_succ_cons, List.take_zero, Bool.false_eq_true, List.nil_append, List.cons_append, Bool.not_true, Bool.not_false, cond_true, cond_false, bne, lv_ret, lv_normal, res1, res2, lv2_some, res_var, res_cell, lvf_v, lvf_slc, res1c, lvo1_some, e_mm, mm_max, mm_min, cl_agg, cl_int, g_agg, e_callv1, cv1_fn, e_slice2, e_clrrow, e_callf2, pick_und, cells_agg, Option.map_some, Option.map_none, bx_some]
theorem cmpi_ok (a b : Int) : callW F 45 [.v (.int .i64 a), .v (.int .i64 b)] [] = some (.v (.int .i64 (cmpI a b)), []) := by
  refine callW_pure (c := c45) rfl rfl 0 ?_
  have h1 := nan_ok a
  have h2 := nan_ok b
  unfold cmpI
  cases h3 : decide (a < b) with
  | true => simp only [c45, start, List.replicate, c45_0, c45_1, c45_2, c45_3, c45_7, c45_9, c45_10, h1, h2, h3, snap_int, run_nil, run_cons, stp_plain, stp_guard, put_some, pass_eq, pick_tt, pick_ff, pick_tf, pick_ft, pick_u, reg_some, thn_normal, thn_exit, thn_ret, cnd_t, cnd_f, blk_normal, blk_ret, blk_exit, x_seq, x_region, x_cond, x_block, x_loop, x_ret, x_exit, x_skip, e_mov, e_pick, pk_t, pk_f, withH_some, e_box, e_load, e_store, stH_some, e_nil, e_bin, e_eqv, eqH_f, eqH_t, e_un, e_fa, e_ia, ia_eq, nat_eq, natV_nat, e_len, lnH_some, e_extract, ex_0, ex_1, e_call0, e_call1, e_call2, e_call3, pc0_eq, pc1_some, pc2_some, pc3_some, fin_some, g_var0, g_vars, g_loc0, g_locs, g_int, g_bool, g_str, g_sl, s_none, s_zero, s_succ, cl_nil, cl_str, cl_bool, cl_slc, cl_own, evFa, evNil, asEl, evBin, intBin, strBin, evUn, len_nil, len_slc, len_str, clr, List.length_nil, List.length_cons, List.getElem?_cons_zero, List.getElem?_cons_succ, Nat.reduceAdd, Nat.zero_add, Nat.add_zero, Nat.reduceLeDiff, Nat.reduceSub, ↓reduceIte, List.drop_succ_cons, List.drop_zero, List.take_succ_cons, List.take_zero, Bool.false_eq_true, List.nil_append, List.cons_append, Bool.not_true, Bool.not_false, cond_true, cond_false, bne, lv_ret, lv_normal, res1, res2, lv2_some, res_var, res_cell, lvf_v, lvf_slc, res1c, lvo1_some, e_mm, mm_max, mm_min, cl_agg, cl_int, g_agg, e_callv1, cv1_fn, e_slice2, e_clrrow, e_callf2, pick_und, cells_agg, Option.map_some, Option.map_none, bx_some]
  | false =>
  cases h4 : decide (a > b) with
  | true => simp only [c45, start, List.replicate, c45_0, c45_1, c45_2, c45_3, c45_7, c45_9, c45_11, c45_12, h1, h2, h3, h4, snap_int, run_nil, run_cons, stp_plain, stp_guard, put_some, pass_eq, pick_tt, pick_ff, pick_tf, pick_ft, pick_u, reg_some, thn_normal, thn_exit, thn_ret, cnd_t, cnd_f, blk_normal, blk_ret, blk_exit, x_seq, x_region, x_cond, x_block, x_loop, x_ret, x_exit, x_skip, e_mov, e_pick, pk_t, pk_f, withH_some, e_box, e_load, e_store, stH_some, e_nil, e_bin, e_eqv, eqH_f, eqH_t, e_un, e_fa, e_ia, ia_eq, nat_eq, natV_nat, e_len, lnH_some, e_extract, ex_0, ex_1, e_call0, e_call1, e_call2, e_call3, pc0_eq, pc1_some, pc2_some, pc3_some, fin_some, g_var0, g_vars, g_loc0, g_locs, g_int, g_bool, g_str, g_sl, s_none, s_zero, s_succ, cl_nil, cl_str, cl_bool, cl_slc, cl_own, evFa, evNil, asEl, evBin, intBin, strBin, evUn, len_nil, len_slc, len_str, clr, List.length_nil, List.length_cons, List.getElem?_cons_zero, List.getElem?_cons_succ, Nat.reduceAdd, Nat.zero_add, Nat.add_zero, Nat.reduceLeDiff, Nat.reduceSub, ↓reduceIte, List.drop_succ_cons, List.drop_zero, List.take_succ_cons, List.take_zero, Bool.false_eq_true, List.nil_append, List.cons_append, Bool.not_true, Bool.not_false, cond_true, cond_false, bne, lv_ret, lv_normal, res1, res2, lv2_some, res_var, res_cell, lvf_v, lvf_slc, res1c, lvo1_some, e_mm, mm_max, mm_min, cl_agg, cl_int, g_agg, e_callv1, cv1_fn, e_slice2, e_clrrow, e_callf2, pick_und, cells_agg, Option.map_some, Option.map_none, bx_some]
  | false => simp only [c45, start, List.replicate, c45_0, c45_1, c45_2, c45_3, c45_7, c45_9, c45_11, c45_13, h1, h2, h3, h4, snap_int, run_nil, run_cons, stp_plain, stp_guard, put_some, pass_eq, pick_tt, pick_ff, pick_tf, pick_ft, pick_u, reg_some, thn_normal, thn_exit, thn_ret, cnd_t, cnd_f, blk_normal, blk_ret, blk_exit, x_seq, x_region, x_cond, x_block, x_loop, x_ret, x_exit, x_skip, e_mov, e_pick, pk_t, pk_f, withH_some, e_box, e_load, e_store, stH_some, e_nil, e_bin, e_eqv, eqH_f, eqH_t, e_un, e_fa, e_ia, ia_eq, nat_eq, natV_nat, e_len, lnH_some, e_extract, ex_0, ex_1, e_call0, e_call1, e_call2, e_call3, pc0_eq, pc1_some, pc2_some, pc3_some, fin_some, g_var0, g_vars, g_loc0, g_locs, g_int, g_bool, g_str, g_sl, s_none, s_zero, s_succ, cl_nil, cl_str, cl_bool, cl_slc, cl_own, evFa, evNil, asEl, evBin, intBin, strBin, evUn, len_nil, len_slc, len_str, clr, List.length_nil, List.length_cons, List.getElem?_cons_zero, List.getElem?_cons_succ, Nat.reduceAdd, Nat.zero_add, Nat.add_zero, Nat.reduceLeDiff, Nat.reduceSub, ↓reduceIte, List.drop_succ_cons, List.drop_zero, List.take_succ_cons, List.take_zero, Bool.false_eq_true, List.nil_append, List.cons_append, Bool.not_true, Bool.not_false, cond_true, cond_false, bne, lv_ret, lv_normal, res1, res2, lv2_some, res_var, res_cell, lvf_v, lvf_slc, res1c, lvo1_some, e_mm, mm_max, mm_min, cl_agg, cl_int, g_agg, e_callv1, cv1_fn, e_slice2, e_clrrow, e_callf2, pick_und, cells_agg, Option.map_some, Option.map_none, bx_some]
theorem cmpn_ok (a b : Int) : callW F 48 [.v (.int .i64 a), .v (.int .i64 b)] [] = some (.v (.int .i64 (cmpI a b)), []) := by
  refine callW_pure (c := c48) rfl rfl 0 ?_
  have h1 := nan2_ok a
  have h2 := nan2_ok b
  unfold cmpI
  cases h3 : decide (a < b) with
  | true => simp only [c48, start, List.replicate, c48_0, c48_1, c48_2, c48_3, c48_7, c48_9, c48_10, h1, h2, h3, snap_int, run_nil, run_cons, stp_plain, stp_guard, put_some, pass_eq, pick_tt, pick_ff, pick_tf, pick_ft, pick_u, reg_some, thn_normal, thn_exit, thn_ret, cnd_t, cnd_f, blk_normal, blk_ret, blk_exit, x_seq, x_region, x_cond, x_block, x_loop, x_ret, x_exit, x_skip, e_mov, e_pick, pk_t, pk_f, withH_some, e_box, e_load, e_store, stH_some, e_nil, e_bin, e_eqv, eqH_f, eqH_t, e_un, e_fa, e_ia, ia_eq, nat_eq, natV_nat, e_len, lnH_some, e_extract, ex_0, ex_1, e_call0, e_call1, e_call2, e_call3, pc0_eq, pc1_some, pc2_some, pc3_some, fin_some, g_var0, g_vars, g_loc0, g_locs, g_int, g_bool, g_str, g_sl, s_none, s_zero, s_succ, cl_nil, cl_str, cl_bool, cl_slc, cl_own, evFa, evNil, asEl, evBin, intBin, strBin, evUn, len_nil, len_slc, len_str, clr, List.length_nil, List.length_cons, List.getElem?_cons_zero, List.getElem?_cons_succ, Nat.reduceAdd, Nat.zero_add, Nat.add_zero, Nat.reduceLeDiff, Nat.reduceSub, ↓reduceIte, List.drop_succ_cons, List.drop_zero, List.take_succ_cons, List.take_zero, Bool.false_eq_true, List.nil_append, List.cons_append, Bool.not_true, Bool.not_false, cond_true, cond_false, bne, lv_ret, lv_normal, res1, res2, lv2_some, res_var, res_cell, lvf_v, lvf_slc, res1c, lvo1_some, e_mm, mm_max, mm_min, cl_agg, cl_int, g_agg, e_callv1, cv1_fn, e_slice2, e_clrrow, e_callf2, pick_und, cells_agg, Option.map_some, Option.map_none, bx_some]
  | false =>
  cases h4 : decide (a > b) with
  | true => simp only [c48, start, List.replicate, c48_0, c48_1, c48_2, c48_3, c48_7, c48_9, c48_11, c48_12, h1, h2, h3, h4, snap_int, run_nil, run_cons, stp_plain, stp_guard, put_some, pass_eq, pick_tt, pick_ff, pick_tf, pick_ft, pick_u, reg_some, thn_normal, thn_exit, thn_ret, cnd_t, cnd_f, blk_normal, blk_ret, blk_exit, x_seq, x_region, x_cond, x_block, x_loop, x_ret, x_exit, x_skip, e_mov, e_pick, pk_t, pk_f, withH_some, e_box, e_load, e_store, stH_some, e_nil, e_bin, e_eqv, eqH_f, eqH_t, e_un, e_fa, e_ia, ia_eq, nat_eq, natV_nat, e_len, lnH_some, e_extract, ex_0, ex_1, e_call0, e_call1, e_call2, e_call3, pc0_eq, pc1_some, pc2_some, pc3_some, fin_some, g_var0, g_vars, g_loc0, g_locs, g_int, g_bool, g_str, g_sl, s_none, s_zero, s_succ, cl_nil, cl_str, cl_bool, cl_slc, cl_own, evFa, evNil, asEl, evBin, intBin, strBin, evUn, len_nil, len_slc, len_str, clr, List.length_nil, List.length_cons, List.getElem?_cons_zero, List.getElem?_cons_succ, Nat.reduceAdd, Nat.zero_add, Nat.add_zero, Nat.reduceLeDiff, Nat.reduceSub, ↓reduceIte, List.drop_succ_cons, List.drop_zero, List.take_succ_cons, List.take_zero, Bool.false_eq_true, List.nil_append, List.cons_append, Bool.not_true, Bool.not_false, cond_true, cond_false, bne, lv_ret, lv_normal, res1, res2, lv2_some, res_var, res_cell, lvf_v, lvf_slc, res1c, lvo1_some, e_mm, mm_max, mm_min, cl_agg, cl_int, g_agg, e_callv1, cv1_fn, e_slice2, e_clrrow, e_callf2, pick_und, cells_agg, Option.map_some, Option.map_none, bx_some]
  | false => simp only [c48, start, List.replicate, c48_0, c48_1, c48_2, c48_3, c48_7, c48_9, c48_11, c48_13, h1, h2, h3, h4, snap_int, run_nil, run_cons, stp_plain, stp_guard, put_some, pass_eq, pick_tt, pick_ff, pick_tf, pick_ft, pick_u, reg_some, thn_normal, thn_exit, thn_ret, cnd_t, cnd_f, blk_normal, blk_ret, blk_exit, x_seq, x_region, x_cond, x_block, x_loop, x_ret, x_exit, x_skip, e_mov, e_pick, pk_t, pk_f, withH_some, e_box, e_load, e_store, stH_some, e_nil, e_bin, e_eqv, eqH_f, eqH_t, e_un, e_fa, e_ia, ia_eq, nat_eq, natV_nat, e_len, lnH_some, e_extract, ex_0, ex_1, e_call0, e_call1, e_call2, e_call3, pc0_eq, pc1_some, pc2_some, pc3_some, fin_some, g_var0, g_vars, g_loc0, g_locs, g_int, g_bool, g_str, g_sl, s_none, s_zero, s_succ, cl_nil, cl_str, cl_bool, cl_slc, cl_own, evFa, evNil, asEl, evBin, intBin, strBin, evUn, len_nil, len_slc, len_str, clr, List.length_nil, List.length_cons, List.getElem?_cons_zero, List.getElem?_cons_succ, Nat.reduceAdd, Nat.zero_add, Nat.add_zero, Nat.reduceLeDiff, Nat.reduceSub, ↓reduceIte, List.drop_succ_cons, List.drop_zero, List.take_succ_cons, List.take_zero, Bool.false_eq_true, List.nil_append, List.cons_append, Bool.not_true, Bool.not_false, cond_true, cond_false, bne, lv_ret, lv_normal, res1, res2, lv2_some, res_var, res_cell, lvf_v, lvf_slc, res1c, lvo1_some, e_mm, mm_max, mm_min, cl_agg, cl_int, g_agg, e_callv1, cv1_fn, e_slice2, e_clrrow, e_callf2, pick_und, cells_agg, Option.map_some, Option.map_none, bx_some]
def ordK (k : Int) : Int := if (k == 1) = true then -2 else if (k == 3) = true then -1 else if (k == 2) = true then 0 else 1
theorem ord_ok (k : Int) : callW F 46 [.v (.int .i64 k)] [] = some (.v (.int .i64 (ordK k)), []) := by
  refine callW_pure (c := c46) rfl rfl 0 ?_
  unfold ordK
  cases h1 : (k == 1) with
  | true => simp only [c46, start, List.replicate, c46_0, c46_1, c46_2, c46_3, h1, run_nil, run_cons, stp_plain, stp_guard, put_some, pass_eq, pick_tt, pick_ff, pick_tf, pick_ft, pick_u, reg_some, thn_normal, thn_exit, thn_ret, cnd_t, cnd_f, blk_normal, blk_ret, blk_exit, x_seq, x_region, x_cond, x_block, x_loop, x_ret, x_exit, x_skip, e_mov, e_pick, pk_t, pk_f, withH_some, e_box, e_load, e_store, stH_some, e_nil, e_bin, e_eqv, eqH_f, eqH_t, e_un, e_fa, e_ia, ia_eq, nat_eq, natV_nat, e_len, lnH_some, e_extract, ex_0, ex_1, e_call0, e_call1, e_call2, e_call3, pc0_eq, pc1_some, pc2_some, pc3_some, fin_some, g_var0, g_vars, g_loc0, g_locs, g_int, g_bool, g_str, g_sl, s_none, s_zero, s_succ, cl_nil, cl_str, cl_bool, cl_slc, cl_own, evFa, evNil, asEl, evBin, intBin, strBin, evUn, len_nil, len_slc, len_str, clr, List.length_nil, List.length_cons, List.getElem?_cons_zero, List.getElem?_cons_succ, Nat.reduceAdd, Nat.zero_add, Nat.add_zero, Nat.reduceLeDiff, Nat.reduceSub, ↓reduceIte, List.drop_succ_cons, List.drop_zero, List.take_succ_cons, List.take_zero, Bool.false_eq_true, List.nil_append, List.cons_append, Bool.not_true, Bool.not_false, cond_true, cond_false, bne, lv_ret, lv_normal, res1, res2, lv2_some, res_var, res_cell, lvf_v, lvf_slc, res1c, lvo1_some, e_mm, mm_max, mm_min, cl_agg, cl_int, g_agg, e_callv1, cv1_fn, e_slice2, e_clrrow, e_callf2, pick_und, cells_agg, Option.map_some, Option.map_none, bx_some]
  | false =>
  cases h2 : (k == 3) with
  | true => simp only [c46, start, List.replicate, c46_0, c46_1, c46_2, c46_4, c46_5, h1, h2, run_nil, run_cons, stp_plain, stp_guard, put_some, pass_eq, pick_tt, pick_ff, pick_tf, pick_ft, pick_u, reg_some, thn_normal, thn_exit, thn_ret, cnd_t, cnd_f, blk_normal, blk_ret, blk_exit, x_seq, x_region, x_cond, x_block, x_loop, x_ret, x_exit, x_skip, e_mov, e_pick, pk_t, pk_f, withH_some, e_box, e_load, e_store, stH_some, e_nil, e_bin, e_eqv, eqH_f, eqH_t, e_un, e_fa, e_ia, ia_eq, nat_eq, natV_nat, e_len, lnH_some, e_extract, ex_0, ex_1, e_call0, e_call1, e_call2, e_call3, pc0_eq, pc1_some, pc2_some, pc3_some, fin_some, g_var0, g_vars, g_loc0, g_locs, g_int, g_bool, g_str, g_sl, s_none, s_zero, s_succ, cl_nil, cl_str, cl_bool, cl_slc, cl_own, evFa, evNil, asEl, evBin, intBin, strBin, evUn, len_nil, len_slc, len_str, clr, List.length_nil, List.length_cons, List.getElem?_cons_zero, List.getElem?_cons_succ, Nat.reduceAdd, Nat.zero_add, Nat.add_zero, Nat.reduceLeDiff, Nat.reduceSub, ↓reduceIte, List.drop_succ_cons, List.drop_zero, List.take_succ_cons, List.take_zero, Bool.false_eq_true, List.nil_append, List.cons_append, Bool.not_true, Bool.not_false, cond_true, cond_false, bne, lv_ret, lv_normal, res1, res2, lv2_some, res_var, res_cell, lvf_v, lvf_slc, res1c, lvo1_some, e_mm, mm_max, mm_min, cl_agg, cl_int, g_agg, e_callv1, cv1_fn, e_slice2, e_clrrow, e_callf2, pick_und, cells_agg, Option.map_some, Option.map_none, bx_some]
  | false =>
  cases h3 : (k == 2) with
  | true => simp only [c46, start, List.replicate, c46_0, c46_1, c46_2, c46_4, c46_6, c46_7, h1, h2, h3, run_nil, run_cons, stp_plain, stp_guard, put_some, pass_eq, pick_tt, pick_ff, pick_tf, pick_ft, pick_u, reg_some, thn_normal, thn_exit, thn_ret, cnd_t, cnd_f, blk_normal, blk_ret, blk_exit, x_seq, x_region, x_cond, x_block, x_loop, x_ret, x_exit, x_skip, e_mov, e_pick, pk_t, pk_f, withH_some, e_box, e_load, e_store, stH_some, e_nil, e_bin, e_eqv, eqH_f, eqH_t, e_un, e_fa, e_ia, ia_eq, nat_eq, natV_nat, e_len, lnH_some, e_extract, ex_0, ex_1, e_call0, e_call1, e_call2, e_call3, pc0_eq, pc1_some, pc2_some, pc3_some, fin_some, g_var0, g_vars, g_loc0, g_locs, g_int, g_bool, g_str, g_sl, s_none, s_zero, s_succ, cl_nil, cl_str, cl_bool, cl_slc, cl_own, evFa, evNil, asEl, evBin, intBin, strBin, evUn, len_nil, len_slc, len_str, clr, List.length_nil, List.length_cons, List.getElem?_cons_zero, List.getElem?_cons_succ, Nat.reduceAdd, Nat.zero_add, Nat.add_zero, Nat.reduceLeDiff, Nat.reduceSub, ↓reduceIte, List.drop_succ_cons, List.drop_zero, List.take_succ_cons, List.take_zero, Bool.false_eq_true, List.nil_append, List.cons_append, Bool.not_true, Bool.not_false, cond_true, cond_false, bne, lv_ret, lv_normal, res1, res2, lv2_some, res_var, res_cell, lvf_v, lvf_slc, res1c, lvo1_some, e_mm, mm_max, mm_min, cl_agg, cl_int, g_agg, e_callv1, cv1_fn, e_slice2, e_clrrow, e_callf2, pick_und, cells_agg, Option.map_some, Option.map_none, bx_some]
  | false => simp only [c46, start, List.replicate, c46_0, c46_1, c46_2, c46_4, c46_6, c46_8, h1, h2, h3, run_nil, run_cons, stp_plain, stp_guard, put_some, pass_eq, pick_tt, pick_ff, pick_tf, pick_ft, pick_u, reg_some, thn_normal, thn_exit, thn_ret, cnd_t, cnd_f, blk_normal, blk_ret, blk_exit, x_seq, x_region, x_cond, x_block, x_loop, x_ret, x_exit, x_skip, e_mov, e_pick, pk_t, pk_f, withH_some, e_box, e_load, e_store, stH_some, e_nil, e_bin, e_eqv, eqH_f, eqH_t, e_un, e_fa, e_ia, ia_eq, nat_eq, natV_nat, e_len, lnH_some, e_extract, ex_0, ex_1, e_call0, e_call1, e_call2, e_call3, pc0_eq, pc1_some, pc2_some, pc3_some, fin_some, g_var0, g_vars, g_loc0, g_locs, g_int, g_bool, g_str, g_sl, s_none, s_zero, s_succ, cl_nil, cl_str, cl_bool, cl_slc, cl_own, evFa, evNil, asEl, evBin, intBin, strBin, evUn, len_nil, len_slc, len_str, clr, List.length_nil, List.length_cons, List.getElem?_cons_zero, List.getElem?_cons_succ, Nat.reduceAdd, Nat.zero_add, Nat.add_zero, Nat.reduceLeDiff, Nat.reduceSub, ↓reduceIte, List.drop_succ_cons, List.drop_zero, List.take_succ_cons, List.take_zero, Bool.false_eq_true, List.nil_append, List.cons_append, Bool.not_true, Bool.not_false, cond_true, cond_false, bne, lv_ret, lv_normal, res1, res2, lv2_some, res_var, res_cell, lvf_v, lvf_slc, res1c, lvo1_some, e_mm, mm_max, mm_min, cl_agg, cl_int, g_agg, e_callv1, cv1_fn, e_slice2, e_clrrow, e_callf2, pick_und, cells_agg, Option.map_some, Option.map_none, bx_some]

/-- the first that is not 0 -/
def orL : List Int → Int
  | [] => 0
  | a :: l => if (a == 0) = true then orL l else a
def V44 (c : AV) (n i : Int) (x1 x3 x7 x8 : AV) : List AV := [.junk, x1, .v (.int .i64 0), x3, c, .v (.int .i64 n), .v (.int .i64 i), x7, x8]
def K44 : List Bool := [false, false, true, false, true, true, true, false, false]
theorem or_ok (l : List Int) (hm : l.length ≤ 1000) : callW F 44 [.slc 1 true true (l.map fun n => .v (.int .i64 n))] [] = some (.v (.int .i64 (orL l)), []) := by
  have hs : Sl 1 (.slc 1 true true (l.map fun n => AV.v (.int .i64 n))) (l.map fun n => .v (.int .i64 n)) := .slc _ _ _
  generalize hc : AV.slc 1 true true (l.map fun n => AV.v (.int .i64 n)) = c at hs ⊢
  refine callW_pure (c := c44) rfl rfl (l.length + 1) ?_
  have q1 := fun h : List AO => hs.len h
  rw [List.length_map] at q1
  obtain ⟨e, v', h', g1, g2, g3⟩ := loop_rule0 (call := callW F) (K := l.length + 1) (b := c44_8) (keep := K44)
    (fun i v h => v = V44 c l.length i .junk .junk .junk .junk ∧ orL (l.drop i) = orL l)
    (fun e v h => (e = .exit 0 ∧ orL l = 0 ∧ ∃ x3 x8, v = V44 c l.length l.length .junk x3 (.v (.bool false)) x8) ∨ (e = .ret ∧ getO v [] (.var 1) = .v (.int .i64 (orL l))))
    l.length (m := l.length + 1) (v := [c, .v (.int .i64 0), .v (.int .i64 0), .v undef, c, .v (.int .i64 l.length), .v (.int .i64 0), .v undef, .v undef]) (h := []) (by omega) ⟨rfl, rfl⟩ (by
      rintro i v h hi ⟨rfl, hR⟩
      by_cases hil : i < l.length
      · have hlt := lt_t hil
        have he : (l.map fun n => AV.v (.int .i64 n))[i]? = some (.v (.int .i64 l[i])) := by simp [hil]
        have q2 := fun h : List AO => hs.ia he h
        have q3 : ∀ (h : List AO) (n : Int), evLoad h false 1 (.ip (AV.v (.int .i64 n)).cells) = some (.v (.int .i64 n)) := fun _ _ => rfl
        have hdr : l.drop i = l[i] :: l.drop (i + 1) := List.drop_eq_getElem_cons hil
        have hw := wrap_succ hil (show l.length ≤ maxLen by have : maxLen = 9223372036854775807 := rfl; omega)
        rw [hdr, orL] at hR
        cases hb : (l[i] == 0) with
        | true =>
          rw [if_pos hb] at hR
          refine ⟨.normal, V44 c l.length ((i + 1 : Nat) : Int) .junk (.v (.int .i64 l[i])) (.v (.bool true)) (.v (.bool false)), h, ?_, hil, rfl, hR⟩
          simp only [V44, c44_8, c44_3, c44_4, c44_5, c44_7, hlt, q2, q3, hb, hw, run_nil, run_cons, stp_plain, stp_guard, put_some, pass_eq, pick_tt, pick_ff, pick_tf, pick_ft, pick_u, reg_some, thn_normal, thn_exit, thn_ret, cnd_t, cnd_f, blk_normal, blk_ret, blk_exit, x_seq, x_region, x_cond, x_block, x_loop, x_ret, x_exit, x_skip, e_mov, e_pick, pk_t, pk_f, withH_some, e_box, e_load, e_store, stH_some, e_nil, e_bin, e_eqv, eqH_f, eqH_t, e_un, e_fa, e_ia, ia_eq, nat_eq, natV_nat, e_len, lnH_some, e_extract, ex_0, ex_1, e_call0, e_call1, e_call2, e_call3, pc0_eq, pc1_some, pc2_some, pc3_some, fin_some, g_var0, g_vars, g_loc0, g_locs, g_int, g_bool, g_str, g_sl, s_none, s_zero, s_succ, cl_nil, cl_str, cl_bool, cl_slc, cl_own, evFa, evNil, asEl, evBin, intBin, strBin, evUn, len_nil, len_slc, len_str, clr, List.length_nil, List.length_cons, List.getElem?_cons_zero, List.getElem?_cons_succ, Nat.reduceAdd, Nat.zero_add, Nat.add_zero, Nat.reduceLeDiff, Nat.reduceSub, ↓reduceIte, List.drop_succ_cons, List.drop_zero, List.take_succ_cons, List.take_zero, Bool.false_eq_true, List.nil_append, List.cons_append, Bool.not_true, Bool.not_false, cond_true, cond_false, bne, lv_ret, lv_normal, res1, res2, lv2_some, res_var, res_cell, lvf_v, lvf_slc, res1c, lvo1_some, e_mm, mm_max, mm_min, cl_agg, cl_int, g_agg, e_callv1, cv1_fn, e_slice2, e_clrrow, e_callf2, pick_und, cells_agg, Option.map_some, Option.map_none, bx_some]
        | false =>
          rw [if_neg (by rw [hb]; simp)] at hR
          refine ⟨.ret, V44 c l.length i (.v (.int .i64 l[i])) (.v (.int .i64 l[i])) (.v (.bool true)) (.v (.bool true)), h, ?_, .inr ⟨rfl, by rw [← hR]; rfl⟩⟩
          simp only [V44, c44_8, c44_3, c44_4, c44_5, c44_6, hlt, q2, q3, hb, run_nil, run_cons, stp_plain, stp_guard, put_some, pass_eq, pick_tt, pick_ff, pick_tf, pick_ft, pick_u, reg_some, thn_normal, thn_exit, thn_ret, cnd_t, cnd_f, blk_normal, blk_ret, blk_exit, x_seq, x_region, x_cond, x_block, x_loop, x_ret, x_exit, x_skip, e_mov, e_pick, pk_t, pk_f, withH_some, e_box, e_load, e_store, stH_some, e_nil, e_bin, e_eqv, eqH_f, eqH_t, e_un, e_fa, e_ia, ia_eq, nat_eq, natV_nat, e_len, lnH_some, e_extract, ex_0, ex_1, e_call0, e_call1, e_call2, e_call3, pc0_eq, pc1_some, pc2_some, pc3_some, fin_some, g_var0, g_vars, g_loc0, g_locs, g_int, g_bool, g_str, g_sl, s_none, s_zero, s_succ, cl_nil, cl_str, cl_bool, cl_slc, cl_own, evFa, evNil, asEl, evBin, intBin, strBin, evUn, len_nil, len_slc, len_str, clr, List.length_nil, List.length_cons, List.getElem?_cons_zero, List.getElem?_cons_succ, Nat.reduceAdd, Nat.zero_add, Nat.add_zero, Nat.reduceLeDiff, Nat.reduceSub, ↓reduceIte, List.drop_succ_cons, List.drop_zero, List.take_succ_cons, List.take_zero, Bool.false_eq_true, List.nil_append, List.cons_append, Bool.not_true, Bool.not_false, cond_true, cond_false, bne, lv_ret, lv_normal, res1, res2, lv2_some, res_var, res_cell, lvf_v, lvf_slc, res1c, lvo1_some, e_mm, mm_max, mm_min, cl_agg, cl_int, g_agg, e_callv1, cv1_fn, e_slice2, e_clrrow, e_callf2, pick_und, cells_agg, Option.map_some, Option.map_none, bx_some]
      · have hie : i = l.length := by omega
        subst hie
        have hlt := lt_f (n := l.length)
        rw [List.drop_of_length_le (Nat.le_refl _), orL] at hR
        refine ⟨.exit 0, V44 c l.length l.length .junk .junk (.v (.bool false)) .junk, h, ?_, .inl ⟨rfl, hR.symm, _, _, rfl⟩⟩
        simp only [V44, c44_8, c44_3, hlt, run_nil, run_cons, stp_plain, stp_guard, put_some, pass_eq, pick_tt, pick_ff, pick_tf, pick_ft, pick_u, reg_some, thn_normal, thn_exit, thn_ret, cnd_t, cnd_f, blk_normal, blk_ret, blk_exit, x_seq, x_region, x_cond, x_block, x_loop, x_ret, x_exit, x_skip, e_mov, e_pick, pk_t, pk_f, withH_some, e_box, e_load, e_store, stH_some, e_nil, e_bin, e_eqv, eqH_f, eqH_t, e_un, e_fa, e_ia, ia_eq, nat_eq, natV_nat, e_len, lnH_some, e_extract, ex_0, ex_1, e_call0, e_call1, e_call2, e_call3, pc0_eq, pc1_some, pc2_some, pc3_some, fin_some, g_var0, g_vars, g_loc0, g_locs, g_int, g_bool, g_str, g_sl, s_none, s_zero, s_succ, cl_nil, cl_str, cl_bool, cl_slc, cl_own, evFa, evNil, asEl, evBin, intBin, strBin, evUn, len_nil, len_slc, len_str, clr, List.length_nil, List.length_cons, List.getElem?_cons_zero, List.getElem?_cons_succ, Nat.reduceAdd, Nat.zero_add, Nat.add_zero, Nat.reduceLeDiff, Nat.reduceSub, ↓reduceIte, List.drop_succ_cons, List.drop_zero, List.take_succ_cons, List.take_zero, Bool.false_eq_true, List.nil_append, List.cons_append, Bool.not_true, Bool.not_false, cond_true, cond_false, bne, lv_ret, lv_normal, res1, res2, lv2_some, res_var, res_cell, lvf_v, lvf_slc, res1c, lvo1_some, e_mm, mm_max, mm_min, cl_agg, cl_int, g_agg, e_callv1, cv1_fn, e_slice2, e_clrrow, e_callf2, pick_und, cells_agg, Option.map_some, Option.map_none, bx_some])
  rw [show c44.body = (.seq (.region [] [] c44_0) (.seq (.region [] [] c44_1) (.seq (.seq (.region [] [] c44_2) (.block 0 (.loop K44 [] c44_8))) (.seq (.region [] [] c44_9) .ret)))) from rfl, show c44.res = [.var 1] from rfl]
  rw [show start c44 [c] = [c, .v undef, .v undef, .v undef, .v undef, .v undef, .v undef, .v undef, .v undef] from rfl]
  rcases g3 with ⟨rfl, h1, x3, x8, rfl⟩ | ⟨rfl, h2⟩
  · rw [h1]
    generalize c44_8 = bb at g1 ⊢
    simp only [V44, c44_0, c44_1, c44_2, c44_9, q1, g1, run_nil, run_cons, stp_plain, stp_guard, put_some, pass_eq, pick_tt, pick_ff, pick_tf, pick_ft, pick_u, reg_some, thn_normal, thn_exit, thn_ret, cnd_t, cnd_f, blk_normal, blk_ret, blk_exit, x_seq, x_region, x_cond, x_block, x_loop, x_ret, x_exit, x_skip, e_mov, e_pick, pk_t, pk_f, withH_some, e_box, e_load, e_store, stH_some, e_nil, e_bin, e_eqv, eqH_f, eqH_t, e_un, e_fa, e_ia, ia_eq, nat_eq, natV_nat, e_len, lnH_some, e_extract, ex_0, ex_1, e_call0, e_call1, e_call2, e_call3, pc0_eq, pc1_some, pc2_some, pc3_some, fin_some, g_var0, g_vars, g_loc0, g_locs, g_int, g_bool, g_str, g_sl, s_none, s_zero, s_succ, cl_nil, cl_str, cl_bool, cl_slc, cl_own, evFa, evNil, asEl, evBin, intBin, strBin, evUn, len_nil, len_slc, len_str, clr, List.length_nil, List.length_cons, List.getElem?_cons_zero, List.getElem?_cons_succ, Nat.reduceAdd, Nat.zero_add, Nat.add_zero, Nat.reduceLeDiff, Nat.reduceSub, ↓reduceIte, List.drop_succ_cons, List.drop_zero, List.take_succ_cons, List.take_zero, Bool.false_eq_true, List.nil_append, List.cons_append, Bool.not_true, Bool.not_false, cond_true, cond_false, bne, lv_ret, lv_normal, res1, res2, lv2_some, res_var, res_cell, lvf_v, lvf_slc, res1c, lvo1_some, e_mm, mm_max, mm_min, cl_agg, cl_int, g_agg, e_callv1, cv1_fn, e_slice2, e_clrrow, e_callf2, pick_und, cells_agg, Option.map_some, Option.map_none, bx_some]
  · generalize c44_8 = bb at g1 ⊢
    simp only [V44, c44_0, c44_1, c44_2, c44_9, q1, g1, h2, run_nil, run_cons, stp_plain, stp_guard, put_some, pass_eq, pick_tt, pick_ff, pick_tf, pick_ft, pick_u, reg_some, thn_normal, thn_exit, thn_ret, cnd_t, cnd_f, blk_normal, blk_ret, blk_exit, x_seq, x_region, x_cond, x_block, x_loop, x_ret, x_exit, x_skip, e_mov, e_pick, pk_t, pk_f, withH_some, e_box, e_load, e_store, stH_some, e_nil, e_bin, e_eqv, eqH_f, eqH_t, e_un, e_fa, e_ia, ia_eq, nat_eq, natV_nat, e_len, lnH_some, e_extract, ex_0, ex_1, e_call0, e_call1, e_call2, e_call3, pc0_eq, pc1_some, pc2_some, pc3_some, fin_some, g_var0, g_vars, g_loc0, g_locs, g_int, g_bool, g_str, g_sl, s_none, s_zero, s_succ, cl_nil, cl_str, cl_bool, cl_slc, cl_own, evFa, evNil, asEl, evBin, intBin, strBin, evUn, len_nil, len_slc, len_str, clr, List.length_nil, List.length_cons, List.getElem?_cons_zero, List.getElem?_cons_succ, Nat.reduceAdd, Nat.zero_add, Nat.add_zero, Nat.reduceLeDiff, Nat.reduceSub, ↓reduceIte, List.drop_succ_cons, List.drop_zero, List.take_succ_cons, List.take_zero, Bool.false_eq_true, List.nil_append, List.cons_append, Bool.not_true, Bool.not_false, cond_true, cond_false, bne, lv_ret, lv_normal, res1, res2, lv2_some, res_var, res_cell, lvf_v, lvf_slc, res1c, lvo1_some, e_mm, mm_max, mm_min, cl_agg, cl_int, g_agg, e_callv1, cv1_fn, e_slice2, e_clrrow, e_callf2, pick_und, cells_agg, Option.map_some, Option.map_none, bx_some]

/-! ### Terms -/
def headC (k : Int) (s : ByteArray) (n : Int) (l : List Tm) (k' : Int) (s' : ByteArray) (n' : Int) (l' : List Tm) : Int := orL [cmpI (ordK k) (ordK k'), cmpI l.length l'.length, cmpS s s', cmpI n n']
mutual
def compT : Tm → Tm → Int
  | .mk k s n l, .mk k' s' n' l' => if (headC k s n l k' s' n' l' == 0) = true then compL l l' else headC k s n l k' s' n' l'
def compL : List Tm → List Tm → Int
  | [], _ => 0
  | _, [] => 0
  | a :: l, b :: l' => if (compT a b == 0) = true then compL l l' else compT a b
end
theorem headC_len {k n k' n' : Int} {s s' : ByteArray} {l l' : List Tm} (h : headC k s n l k' s' n' l' = 0) : l.length = l'.length := by
  simp only [headC, orL, beq_iff_eq] at h
  split at h
  · split at h
    · rename_i h1
      unfold cmpI at h1
      simp only [decide_eq_true_eq] at h1
      split at h1
      · omega
      · split at h1 <;> omega
    · contradiction
  · contradiction
section
variable {k n k' n' : Int} {s s' : ByteArray} {c c' : AV} {G : List AO}
theorem tc0 : evLoad (tb k n s c :: tb k' n' s' c' :: G) false 1 (.ptr 1 0) = some (.v (.int .i64 k')) := rfl
theorem tc1 : evLoad (tb k n s c :: tb k' n' s' c' :: G) false 1 (.ptr 1 1) = some (.v (.string s')) := rfl
theorem tc2 : evLoad (tb k n s c :: tb k' n' s' c' :: G) false 1 (.ptr 1 2) = some (.v (.int .i64 n')) := rfl
theorem tc3 : evLoad (tb k n s c :: tb k' n' s' c' :: G) false 1 (.ptr 1 3) = some c' := rfl
theorem tcx : bx [tb k n s c] 24 (some [.v (.int .i64 k'), .v (.string s'), .v (.int .i64 n'), c']) = some (.ptr 1 0, [tb k n s c, tb k' n' s' c']) := rfl
end
def bs4 (h : List AO) (a b c d : AV) : Option (AV × List AO) := (evElems [] [a, b, c, d] h 1 (List.replicate 4 (zeroEl [.int .i64 0])) [(0, .loc 0), (1, .loc 1), (2, .loc 2), (3, .loc 3)]).map fun l => (.slc 1 true true l, h)
theorem e_bslice4 {call : CallF} {vars env : List AV} {h : List AO} {x0 x1 x2 x3 : Opd} :
    evOp call vars env h (.bslice 1 [(.int .i64 0)] 4 [(0, x0), (1, x1), (2, x2), (3, x3)]) = bs4 h (getO vars env x0) (getO vars env x1) (getO vars env x2) (getO vars env x3) := by
  simp only [evOp, bs4, evElems, getO]
  rfl
theorem bs4_int {h : List AO} {a b c d : Int} : bs4 h (.v (.int .i64 a)) (.v (.int .i64 b)) (.v (.int .i64 c)) (.v (.int .i64 d)) = some (.slc 1 true true [.v (.int .i64 a), .v (.int .i64 b), .v (.int .i64 c), .v (.int .i64 d)], h) := rfl
def V19 (x i : Int) (x7 : AV) : List AV := [.junk, .junk, .ptr 0 0, .ptr 1 0, .junk, .v (.int .i64 x), .v (.int .i64 i), x7]
def K19 : List Bool := [false, false, true, true, false, true, true, false]
theorem comp_ok : ∀ (N : Nat) (t u : Tm) (a b : AV), SizeOf.sizeOf t < N → IsT a t → IsT b u → callW F 19 [a, b] [] = some (.v (.int .i64 (compT t u)), []) := by
  intro N
  induction N with
  | zero => intro t u a b h; omega
  | succ N ih =>
    intro t u a b hN ha hb
    cases ha with
    | mk k s n c l hc =>
    cases hb with
    | mk k' s' n' c' l' hc' =>
    obtain ⟨es, hs, hes, hm⟩ := hc.sl
    obtain ⟨es', hs', hes', hm'⟩ := hc'.sl
    have hll := hes.length
    have hll' := hes'.length
    refine callW_pure (c := c19) rfl rfl (l.length + 1) ?_
    have q1 := fun h : List AO => hs.len h
    have q1' := fun h : List AO => hs'.len h
    rw [hll] at q1
    rw [hll'] at q1'
    have o1 := ord_ok k
    have o2 := ord_ok k'
    have p1 := cmpi_ok (ordK k) (ordK k')
    have p2 := cmpi_ok l.length l'.length
    have p3 : callW F 47 [.v (.string s), .v (.string s')] [] = some (.v (.int .i64 (cmpS s s')), []) := callW_oracle (g := compareG) rfl rfl
    have p4 := cmpn_ok n n'
    have p5 := or_ok [cmpI (ordK k) (ordK k'), cmpI l.length l'.length, cmpS s s', cmpI n n'] (by simp)
    rw [show orL [cmpI (ordK k) (ordK k'), cmpI l.length l'.length, cmpS s s', cmpI n n'] = headC k s n l k' s' n' l' from rfl] at p5
    simp only [List.map_cons, List.map_nil] at p5
    rw [compT]
    have hlen : headC k s n l k' s' n' l' = 0 → l.length = l'.length := headC_len
    generalize headC k s n l k' s' n' l' = c0 at p5 hlen ⊢
    obtain ⟨e, v', h', g1, g2, g3⟩ := loop_rule0 (call := callW F) (K := l.length + 1) (b := c19_6) (keep := K19)
      (fun i v h => ∃ x, v = V19 x i .junk ∧ h = [tb k n s c, tb k' n' s' c'] ∧ (x = 0 → l.length = l'.length) ∧ (if (x == 0) = true then compL (l.drop i) (l'.drop i) else x) = (if (c0 == 0) = true then compL l l' else c0))
      (fun e v h => e = .exit 0 ∧ h = [tb k n s c, tb k' n' s' c'] ∧ ∃ (i : Int) (x7 : AV), v = V19 (if (c0 == 0) = true then compL l l' else c0) i x7)
      l.length (m := l.length + 1) (v := [.agg [.v (.int .i64 k), .v (.string s), .v (.int .i64 n), c], .agg [.v (.int .i64 k'), .v (.string s'), .v (.int .i64 n'), c'], .ptr 0 0, .ptr 1 0, .v (.int .i64 0), .v (.int .i64 c0), .v (.int .i64 0), .v undef]) (h := [tb k n s c, tb k' n' s' c']) (by omega) ⟨c0, rfl, rfl, hlen, rfl⟩ (by
        rintro i v h hi ⟨x, rfl, rfl, hxl, hR⟩
        cases hx : (x == 0) with
        | false =>
          rw [hx] at hR
          refine ⟨.exit 0, V19 x i (.v (.bool false)), _, ?_, rfl, rfl, i, _, by rw [← hR]; rfl⟩
          simp only [V19, c19_6, c19_3, hx, run_nil, run_cons, stp_plain, stp_guard, put_some, pass_eq, pick_tt, pick_ff, pick_tf, pick_ft, pick_u, reg_some, thn_normal, thn_exit, thn_ret, cnd_t, cnd_f, blk_normal, blk_ret, blk_exit, x_seq, x_region, x_cond, x_block, x_loop, x_ret, x_exit, x_skip, e_mov, e_pick, pk_t, pk_f, withH_some, e_box, e_load, e_store, stH_some, e_nil, e_bin, e_eqv, eqH_f, eqH_t, e_un, e_fa, e_ia, ia_eq, nat_eq, natV_nat, e_len, lnH_some, e_extract, ex_0, ex_1, e_call0, e_call1, e_call2, e_call3, pc0_eq, pc1_some, pc2_some, pc3_some, fin_some, g_var0, g_vars, g_loc0, g_locs, g_int, g_bool, g_str, g_sl, s_none, s_zero, s_succ, cl_nil, cl_str, cl_bool, cl_slc, cl_own, evFa, evNil, asEl, evBin, intBin, strBin, evUn, len_nil, len_slc, len_str, clr, List.length_nil, List.length_cons, List.getElem?_cons_zero, List.getElem?_cons_succ, Nat.reduceAdd, Nat.zero_add, Nat.add_zero, Nat.reduceLeDiff, Nat.reduceSub, ↓reduceIte, List.drop_succ_cons, List.drop_zero, List.take_succ_cons, List.take_zero, Bool.false_eq_true, List.nil_append, List.cons_append, Bool.not_true, Bool.not_false, cond_true, cond_false, bne, lv_ret, lv_normal, res1, res2, lv2_some, res_var, res_cell, lvf_v, lvf_slc, res1c, lvo1_some, e_mm, mm_max, mm_min, cl_agg, cl_int, g_agg, e_callv1, cv1_fn, e_slice2, e_clrrow, e_callf2, pick_und, cells_agg, Option.map_some, Option.map_none, bx_some]
        | true =>
          rw [hx, if_pos rfl] at hR
          have hx0 : x = 0 := by simpa using hx
          have hleq := hxl hx0
          by_cases hil : i < l.length
          · have hil' : i < l'.length := by omega
            have hle : i < es.length := by omega
            have hle' : i < es'.length := by omega
            have hT := hes.at hle hil
            have hT' := hes'.at hle' hil'
            have hlt := lt_t hil
            have he : es[i]? = some es[i] := List.getElem?_eq_getElem hle
            have he' : es'[i]? = some es'[i] := List.getElem?_eq_getElem hle'
            have q2 := fun h : List AO => hs.ia he h
            have q2' := fun h : List AO => hs'.ia he' h
            have hf := hT.facts
            have hf' := hT'.facts
            have hd : l.drop i = l[i] :: l.drop (i + 1) := List.drop_eq_getElem_cons hil
            have hd' : l'.drop i = l'[i] :: l'.drop (i + 1) := List.drop_eq_getElem_cons hil'
            have hw := wrap_succ hle hm
            have hc := ih l[i] l'[i] es[i] es'[i] (by have := IsL.mem_size (k := k) (n := n) (s := s) (List.getElem_mem hil); omega) hT hT'
            rw [hd, hd', compL] at hR
            refine ⟨.normal, V19 (compT l[i] l'[i]) ((i + 1 : Nat) : Int) (.v (.bool true)), [tb k n s c, tb k' n' s' c'], ?_, hil, _, rfl, rfl, fun _ => hleq, hR⟩
            simp only [V19, c19_6, c19_3, c19_4, c19_5, hx, hlt, q1, q2, q2', hf, hf', hc, hw, tb3, tc3, run_nil, run_cons, stp_plain, stp_guard, put_some, pass_eq, pick_tt, pick_ff, pick_tf, pick_ft, pick_u, reg_some, thn_normal, thn_exit, thn_ret, cnd_t, cnd_f, blk_normal, blk_ret, blk_exit, x_seq, x_region, x_cond, x_block, x_loop, x_ret, x_exit, x_skip, e_mov, e_pick, pk_t, pk_f, withH_some, e_box, e_load, e_store, stH_some, e_nil, e_bin, e_eqv, eqH_f, eqH_t, e_un, e_fa, e_ia, ia_eq, nat_eq, natV_nat, e_len, lnH_some, e_extract, ex_0, ex_1, e_call0, e_call1, e_call2, e_call3, pc0_eq, pc1_some, pc2_some, pc3_some, fin_some, g_var0, g_vars, g_loc0, g_locs, g_int, g_bool, g_str, g_sl, s_none, s_zero, s_succ, cl_nil, cl_str, cl_bool, cl_slc, cl_own, evFa, evNil, asEl, evBin, intBin, strBin, evUn, len_nil, len_slc, len_str, clr, List.length_nil, List.length_cons, List.getElem?_cons_zero, List.getElem?_cons_succ, Nat.reduceAdd, Nat.zero_add, Nat.add_zero, Nat.reduceLeDiff, Nat.reduceSub, ↓reduceIte, List.drop_succ_cons, List.drop_zero, List.take_succ_cons, List.take_zero, Bool.false_eq_true, List.nil_append, List.cons_append, Bool.not_true, Bool.not_false, cond_true, cond_false, bne, lv_ret, lv_normal, res1, res2, lv2_some, res_var, res_cell, lvf_v, lvf_slc, res1c, lvo1_some, e_mm, mm_max, mm_min, cl_agg, cl_int, g_agg, e_callv1, cv1_fn, e_slice2, e_clrrow, e_callf2, pick_und, cells_agg, Option.map_some, Option.map_none, bx_some]
          · have hie : i = l.length := by omega
            subst hie
            have hlt := lt_f (n := l.length)
            rw [List.drop_of_length_le (Nat.le_refl _), compL] at hR
            refine ⟨.exit 0, V19 x l.length (.v (.bool false)), _, ?_, rfl, rfl, _, _, by rw [← hR, hx0]⟩
            simp only [V19, c19_6, c19_3, hx, hlt, q1, tb3, run_nil, run_cons, stp_plain, stp_guard, put_some, pass_eq, pick_tt, pick_ff, pick_tf, pick_ft, pick_u, reg_some, thn_normal, thn_exit, thn_ret, cnd_t, cnd_f, blk_normal, blk_ret, blk_exit, x_seq, x_region, x_cond, x_block, x_loop, x_ret, x_exit, x_skip, e_mov, e_pick, pk_t, pk_f, withH_some, e_box, e_load, e_store, stH_some, e_nil, e_bin, e_eqv, eqH_f, eqH_t, e_un, e_fa, e_ia, ia_eq, nat_eq, natV_nat, e_len, lnH_some, e_extract, ex_0, ex_1, e_call0, e_call1, e_call2, e_call3, pc0_eq, pc1_some, pc2_some, pc3_some, fin_some, g_var0, g_vars, g_loc0, g_locs, g_int, g_bool, g_str, g_sl, s_none, s_zero, s_succ, cl_nil, cl_str, cl_bool, cl_slc, cl_own, evFa, evNil, asEl, evBin, intBin, strBin, evUn, len_nil, len_slc, len_str, clr, List.length_nil, List.length_cons, List.getElem?_cons_zero, List.getElem?_cons_succ, Nat.reduceAdd, Nat.zero_add, Nat.add_zero, Nat.reduceLeDiff, Nat.reduceSub, ↓reduceIte, List.drop_succ_cons, List.drop_zero, List.take_succ_cons, List.take_zero, Bool.false_eq_true, List.nil_append, List.cons_append, Bool.not_true, Bool.not_false, cond_true, cond_false, bne, lv_ret, lv_normal, res1, res2, lv2_some, res_var, res_cell, lvf_v, lvf_slc, res1c, lvo1_some, e_mm, mm_max, mm_min, cl_agg, cl_int, g_agg, e_callv1, cv1_fn, e_slice2, e_clrrow, e_callf2, pick_und, cells_agg, Option.map_some, Option.map_none, bx_some])
    rw [show c19.body = (.seq (.region [] [] c19_0) (.seq (.region [] [] c19_1) (.seq (.seq (.region [] [] c19_2) (.block 0 (.loop K19 [] c19_6))) (.seq (.region [] [] c19_7) .ret)))) from rfl, show c19.res = [.var 4] from rfl]
    rw [show start c19 [.agg [.v (.int .i64 k), .v (.string s), .v (.int .i64 n), c], .agg [.v (.int .i64 k'), .v (.string s'), .v (.int .i64 n'), c']] = [.agg [.v (.int .i64 k), .v (.string s), .v (.int .i64 n), c], .agg [.v (.int .i64 k'), .v (.string s'), .v (.int .i64 n'), c'], .v undef, .v undef, .v undef, .v undef, .v undef, .v undef] from rfl]
    obtain ⟨rfl, rfl, i, x7, rfl⟩ := g3
    generalize (if (c0 == 0) = true then compL l l' else c0) = R at g1 ⊢
    generalize c19_6 = bb at g1 ⊢
    have hsl : ∀ (h : List AO) (a b c d : Int), (AV.slc 1 true true [.v (.int .i64 a), .v (.int .i64 b), .v (.int .i64 c), .v (.int .i64 d)]).snap1 h = some (.slc 1 true true [.v (.int .i64 a), .v (.int .i64 b), .v (.int .i64 c), .v (.int .i64 d)]) := fun _ _ _ _ _ => rfl
    simp only [V19, c19_0, c19_1, c19_2, c19_7, tbx, tcx, tb0, tb1, tb2, tb3, tc0, tc1, tc2, tc3, q1, q1', o1, o2, p1, p2, p3, p4, p5, g1, snap_int, snap_str, e_bslice4, bs4_int, hsl, run_nil, run_cons, stp_plain, stp_guard, put_some, pass_eq, pick_tt, pick_ff, pick_tf, pick_ft, pick_u, reg_some, thn_normal, thn_exit, thn_ret, cnd_t, cnd_f, blk_normal, blk_ret, blk_exit, x_seq, x_region, x_cond, x_block, x_loop, x_ret, x_exit, x_skip, e_mov, e_pick, pk_t, pk_f, withH_some, e_box, e_load, e_store, stH_some, e_nil, e_bin, e_eqv, eqH_f, eqH_t, e_un, e_fa, e_ia, ia_eq, nat_eq, natV_nat, e_len, lnH_some, e_extract, ex_0, ex_1, e_call0, e_call1, e_call2, e_call3, pc0_eq, pc1_some, pc2_some, pc3_some, fin_some, g_var0, g_vars, g_loc0, g_locs, g_int, g_bool, g_str, g_sl, s_none, s_zero, s_succ, cl_nil, cl_str, cl_bool, cl_slc, cl_own, evFa, evNil, asEl, evBin, intBin, strBin, evUn, len_nil, len_slc, len_str, clr, List.length_nil, List.length_cons, List.getElem?_cons_zero, List.getElem?_cons_succ, Nat.reduceAdd, Nat.zero_add, Nat.add_zero, Nat.reduceLeDiff, Nat.reduceSub, ↓reduceIte, List.drop_succ_cons, List.drop_zero, List.take_succ_cons, List.take_zero, Bool.false_eq_true, List.nil_append, List.cons_append, Bool.not_true, Bool.not_false, cond_true, cond_false, bne, lv_ret, lv_normal, res1, res2, lv2_some, res_var, res_cell, lvf_v, lvf_slc, res1c, lvo1_some, e_mm, mm_max, mm_min, cl_agg, cl_int, g_agg, e_callv1, cv1_fn, e_slice2, e_clrrow, e_callf2, pick_und, cells_agg, Option.map_some, Option.map_none]
end Go.AE.YtgcbaefclkfnoaaDoor
end

/-! Compare's plain law: an order. TermOrders in plain Lean. -/
section
set_option linter.unusedVariables false
set_option linter.unusedSimpArgs false
namespace Go.AE.YtgcbaefclkfnoaaDoor
open Go Go.AE Go.Proofs.YtgcbaefclkfnoaaDoor

/-- from two to three -/
def T3 (p q r : Int) : Prop := p ≤ 0 → q ≤ 0 → r ≤ 0 ∧ (r = 0 ↔ p = 0 ∧ q = 0)
theorem t3_or {p q r p' q' r' : Int} (h : T3 p q r) (h' : p = 0 → q = 0 → T3 p' q' r') : T3 (if (p == 0) = true then p' else p) (if (q == 0) = true then q' else q) (if (r == 0) = true then r' else r) := by
  intro a b
  simp only [beq_iff_eq] at a b ⊢
  unfold T3 at h h'
  by_cases e1 : p = 0 <;> by_cases e2 : q = 0 <;> by_cases e3 : r = 0 <;> simp only [e1, e2, e3, if_true, if_false] at a b ⊢ <;> simp_all <;> omega
theorem t3_cmpI (a b c : Int) : T3 (cmpI a b) (cmpI b c) (cmpI a c) := by
  unfold cmpI T3
  simp only [decide_eq_true_eq]
  repeat' split
  all_goals omega
theorem cb_cons (x y : UInt8) (xs ys : List UInt8) : Lib.compareBytes (x :: xs) (y :: ys) = if x.toNat < y.toNat then -1 else if y.toNat < x.toNat then 1 else Lib.compareBytes xs ys := by
  rw [Lib.compareBytes]; rfl
theorem t3_bytes : ∀ (a b c : List UInt8), T3 (Lib.compareBytes a b) (Lib.compareBytes b c) (Lib.compareBytes a c)
  | [], [], [] => by simp [Lib.compareBytes, T3]
  | [], [], z :: zs => by simp [Lib.compareBytes, T3]
  | [], y :: ys, [] => by simp [Lib.compareBytes, T3]
  | [], y :: ys, z :: zs => by simp [Lib.compareBytes, T3]
  | x :: xs, [], c => by simp [Lib.compareBytes, T3]
  | x :: xs, y :: ys, [] => by simp [Lib.compareBytes, T3]
  | x :: xs, y :: ys, z :: zs => by
    have ih := t3_bytes xs ys zs
    rw [cb_cons, cb_cons, cb_cons]
    unfold T3 at *
    repeat' split
    all_goals first
      | exact ih
      | omega
def A2 (p q : Int) : Prop := q = -p ∧ -1 ≤ p ∧ p ≤ 1
theorem a2_or {p q p' q' : Int} (h : A2 p q) (h' : p = 0 → A2 p' q') : A2 (if (p == 0) = true then p' else p) (if (q == 0) = true then q' else q) := by
  unfold A2 at *
  simp only [beq_iff_eq]
  by_cases e1 : p = 0
  · have := h' e1
    rw [if_pos e1, if_pos (by omega)]
    exact this
  · rw [if_neg e1, if_neg (by omega)]
    exact h
theorem a2_cmpI (a b : Int) : A2 (cmpI a b) (cmpI b a) := by
  unfold cmpI A2
  simp only [decide_eq_true_eq]
  repeat' split
  all_goals omega
theorem a2_bytes : ∀ (a b : List UInt8), A2 (Lib.compareBytes a b) (Lib.compareBytes b a)
  | [], [] => by simp [Lib.compareBytes, A2]
  | [], y :: ys => by simp [Lib.compareBytes, A2]
  | x :: xs, [] => by simp [Lib.compareBytes, A2]
  | x :: xs, y :: ys => by
    have ih := a2_bytes xs ys
    rw [cb_cons, cb_cons]
    unfold A2 at *
    repeat' split
    all_goals first
      | exact ih
      | omega
theorem bytes_zero : ∀ (a b : List UInt8), Lib.compareBytes a b = 0 ↔ a = b
  | [], [] => by simp [Lib.compareBytes]
  | [], y :: ys => by simp [Lib.compareBytes]
  | x :: xs, [] => by simp [Lib.compareBytes]
  | x :: xs, y :: ys => by
    have ih := bytes_zero xs ys
    unfold Lib.compareBytes
    simp only [UInt8.lt_iff_toNat_lt, List.cons.injEq, ← UInt8.toNat_inj] at *
    split
    · constructor <;> intro h
      · omega
      · omega
    · split
      · constructor <;> intro h <;> omega
      · rw [ih]; constructor
        · intro h; exact ⟨by omega, h⟩
        · exact fun h => h.2

theorem t3_head (k : Int) (s : ByteArray) (n : Int) (l : List Tm) (k' : Int) (s' : ByteArray) (n' : Int) (l' : List Tm) (k'' : Int) (s'' : ByteArray) (n'' : Int) (l'' : List Tm) :
    T3 (headC k s n l k' s' n' l') (headC k' s' n' l' k'' s'' n'' l'') (headC k s n l k'' s'' n'' l'') := by
  unfold headC
  simp only [orL]
  exact t3_or (t3_cmpI _ _ _) fun _ _ => t3_or (t3_cmpI _ _ _) fun _ _ => t3_or (t3_bytes _ _ _) fun _ _ => t3_or (t3_cmpI _ _ _) fun _ _ => by simp [T3]
theorem a2_head (k : Int) (s : ByteArray) (n : Int) (l : List Tm) (k' : Int) (s' : ByteArray) (n' : Int) (l' : List Tm) :
    A2 (headC k s n l k' s' n' l') (headC k' s' n' l' k s n l) := by
  unfold headC
  simp only [orL]
  exact a2_or (a2_cmpI _ _) fun _ => a2_or (a2_cmpI _ _) fun _ => a2_or (a2_bytes _ _) fun _ => a2_or (a2_cmpI _ _) fun _ => by simp [A2]
theorem comp_swap (k : Int) (s : ByteArray) (n : Int) (l : List Tm) (k' : Int) (s' : ByteArray) (n' : Int) (l' : List Tm) :
    compT (.mk k s n l) (.mk k' s' n' l') = if (headC k s n l k' s' n' l' == 0) = true then compL l l' else headC k s n l k' s' n' l' := by rw [compT]
theorem t3_compT : ∀ (N : Nat) (a b c : Tm), SizeOf.sizeOf a < N → T3 (compT a b) (compT b c) (compT a c) := by
  intro N
  induction N with
  | zero => intro a b c h; omega
  | succ N ih =>
    have hl : ∀ (l m n : List Tm), SizeOf.sizeOf l < N + 1 → l.length = m.length → m.length = n.length → T3 (compL l m) (compL m n) (compL l n) := by
      intro l
      induction l with
      | nil =>
        intro m n _ h1 h2
        cases m with
        | nil => cases n with
          | nil => simp [compL, T3]
          | cons => simp at h2
        | cons => simp at h1
      | cons x l ihl =>
        intro m n hs h1 h2
        cases m with
        | nil => simp at h1
        | cons y m =>
        cases n with
        | nil => simp at h2
        | cons z n =>
        simp only [List.length_cons, Nat.add_right_cancel_iff, List.cons.sizeOf_spec] at h1 h2 hs
        rw [compL, compL, compL]
        exact t3_or (ih x y z (by omega)) fun _ _ => ihl m n (by omega) h1 h2
    rintro ⟨k, s, n, l⟩ ⟨k', s', n', l'⟩ ⟨k'', s'', n'', l''⟩ hs
    rw [comp_swap, comp_swap, comp_swap]
    simp only [Tm.mk.sizeOf_spec] at hs
    exact t3_or (t3_head k s n l k' s' n' l' k'' s'' n'' l'') fun h1 h2 => hl _ _ _ (by omega) (headC_len h1) (headC_len h2)
theorem a2_compT : ∀ (N : Nat) (a b : Tm), SizeOf.sizeOf a < N → A2 (compT a b) (compT b a) := by
  intro N
  induction N with
  | zero => intro a b h; omega
  | succ N ih =>
    have hl : ∀ (l m : List Tm), SizeOf.sizeOf l < N + 1 → l.length = m.length → A2 (compL l m) (compL m l) := by
      intro l
      induction l with
      | nil =>
        intro m _ h1
        cases m with
        | nil => simp [compL, A2]
        | cons => simp at h1
      | cons x l ihl =>
        intro m hs h1
        cases m with
        | nil => simp at h1
        | cons y m =>
        simp only [List.length_cons, Nat.add_right_cancel_iff, List.cons.sizeOf_spec] at h1 hs
        rw [compL, compL]
        exact a2_or (ih x y (by omega)) fun _ => ihl m (by omega) h1
    rintro ⟨k, s, n, l⟩ ⟨k', s', n', l'⟩ hs
    rw [comp_swap, comp_swap]
    simp only [Tm.mk.sizeOf_spec] at hs
    exact a2_or (a2_head ..) fun h1 => hl _ _ (by omega) (headC_len h1)

def bs3 (h : List AO) (x y z : Option AV) : Option (AV × List AO) := x.bind fun x => y.bind fun y => z.bind fun z => match x.cl, y.cl, z.cl with
  | some xs, some ys, some zs => if xs.length = 4 ∧ ys.length = 4 ∧ zs.length = 4 then some (.slc 4 true true [x, y, z], h) else none
  | _, _, _ => none
theorem e_bslice3 {call : CallF} {vars env : List AV} {h : List AO} {zero : List Value} {x y z : Opd} : evOp call vars env h (.bslice 4 zero 3 [(0, x), (1, y), (2, z)]) = bs3 h ((getO vars env x).snap1 h) ((getO vars env y).snap1 h) ((getO vars env z).snap1 h) := by
  simp only [evOp, evElems, bs3]
  cases (getO vars env x).snap1 h with
  | none => rfl
  | some x =>
    simp only [Option.bind_some]
    cases x.cl with
    | none => cases (getO vars env y).snap1 h with
      | none => rfl
      | some y => cases (getO vars env z).snap1 h <;> rfl
    | some xs =>
      simp only [Option.map_some]
      cases (getO vars env y).snap1 h with
      | none => simp; try rfl
      | some y =>
        simp only [Option.bind_some]
        cases y.cl with
        | none => cases (getO vars env z).snap1 h <;> simp
        | some ys =>
          cases (getO vars env z).snap1 h with
          | none => simp
          | some z =>
            simp only [Option.map_some, Option.bind_some]
            cases z.cl with
            | none => simp
            | some zs =>
              by_cases e1 : xs.length = 4 <;> by_cases e2 : ys.length = 4 <;> by_cases e3 : zs.length = 4 <;> simp [e1, e2, e3, List.replicate]
theorem orders_ok {a b c : AV} {t u v : Tm} (ha : IsT a t) (hb : IsT b u) (hc : IsT c v) : callW F 5 [a, b, c] [] = some (.v (.bool true), []) := by
  refine callW_pure (c := c5) rfl rfl 0 ?_
  have hlive := live_ok
  have hfa := ha.facts
  have hfb := hb.facts
  have hfc := hc.facts
  have hbig := big_ok (isL3 ha hb hc)
  have bxa : bx [] 24 (some a.cells) = some (.ptr 0 0, [.box 24 a.cells]) := rfl
  have bxb : bx [.box 24 a.cells] 24 (some b.cells) = some (.ptr 1 0, [.box 24 a.cells, .box 24 b.cells]) := rfl
  have bxc : bx [.box 24 a.cells, .box 24 b.cells] 24 (some c.cells) = some (.ptr 2 0, [.box 24 a.cells, .box 24 b.cells, .box 24 c.cells]) := rfl
  have e1 : evLoad [.box 24 a.cells, .box 24 b.cells, .box 24 c.cells] true 4 (.ptr 0 0) = some a := hfa.2.2.2.1 [] 24
  have e2 : evLoad [.box 24 a.cells, .box 24 b.cells, .box 24 c.cells] true 4 (.ptr 1 0) = some b := hfb.2.2.2.1 [.box 24 a.cells] 24
  have e3 : evLoad [.box 24 a.cells, .box 24 b.cells, .box 24 c.cells] true 4 (.ptr 2 0) = some c := hfc.2.2.2.1 [.box 24 a.cells, .box 24 b.cells] 24
  have p1 := check_ok t a ha
  have p2 := check_ok u b hb
  have p3 := check_ok v c hc
  have c1 := comp_ok _ t u a b (Nat.lt_succ_self _) ha hb
  have c2 := comp_ok _ u v b c (Nat.lt_succ_self _) hb hc
  have c3 := comp_ok _ t v a c (Nat.lt_succ_self _) ha hc
  have tr := t3_compT _ t u v (Nat.lt_succ_self _)
  unfold T3 at tr
  have b3 : ∀ h : List AO, bs3 h (some a) (some b) (some c) = some (.slc 4 true true [a, b, c], h) := by
    intro h
    obtain ⟨x1, x2⟩ := ha.cl
    obtain ⟨y1, y2⟩ := hb.cl
    obtain ⟨z1, z2⟩ := hc.cl
    simp [bs3, x1, y1, z1, x2, y2, z2]
  have sl : ∀ h : List AO, (AV.slc 4 true true [a, b, c]).snap1 h = some (.slc 4 true true [a, b, c]) := fun _ => rfl
  cases hB : bigT [t, u, v] with
  | true => rw [hB] at hbig; simp only [c5, start, List.replicate, c5_0, c5_1, c5_2, c5_3, hlive, hfa, hfb, hfc, bxa, bxb, bxc, e1, e2, e3, b3, sl, hbig, e_bslice3, run_nil, run_cons, stp_plain, stp_guard, put_some, pass_eq, pick_tt, pick_ff, pick_tf, pick_ft, pick_u, reg_some, thn_normal, thn_exit, thn_ret, cnd_t, cnd_f, blk_normal, blk_ret, blk_exit, x_seq, x_region, x_cond, x_block, x_loop, x_ret, x_exit, x_skip, e_mov, e_pick, pk_t, pk_f, withH_some, e_box, e_load, e_store, stH_some, e_nil, e_bin, e_eqv, eqH_f, eqH_t, e_un, e_fa, e_ia, ia_eq, nat_eq, natV_nat, e_len, lnH_some, e_extract, ex_0, ex_1, e_call0, e_call1, e_call2, e_call3, pc0_eq, pc1_some, pc2_some, pc3_some, fin_some, g_var0, g_vars, g_loc0, g_locs, g_int, g_bool, g_str, g_sl, s_none, s_zero, s_succ, cl_nil, cl_str, cl_bool, cl_slc, cl_own, evFa, evNil, asEl, evBin, intBin, strBin, evUn, len_nil, len_slc, len_str, clr, List.length_nil, List.length_cons, List.getElem?_cons_zero, List.getElem?_cons_succ, Nat.reduceAdd, Nat.zero_add, Nat.add_zero, Nat.reduceLeDiff, Nat.reduceSub, ↓reduceIte, List.drop_succ_cons, List.drop_zero, List.take_succ_cons, List.take_zero, Bool.false_eq_true, List.nil_append, List.cons_append, Bool.not_true, Bool.not_false, cond_true, cond_false, bne, lv_ret, lv_normal, res1, res2, lv2_some, res_var, res_cell, lvf_v, lvf_slc, res1c, lvo1_some, e_mm, mm_max, mm_min, cl_agg, cl_int, g_agg, e_callv1, cv1_fn, e_slice2, e_clrrow, e_callf2, pick_und, cells_agg, Option.map_some, Option.map_none]
  | false =>
  rw [hB] at hbig
  generalize checkT t = k1 at p1
  generalize checkT u = k2 at p2
  generalize checkT v = k3 at p3
  generalize compT t u = x1 at c1 tr
  generalize compT u v = x2 at c2 tr
  generalize compT t v = x3 at c3 tr
  have fin : decide (x1 > 0) = false → decide (x2 > 0) = false → decide (x3 ≤ 0) = true := by
    simp only [decide_eq_false_iff_not, decide_eq_true_eq]
    intro h1 h2
    exact (tr (by omega) (by omega)).1
  cases g1 : (k1 == 0) <;> cases g2 : (k2 == 0) <;> cases g3 : (k3 == 0) <;>
  cases q1 : decide (x1 > 0) <;> cases q2 : decide (x2 > 0) <;> cases q3 : decide (x3 ≤ 0) <;>
  first
  | exact Bool.noConfusion ((fin q1 q2).symm.trans q3)
  | simp only [c5, start, List.replicate, c5_0, c5_1, c5_2, c5_3, c5_4, hlive, hfa, hfb, hfc, bxa, bxb, bxc, e1, e2, e3, b3, sl, hbig, e_bslice3, p1, p2, p3, c1, c2, c3, g1, g2, g3, q1, q2, q3, Bool.not_true, Bool.not_false, run_nil, run_cons, stp_plain, stp_guard, put_some, pass_eq, pick_tt, pick_ff, pick_tf, pick_ft, pick_u, reg_some, thn_normal, thn_exit, thn_ret, cnd_t, cnd_f, blk_normal, blk_ret, blk_exit, x_seq, x_region, x_cond, x_block, x_loop, x_ret, x_exit, x_skip, e_mov, e_pick, pk_t, pk_f, withH_some, e_box, e_load, e_store, stH_some, e_nil, e_bin, e_eqv, eqH_f, eqH_t, e_un, e_fa, e_ia, ia_eq, nat_eq, natV_nat, e_len, lnH_some, e_extract, ex_0, ex_1, e_call0, e_call1, e_call2, e_call3, pc0_eq, pc1_some, pc2_some, pc3_some, fin_some, g_var0, g_vars, g_loc0, g_locs, g_int, g_bool, g_str, g_sl, s_none, s_zero, s_succ, cl_nil, cl_str, cl_bool, cl_slc, cl_own, evFa, evNil, asEl, evBin, intBin, strBin, evUn, len_nil, len_slc, len_str, clr, List.length_nil, List.length_cons, List.getElem?_cons_zero, List.getElem?_cons_succ, Nat.reduceAdd, Nat.zero_add, Nat.add_zero, Nat.reduceLeDiff, Nat.reduceSub, ↓reduceIte, List.drop_succ_cons, List.drop_zero, List.take_succ_cons, List.take_zero, Bool.false_eq_true, List.nil_append, List.cons_append, Bool.not_true, Bool.not_false, cond_true, cond_false, bne, lv_ret, lv_normal, res1, res2, lv2_some, res_var, res_cell, lvf_v, lvf_slc, res1c, lvo1_some, e_mm, mm_max, mm_min, cl_agg, cl_int, g_agg, e_callv1, cv1_fn, e_slice2, e_clrrow, e_callf2, pick_und, cells_agg, Option.map_some, Option.map_none]
end Go.AE.YtgcbaefclkfnoaaDoor
end

/-! What all rows of this program need. -/
section
set_option linter.unusedVariables false
namespace Go.Proofs.YtgcbaefclkfnoaaDoor
open Go Go.AE Go.Proofs Go.ChangeShapes Go.WideShapes Go.ChangeAt Go.RowKit
open Go.ChangeMaps (open_string shut_string)

theorem own : ownKnob Tryd.prog.godebug = none := by kernel_rfl
theorem laidOut : laidOutB Tryd.prog = true := by kernel_rfl
theorem mixed : Tryd.prog.follows .mixedOrders = true := by kernel_rfl
def G : List TypeId := [2, 3, 9, 22, 24]
theorem hG : goodB T G = true := by kernel_rfl

/-- What a call comes to that is handed what came in. -/
theorem law_calls {f : FuncId} {args : List AV} {vals : Array Value} {W : World} (hK : K W.heap.size W) (ha : ArgsRep (AllCells W) W [] args vals) {n : Nat} (he : callN F n f args [] = some (.v (.bool true), [])) :
    Calls Tryd.prog f vals W fun e W' => e = .returned (.bool true) ∧ Below W.heap.size W W' := by
  have hI : AE.Inv W.heap.size W (AllCells W) [] W [] := ⟨Below.refl _ _, Nat.le_refl _, rfl, fun id o L h => by simp at h, fun id L h => by simp at h, fun i j Li Lj h => by simp at h, fun b x h => h⟩
  refine ((callN_ok mixed hT hKs hF n W.heap.size W hK).calls f args [] _ _ he (AllCells W) [] W vals hI ha).mono fun e W' h => ?_
  obtain ⟨v, I', σ', rfl, hI', _, hr⟩ := h
  cases hr
  exact ⟨rfl, hI'.below⟩
end Go.Proofs.YtgcbaefclkfnoaaDoor
end

/-! What all rows of this seat need: the world in which the library's two tables lie. -/
section
set_option linter.unusedVariables false
namespace Go.Proofs.YtgcbaefclkfnoaaDoor
open Go Go.AE Go.Proofs Go.RowKit Go.Lib Go.Shelf

def d32 : List Value := [0, 1, 28, 2, 29, 14, 24, 3, 30, 22, 20, 15, 25, 17, 4, 8, 31, 27, 13, 23, 21, 19, 16, 7, 26, 12, 18, 6, 11, 5, 10, 9].map fun z : Int => Value.int .u8 z
def d64 : List Value := [0, 1, 56, 2, 57, 49, 28, 3, 61, 58, 42, 50, 38, 29, 17, 4, 62, 47, 59, 36, 45, 43, 51, 22, 53, 39, 33, 30, 24, 18, 12, 5, 63, 55, 48, 27, 60, 41, 37, 16, 46, 35, 44, 21, 52, 32, 23, 11, 54, 26, 40, 15, 34, 20, 31, 10, 25, 14, 19, 9, 13, 8, 7, 6].map fun z : Int => Value.int .u8 z
def p10 : List Value := [1, 10, 100, 1000, 10000, 100000, 1000000, 10000000, 100000000, 1000000000, 10000000000, 100000000000, 1000000000000, 10000000000000, 100000000000000, 1000000000000000, 10000000000000000, 100000000000000000, 1000000000000000000, 10000000000000000000].map fun z : Int => Value.int .u64 z
/-- a world in which the variables hold what their initialisers lay -/
noncomputable def laidWorld (os : Os) : World :=
  let w0 := World.holding Tryd.prog os ⟨#[], #[], []⟩
  let put (h : Array Obj) (g : Nat) (cs : Array Value) : Array Obj := h.modify g fun
    | .cells _ t frozen => .cells cs t frozen
    | o => o
  let h1 := put w0.heap (Tryd.lays196_ren.g 3) (Lib.firstTab.map fun z => Value.int .u8 z).toArray
  let h2 := put h1 (Tryd.lays196_ren.g 4) ((List.range 16).flatMap fun i => [Value.int .u8 (Lib.accLo i), Value.int .u8 (Lib.accHi i)]).toArray
  let h3 := put h2 4 d32.toArray
  let h4 := put h3 5 d64.toArray
  let h5 := put h4 3 p10.toArray
  { w0 with heap := h5 }
set_option maxRecDepth 1000000 in
theorem laid_met (os : Os) (args : Array Value) : laidMetH Tryd.prog Rows.termSizesRow.laid ((laidWorld os).forCall (fun _ _ => 0) ⟨#[], args, []⟩).memory :=
  (LaidIn.of_run (l := [("math/bits.deBruijn32tab", Rows.laid_math_bits_deBruijn32tab), ("math/bits.deBruijn64tab", Rows.laid_math_bits_deBruijn64tab), ("internal/strconv.uint64pow10", Rows.laid_internal_strconv_uint64pow10), ("unicode/utf8.acceptRanges", Rows.laid_unicode_utf8_acceptRanges), ("unicode/utf8.first", Rows.laid_unicode_utf8_first)]) [0, 1, 2, 3, 4, 5] 8 (by kernel_rfl) (by kernel_rfl) (by kernel_rfl) (by kernel_rfl)).met
set_option maxRecDepth 1000000 in
theorem tabs_of {W : World} (hL : laidMetH Tryd.prog Rows.termSizesRow.laid W) : Lib.Utf8Tabs (Tryd.lays196_ren.g 3) (Tryd.lays196_ren.g 4) W :=
  utf8Tabs_of_readsT (U8Types.of196 Tryd.lays196) ⟨by kernel_rfl, by kernel_rfl, by kernel_rfl, by kernel_rfl, by kernel_rfl, by kernel_rfl, by kernel_rfl⟩ (Lib.laidMet.reads (l := Rows.termSizesRow.laid) hL (.tail _ (.tail _ (.tail _ (.tail _ (.head _)))))) (Lib.laidMet.reads (l := Rows.termSizesRow.laid) hL (.tail _ (.tail _ (.tail _ (.head _)))))
end Go.Proofs.YtgcbaefclkfnoaaDoor
end

/-! The row and the card of TermOrders, out of its plain law. -/
section
set_option linter.unusedVariables false
namespace Go.Proofs.YtgcbaefclkfnoaaDoor
open Go Go.AE Go.Proofs Go.ChangeShapes Go.WideShapes Go.ChangeAt Go.RowKit
open Go.ChangeMaps (open_string shut_string)
namespace termOrders
theorem args {I : Cells} {W : World} {a0 a1 a2 : AV} {v0 v1 v2 : Value} (r0 : Rep I W [] a0 v0) (r1 : Rep I W [] a1 v1) (r2 : Rep I W [] a2 v2) : ArgsRep I W [] [a0, a1, a2] #[v0, v1, v2] := by
  refine ⟨rfl, fun i a h => ?_⟩
  match i, h with
  | 0, h => cases h; exact r0
  | 1, h => cases h; exact r1
  | 2, h => cases h; exact r2
def Plain : Prop := ∀ a0 a1 a2 : AV, WT T 24 a0.cells → asEl ti24.agg a0.cells = some a0 → WT T 24 a1.cells → asEl ti24.agg a1.cells = some a1 → WT T 24 a2.cells → asEl ti24.agg a2.cells = some a2 →
  ∃ n, callN F n 5 [a0, a1, a2] [] = some (.v (.bool true), [])

set_option maxRecDepth 100000 in
theorem lifted (plain : Plain) (os : Os) (started : os.Started) (H : Type) (enc : TypeId × Value → H) :
    ReturnsInHanded {} Tryd.checked os 5 .any (fun w args => (Rows.termOrdersSpec.pre enc Tryd.prog Tryd.f5 [] false w args ∧ laidMetH Tryd.prog Rows.termOrdersRow.laid w) ∧ sizedMet enc Tryd.prog Tryd.f5 (OpenSpec.ofChange Rows.termOrdersSpec) false w args)
      (Rows.termOrdersSpec.post enc Tryd.prog Tryd.f5 false true false false) := by
  refine returnsInHanded_of_change_and (C := Tryd.checked) (X := fun w _ => laidMetH Tryd.prog Rows.termOrdersRow.laid w) (fun _ _ _ hh h => h.of_heap hh) own started (by kernel_rfl) Tryd.func5
    (ChangeSpec.witness_at (enc := enc) (C := Tryd.checked) (os := os) (X := fun w _ => laidMetH Tryd.prog Rows.termOrdersRow.laid w) false (laidWorld os) #[ti24.zero, ti24.zero, ti24.zero] 8 rfl (by kernel_rfl) (by kernel_rfl) (by kernel_rfl) (by kernel_rfl) (by kernel_rfl) (laid_met os _)) ?_
  intro W base args' ds gs before hval0 hW _ _ hL _
  have hval : ∀ (j : Nat) t v, Tryd.f5.params[j]? = some t → args'[j]? = some v → Value.okWide Tryd.prog W .any base t v := hval0
  have hW' := hW
  obtain ⟨p, q, hA0, hV, rfl, hfz, hnd⟩ := hW
  have hA : DataW.TrodAll enc Tryd.prog W 0 (fun _ => true) true Tryd.f5.params.toList args'.toList ds p := hA0
  rw [Tryd.params5] at hA hval
  obtain ⟨v0, vs0, d0, ds0, p0, q0, hargs, rfl, rfl, h0, r0⟩ := trodAll_cons hA
  obtain ⟨v1, vs1, d1, ds1, p1, q1, rfl, rfl, rfl, h1, r1⟩ := trodAll_cons r0
  obtain ⟨v2, vs2, d2, ds2, p2, q2, rfl, rfl, rfl, h2, r2⟩ := trodAll_cons r1
  obtain ⟨rfl, rfl, rfl⟩ := trodAll_nil r2
  obtain rfl : args' = #[v0, v1, v2] := by cases args'; simp_all
  obtain ⟨rfl, rfl⟩ := trodVars_none hV
  obtain ⟨a0, w0, e0, x0⟩ := trod_arg hT hG (t := 24) (i := ti24) (by decide) rfl (hval 0 24 v0 rfl rfl) h0
  obtain ⟨a1, w1, e1, x1⟩ := trod_arg hT hG (t := 24) (i := ti24) (by decide) rfl (hval 1 24 v1 rfl rfl) h1
  obtain ⟨a2, w2, e2, x2⟩ := trod_arg hT hG (t := 24) (i := ti24) (by decide) rfl (hval 2 24 v2 rfl rfl) h2
  have l0 : ∀ x ∈ p0, x.block < W.heap.size := by obtain ⟨m, hm⟩ := h0; exact DataW.trod_lt m _ _ _ hm
  have l1 : ∀ x ∈ p1, x.block < W.heap.size := by obtain ⟨m, hm⟩ := h1; exact DataW.trod_lt m _ _ _ hm
  have l2 : ∀ x ∈ p2, x.block < W.heap.size := by obtain ⟨m, hm⟩ := h2; exact DataW.trod_lt m _ _ _ hm
  obtain ⟨n, hn⟩ := plain a0 a1 a2 w0 e0 w1 e1 w2 e2
  refine (law_calls ⟨rfl, tabs_of hL⟩ (args x0 x1 x2) hn).mono fun e W' ⟨he, bel⟩ => ?_
  subst he
  exact ⟨_, rfl, _, _, _, [], _, [], hW', trodAll_mk1 (shut_bool Tryd.underlying4 _),
    (trodAll_cons_mk (Below.trod laidOut (by kernel_rfl) (of_decide_eq_true (by kernel_rfl)) h0 bel l0) (trodAll_cons_mk (Below.trod laidOut (by kernel_rfl) (of_decide_eq_true (by kernel_rfl)) h1 bel l1) (trodAll_cons_mk (Below.trod laidOut (by kernel_rfl) (of_decide_eq_true (by kernel_rfl)) h2 bel l2) trodAll_mk0))), rfl, bel.frame _, fun h => by cases h⟩
theorem over (plain : Plain) : Rows.termOrdersRow.holds Tryd.pinned (OpenSpec.ofChange Rows.termOrdersSpec) :=
  OpenClaim.holds_of_wide 5 Tryd.f5 rfl rfl rfl rfl rfl rfl rfl ⟨rfl, rfl, rfl, rfl, rfl⟩ rfl rfl rfl rfl rfl (by kernel_rfl) Tryd.func5 (by kernel_rfl)
    (of_decide_eq_true (by kernel_rfl)) (by unfold Func.isWrapper; first | (rw [if_pos (by decide +kernel)]; kernel_rfl) | (rw [if_neg (by decide +kernel)]; exact ⟨rfl, rfl⟩))
    (fun os started H enc _ => lifted plain os started H enc)
theorem proved (plain : Plain) : Rows.TermOrdersCardSaid :=
  Claim7.holds_tied_plain_at .later [] Rows.termOrdersCard.laidKinds true Rows.termOrdersCard.stood.harness Rows.termOrdersCard.stood.looks
    (over plain) (fun _ h => by cases h) (by kernel_rfl) (fun _ h => by cases h) termOrders_row_tie rfl ⟨rfl, rfl⟩ (by kernel_rfl) rfl
    (fun f fn hf hfn => by
      obtain rfl : f = 5 := Option.some.inj ((show Tryd.prog.funcNamed Rows.termOrdersRow.func = some 5 by kernel_rfl).symm.trans hf) |>.symm
      obtain rfl : fn = Tryd.f5 := (Option.some.inj (Tryd.func5.symm.trans hfn)).symm
      refine ⟨by kernel_rfl, fun j t ht => ?_⟩
      rw [Tryd.params5] at ht
      match j, ht with
      | 0, ht => cases ht; exact (show Tryd.prog.wantsStandIn 24 = false by kernel_rfl)
      | 1, ht => cases ht; exact (show Tryd.prog.wantsStandIn 24 = false by kernel_rfl)
      | 2, ht => cases ht; exact (show Tryd.prog.wantsStandIn 24 = false by kernel_rfl)
      | _ + 3, ht => simp at ht)
    (by kernel_rfl)
end termOrders
end Go.Proofs.YtgcbaefclkfnoaaDoor
end
