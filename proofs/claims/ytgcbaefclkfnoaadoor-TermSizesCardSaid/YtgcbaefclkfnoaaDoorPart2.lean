/- Texts of this claim, put together. -/
import Derived.Test.YtgcbaefclkfnoaaDoorPart1
import Derived.Test.YtgcbaefclkfnoaaDoorEval3
import Derived.Test.YtgcbaefclkfnoaaDoorEval4
import Derived.Test.YtgcbaefclkfnoaaDoorRows
import Derived.WalkKit
import Derived.ProofKit
import Derived.OpenShut
import Derived.ShutString
import Derived.ChangeOld
import Derived.Below
import Derived.SizedLaws
import Derived.Test.YtgcbaefclkfnoaaDoorTie
import Derived.Test.YtgcbaefclkfnoaaDoorCards
import Derived.Lib.LaidIn
import Derived.Lib.LaidU8T
import Derived.KernelRfl
import Derived.Handed
import Derived.SevenTiedAt
/-! Size and Deep, the program's and the document's. -/
section
set_option linter.unusedVariables false
set_option linter.unusedSimpArgs false
namespace Go.AE.YtgcbaefclkfnoaaDoor
open Go Go.AE Go.Proofs.YtgcbaefclkfnoaaDoor

mutual
def sizI : Tm → Int
  | .mk _ _ _ l => sizL l 1
def sizL : List Tm → Int → Int
  | [], m => m
  | a :: l, m => sizL l (IntKind.i64.wrap (m + sizI a))
end
mutual
def depI : Tm → Int
  | .mk _ _ _ l => IntKind.i64.wrap (depL l 0 + 1)
def depL : List Tm → Int → Int
  | [], m => m
  | a :: l, m => depL l (max m (depI a))
end
def Vfold (c : AV) (m n i : Int) (x4 x8 : AV) : List AV := [.junk, .junk, .junk, .v (.int .i64 m), x4, c, .v (.int .i64 n), .v (.int .i64 i), x8]
theorem size_ok : ∀ (N : Nat) (t : Tm) (a : AV), SizeOf.sizeOf t < N → IsT a t → callW F 27 [a] [] = some (.v (.int .i64 (sizI t)), []) := by
  intro N
  induction N with
  | zero => intro t a h; omega
  | succ N ih =>
    intro t a hN ha
    cases ha with
    | mk k s n c l hc =>
    obtain ⟨es, hs, hes, hm⟩ := hc.sl
    have hll := hes.length
    refine callW_pure (c := c27) rfl rfl (l.length + 1) ?_
    have q1 := fun h : List AO => hs.len h
    obtain ⟨e, v', h', g1, g2, g3⟩ := loop_rule0 (call := callW F) (K := l.length + 1) (b := c27_7) (keep := [false, false, false, true, false, true, true, true, false])
      (fun i v h => ∃ m', v = Vfold c m' es.length i .junk .junk ∧ sizL (l.drop i) m' = sizL l 1)
      (fun e v h => e = .exit 0 ∧ ∃ x4, v = Vfold c (sizL l 1) es.length es.length x4 (.v (.bool false)))
      l.length (m := l.length + 1) (v := [.agg [.v (.int .i64 k), .v (.string s), .v (.int .i64 n), c], .ptr 0 0, .v (.int .i64 0), .v (.int .i64 1), .v undef, c, .v (.int .i64 es.length), .v (.int .i64 0), .v undef]) (h := [.box 24 [.v (.int .i64 k), .v (.string s), .v (.int .i64 n), c]])
      (by omega) ⟨_, rfl, rfl⟩ (by
        rintro i v h hi ⟨m', rfl, hR⟩
        by_cases hil : i < es.length
        · have hil' : i < l.length := by omega
          have hT := hes.at hil hil'
          have hlt := lt_t hil
          have he : es[i]? = some es[i] := List.getElem?_eq_getElem hil
          have q2 := fun h : List AO => hs.ia he h
          have hf := hT.facts
          have hd : l.drop i = l[i] :: l.drop (i + 1) := List.drop_eq_getElem_cons hil'
          have hw := wrap_succ hil hm
          rw [hd, sizL] at hR
          have hc := ih l[i] es[i] (by have := IsL.mem_size (k := k) (n := n) (s := s) (List.getElem_mem hil'); omega) hT
          refine ⟨.normal, [.junk, .junk, .junk, .v (.int .i64 (IntKind.i64.wrap (m' + sizI l[i]))), .ptr h.length 0, c, .v (.int .i64 es.length), .v (.int .i64 ((i + 1 : Nat) : Int)), .v (.bool true)], h ++ [.box 24 es[i].cells], ?_, by omega, _, rfl, hR⟩
          simp only [Vfold, c27_7, c27_3, c27_4, c27_5, c27_6, hlt, q1, q2, hf, hc, hw, q9z, e_mm, mm_max, run_nil, run_cons, stp_plain, stp_guard, put_some, pass_eq, pick_tt, pick_ff, pick_tf, pick_ft, pick_u, reg_some, thn_normal, thn_exit, thn_ret, cnd_t, cnd_f, blk_normal, blk_ret, blk_exit, x_seq, x_region, x_cond, x_block, x_loop, x_ret, x_exit, x_skip, e_mov, e_pick, pk_t, pk_f, withH_some, e_box, e_load, e_store, stH_some, e_nil, e_bin, e_eqv, eqH_f, eqH_t, e_un, e_fa, e_ia, ia_eq, nat_eq, natV_nat, e_len, lnH_some, e_extract, ex_0, ex_1, e_call0, e_call1, e_call2, e_call3, pc0_eq, pc1_some, pc2_some, pc3_some, fin_some, g_var0, g_vars, g_loc0, g_locs, g_int, g_bool, g_str, g_sl, s_none, s_zero, s_succ, cl_nil, cl_str, cl_bool, cl_slc, cl_own, evFa, evNil, asEl, evBin, intBin, strBin, evUn, len_nil, len_slc, len_str, clr, List.length_nil, List.length_cons, List.getElem?_cons_zero, List.getElem?_cons_succ, Nat.reduceAdd, Nat.zero_add, Nat.add_zero, Nat.reduceLeDiff, Nat.reduceSub, ↓reduceIte, List.drop_succ_cons, List.drop_zero, List.take_succ_cons, List.take_zero, Bool.false_eq_true, List.nil_append, List.cons_append, Bool.not_true, Bool.not_false, cond_true, cond_false, bne, lv_ret, lv_normal, res1, res2, lv2_some, res_var, res_cell, lvf_v, lvf_slc, res1c, lvo1_some, e_mm, mm_max, mm_min, cl_agg, cl_int, g_agg, e_callv1, cv1_fn, e_slice2, e_clrrow, e_callf2, pick_und, cells_agg, Option.map_some, Option.map_none, bx_some]
        · have hie : i = es.length := by omega
          subst hie
          have hlt := lt_f (n := es.length)
          rw [List.drop_of_length_le (by omega), sizL] at hR
          refine ⟨.exit 0, Vfold c m' es.length es.length .junk (.v (.bool false)), h, ?_, rfl, _, by rw [hR]⟩
          simp only [Vfold, c27_7, c27_3, hlt, run_nil, run_cons, stp_plain, stp_guard, put_some, pass_eq, pick_tt, pick_ff, pick_tf, pick_ft, pick_u, reg_some, thn_normal, thn_exit, thn_ret, cnd_t, cnd_f, blk_normal, blk_ret, blk_exit, x_seq, x_region, x_cond, x_block, x_loop, x_ret, x_exit, x_skip, e_mov, e_pick, pk_t, pk_f, withH_some, e_box, e_load, e_store, stH_some, e_nil, e_bin, e_eqv, eqH_f, eqH_t, e_un, e_fa, e_ia, ia_eq, nat_eq, natV_nat, e_len, lnH_some, e_extract, ex_0, ex_1, e_call0, e_call1, e_call2, e_call3, pc0_eq, pc1_some, pc2_some, pc3_some, fin_some, g_var0, g_vars, g_loc0, g_locs, g_int, g_bool, g_str, g_sl, s_none, s_zero, s_succ, cl_nil, cl_str, cl_bool, cl_slc, cl_own, evFa, evNil, asEl, evBin, intBin, strBin, evUn, len_nil, len_slc, len_str, clr, List.length_nil, List.length_cons, List.getElem?_cons_zero, List.getElem?_cons_succ, Nat.reduceAdd, Nat.zero_add, Nat.add_zero, Nat.reduceLeDiff, Nat.reduceSub, ↓reduceIte, List.drop_succ_cons, List.drop_zero, List.take_succ_cons, List.take_zero, Bool.false_eq_true, List.nil_append, List.cons_append, Bool.not_true, Bool.not_false, cond_true, cond_false, bne, lv_ret, lv_normal, res1, res2, lv2_some, res_var, res_cell, lvf_v, lvf_slc, res1c, lvo1_some, e_mm, mm_max, mm_min, cl_agg, cl_int, g_agg, e_callv1, cv1_fn, e_slice2, e_clrrow, e_callf2, pick_und, cells_agg, Option.map_some, Option.map_none, bx_some])
    have e5 : evLoad [.box 24 [.v (.int .i64 k), .v (.string s), .v (.int .i64 n), c]] false 1 (.ptr 0 3) = some c := rfl
    rw [sizI]
    rw [show c27.body = (.seq (.region [] [] c27_0) (.seq (.region [] [] c27_1) (.seq (.seq (.region [] [] c27_2) (.block 0 (.loop [false, false, false, true, false, true, true, true, false] [] c27_7))) (.seq (.region [] [] c27_8) .ret)))) from rfl, show c27.res = [.var 2] from rfl]
    rw [show start c27 [.agg [.v (.int .i64 k), .v (.string s), .v (.int .i64 n), c]] = [.agg [.v (.int .i64 k), .v (.string s), .v (.int .i64 n), c], .v undef, .v undef, .v undef, .v undef, .v undef, .v undef, .v undef, .v undef] from rfl]
    obtain ⟨rfl, x4, rfl⟩ := g3
    generalize c27_7 = bb at g1 ⊢
    simp only [Vfold, c27_0, c27_1, c27_2, c27_8, e5, q1, g1, run_nil, run_cons, stp_plain, stp_guard, put_some, pass_eq, pick_tt, pick_ff, pick_tf, pick_ft, pick_u, reg_some, thn_normal, thn_exit, thn_ret, cnd_t, cnd_f, blk_normal, blk_ret, blk_exit, x_seq, x_region, x_cond, x_block, x_loop, x_ret, x_exit, x_skip, e_mov, e_pick, pk_t, pk_f, withH_some, e_box, e_load, e_store, stH_some, e_nil, e_bin, e_eqv, eqH_f, eqH_t, e_un, e_fa, e_ia, ia_eq, nat_eq, natV_nat, e_len, lnH_some, e_extract, ex_0, ex_1, e_call0, e_call1, e_call2, e_call3, pc0_eq, pc1_some, pc2_some, pc3_some, fin_some, g_var0, g_vars, g_loc0, g_locs, g_int, g_bool, g_str, g_sl, s_none, s_zero, s_succ, cl_nil, cl_str, cl_bool, cl_slc, cl_own, evFa, evNil, asEl, evBin, intBin, strBin, evUn, len_nil, len_slc, len_str, clr, List.length_nil, List.length_cons, List.getElem?_cons_zero, List.getElem?_cons_succ, Nat.reduceAdd, Nat.zero_add, Nat.add_zero, Nat.reduceLeDiff, Nat.reduceSub, ↓reduceIte, List.drop_succ_cons, List.drop_zero, List.take_succ_cons, List.take_zero, Bool.false_eq_true, List.nil_append, List.cons_append, Bool.not_true, Bool.not_false, cond_true, cond_false, bne, lv_ret, lv_normal, res1, res2, lv2_some, res_var, res_cell, lvf_v, lvf_slc, res1c, lvo1_some, e_mm, mm_max, mm_min, cl_agg, cl_int, g_agg, e_callv1, cv1_fn, e_slice2, e_clrrow, e_callf2, pick_und, cells_agg, Option.map_some, Option.map_none, bx_some]
theorem rsize_ok : ∀ (N : Nat) (t : Tm) (a : AV), SizeOf.sizeOf t < N → IsT a t → callW F 28 [a] [] = some (.v (.int .i64 (sizI t)), []) := by
  intro N
  induction N with
  | zero => intro t a h; omega
  | succ N ih =>
    intro t a hN ha
    cases ha with
    | mk k s n c l hc =>
    obtain ⟨es, hs, hes, hm⟩ := hc.sl
    have hll := hes.length
    refine callW_pure (c := c28) rfl rfl (l.length + 1) ?_
    have q1 := fun h : List AO => hs.len h
    obtain ⟨e, v', h', g1, g2, g3⟩ := loop_rule0 (call := callW F) (K := l.length + 1) (b := c28_7) (keep := [false, false, false, true, false, true, true, true, false])
      (fun i v h => ∃ m', v = Vfold c m' es.length i .junk .junk ∧ sizL (l.drop i) m' = sizL l 1)
      (fun e v h => e = .exit 0 ∧ ∃ x4, v = Vfold c (sizL l 1) es.length es.length x4 (.v (.bool false)))
      l.length (m := l.length + 1) (v := [.agg [.v (.int .i64 k), .v (.string s), .v (.int .i64 n), c], .ptr 0 0, .v (.int .i64 0), .v (.int .i64 1), .v undef, c, .v (.int .i64 es.length), .v (.int .i64 0), .v undef]) (h := [.box 24 [.v (.int .i64 k), .v (.string s), .v (.int .i64 n), c]])
      (by omega) ⟨_, rfl, rfl⟩ (by
        rintro i v h hi ⟨m', rfl, hR⟩
        by_cases hil : i < es.length
        · have hil' : i < l.length := by omega
          have hT := hes.at hil hil'
          have hlt := lt_t hil
          have he : es[i]? = some es[i] := List.getElem?_eq_getElem hil
          have q2 := fun h : List AO => hs.ia he h
          have hf := hT.facts
          have hd : l.drop i = l[i] :: l.drop (i + 1) := List.drop_eq_getElem_cons hil'
          have hw := wrap_succ hil hm
          rw [hd, sizL] at hR
          have hc := ih l[i] es[i] (by have := IsL.mem_size (k := k) (n := n) (s := s) (List.getElem_mem hil'); omega) hT
          refine ⟨.normal, [.junk, .junk, .junk, .v (.int .i64 (IntKind.i64.wrap (m' + sizI l[i]))), .ptr h.length 0, c, .v (.int .i64 es.length), .v (.int .i64 ((i + 1 : Nat) : Int)), .v (.bool true)], h ++ [.box 24 es[i].cells], ?_, by omega, _, rfl, hR⟩
          simp only [Vfold, c28_7, c28_3, c28_4, c28_5, c28_6, hlt, q1, q2, hf, hc, hw, q9z, e_mm, mm_max, run_nil, run_cons, stp_plain, stp_guard, put_some, pass_eq, pick_tt, pick_ff, pick_tf, pick_ft, pick_u, reg_some, thn_normal, thn_exit, thn_ret, cnd_t, cnd_f, blk_normal, blk_ret, blk_exit, x_seq, x_region, x_cond, x_block, x_loop, x_ret, x_exit, x_skip, e_mov, e_pick, pk_t, pk_f, withH_some, e_box, e_load, e_store, stH_some, e_nil, e_bin, e_eqv, eqH_f, eqH_t, e_un, e_fa, e_ia, ia_eq, nat_eq, natV_nat, e_len, lnH_some, e_extract, ex_0, ex_1, e_call0, e_call1, e_call2, e_call3, pc0_eq, pc1_some, pc2_some, pc3_some, fin_some, g_var0, g_vars, g_loc0, g_locs, g_int, g_bool, g_str, g_sl, s_none, s_zero, s_succ, cl_nil, cl_str, cl_bool, cl_slc, cl_own, evFa, evNil, asEl, evBin, intBin, strBin, evUn, len_nil, len_slc, len_str, clr, List.length_nil, List.length_cons, List.getElem?_cons_zero, List.getElem?_cons_succ, Nat.reduceAdd, Nat.zero_add, Nat.add_zero, Nat.reduceLeDiff, Nat.reduceSub, ↓reduceIte, List.drop_succ_cons, List.drop_zero, List.take_succ_cons, List.take_zero, Bool.false_eq_true, List.nil_append, List.cons_append, Bool.not_true, Bool.not_false, cond_true, cond_false, bne, lv_ret, lv_normal, res1, res2, lv2_some, res_var, res_cell, lvf_v, lvf_slc, res1c, lvo1_some, e_mm, mm_max, mm_min, cl_agg, cl_int, g_agg, e_callv1, cv1_fn, e_slice2, e_clrrow, e_callf2, pick_und, cells_agg, Option.map_some, Option.map_none, bx_some]
        · have hie : i = es.length := by omega
          subst hie
          have hlt := lt_f (n := es.length)
          rw [List.drop_of_length_le (by omega), sizL] at hR
          refine ⟨.exit 0, Vfold c m' es.length es.length .junk (.v (.bool false)), h, ?_, rfl, _, by rw [hR]⟩
          simp only [Vfold, c28_7, c28_3, hlt, run_nil, run_cons, stp_plain, stp_guard, put_some, pass_eq, pick_tt, pick_ff, pick_tf, pick_ft, pick_u, reg_some, thn_normal, thn_exit, thn_ret, cnd_t, cnd_f, blk_normal, blk_ret, blk_exit, x_seq, x_region, x_cond, x_block, x_loop, x_ret, x_exit, x_skip, e_mov, e_pick, pk_t, pk_f, withH_some, e_box, e_load, e_store, stH_some, e_nil, e_bin, e_eqv, eqH_f, eqH_t, e_un, e_fa, e_ia, ia_eq, nat_eq, natV_nat, e_len, lnH_some, e_extract, ex_0, ex_1, e_call0, e_call1, e_call2, e_call3, pc0_eq, pc1_some, pc2_some, pc3_some, fin_some, g_var0, g_vars, g_loc0, g_locs, g_int, g_bool, g_str, g_sl, s_none, s_zero, s_succ, cl_nil, cl_str, cl_bool, cl_slc, cl_own, evFa, evNil, asEl, evBin, intBin, strBin, evUn, len_nil, len_slc, len_str, clr, List.length_nil, List.length_cons, List.getElem?_cons_zero, List.getElem?_cons_succ, Nat.reduceAdd, Nat.zero_add, Nat.add_zero, Nat.reduceLeDiff, Nat.reduceSub, ↓reduceIte, List.drop_succ_cons, List.drop_zero, List.take_succ_cons, List.take_zero, Bool.false_eq_true, List.nil_append, List.cons_append, Bool.not_true, Bool.not_false, cond_true, cond_false, bne, lv_ret, lv_normal, res1, res2, lv2_some, res_var, res_cell, lvf_v, lvf_slc, res1c, lvo1_some, e_mm, mm_max, mm_min, cl_agg, cl_int, g_agg, e_callv1, cv1_fn, e_slice2, e_clrrow, e_callf2, pick_und, cells_agg, Option.map_some, Option.map_none, bx_some])
    have e5 : evLoad [.box 24 [.v (.int .i64 k), .v (.string s), .v (.int .i64 n), c]] false 1 (.ptr 0 3) = some c := rfl
    rw [sizI]
    rw [show c28.body = (.seq (.region [] [] c28_0) (.seq (.region [] [] c28_1) (.seq (.seq (.region [] [] c28_2) (.block 0 (.loop [false, false, false, true, false, true, true, true, false] [] c28_7))) (.seq (.region [] [] c28_8) .ret)))) from rfl, show c28.res = [.var 2] from rfl]
    rw [show start c28 [.agg [.v (.int .i64 k), .v (.string s), .v (.int .i64 n), c]] = [.agg [.v (.int .i64 k), .v (.string s), .v (.int .i64 n), c], .v undef, .v undef, .v undef, .v undef, .v undef, .v undef, .v undef, .v undef] from rfl]
    obtain ⟨rfl, x4, rfl⟩ := g3
    generalize c28_7 = bb at g1 ⊢
    simp only [Vfold, c28_0, c28_1, c28_2, c28_8, e5, q1, g1, run_nil, run_cons, stp_plain, stp_guard, put_some, pass_eq, pick_tt, pick_ff, pick_tf, pick_ft, pick_u, reg_some, thn_normal, thn_exit, thn_ret, cnd_t, cnd_f, blk_normal, blk_ret, blk_exit, x_seq, x_region, x_cond, x_block, x_loop, x_ret, x_exit, x_skip, e_mov, e_pick, pk_t, pk_f, withH_some, e_box, e_load, e_store, stH_some, e_nil, e_bin, e_eqv, eqH_f, eqH_t, e_un, e_fa, e_ia, ia_eq, nat_eq, natV_nat, e_len, lnH_some, e_extract, ex_0, ex_1, e_call0, e_call1, e_call2, e_call3, pc0_eq, pc1_some, pc2_some, pc3_some, fin_some, g_var0, g_vars, g_loc0, g_locs, g_int, g_bool, g_str, g_sl, s_none, s_zero, s_succ, cl_nil, cl_str, cl_bool, cl_slc, cl_own, evFa, evNil, asEl, evBin, intBin, strBin, evUn, len_nil, len_slc, len_str, clr, List.length_nil, List.length_cons, List.getElem?_cons_zero, List.getElem?_cons_succ, Nat.reduceAdd, Nat.zero_add, Nat.add_zero, Nat.reduceLeDiff, Nat.reduceSub, ↓reduceIte, List.drop_succ_cons, List.drop_zero, List.take_succ_cons, List.take_zero, Bool.false_eq_true, List.nil_append, List.cons_append, Bool.not_true, Bool.not_false, cond_true, cond_false, bne, lv_ret, lv_normal, res1, res2, lv2_some, res_var, res_cell, lvf_v, lvf_slc, res1c, lvo1_some, e_mm, mm_max, mm_min, cl_agg, cl_int, g_agg, e_callv1, cv1_fn, e_slice2, e_clrrow, e_callf2, pick_und, cells_agg, Option.map_some, Option.map_none, bx_some]
theorem deep_ok : ∀ (N : Nat) (t : Tm) (a : AV), SizeOf.sizeOf t < N → IsT a t → callW F 25 [a] [] = some (.v (.int .i64 (depI t)), []) := by
  intro N
  induction N with
  | zero => intro t a h; omega
  | succ N ih =>
    intro t a hN ha
    cases ha with
    | mk k s n c l hc =>
    obtain ⟨es, hs, hes, hm⟩ := hc.sl
    have hll := hes.length
    refine callW_pure (c := c25) rfl rfl (l.length + 1) ?_
    have q1 := fun h : List AO => hs.len h
    obtain ⟨e, v', h', g1, g2, g3⟩ := loop_rule0 (call := callW F) (K := l.length + 1) (b := c25_7) (keep := [false, false, false, true, false, true, true, true, false])
      (fun i v h => ∃ m', v = Vfold c m' es.length i .junk .junk ∧ depL (l.drop i) m' = depL l 0)
      (fun e v h => e = .exit 0 ∧ ∃ x4, v = Vfold c (depL l 0) es.length es.length x4 (.v (.bool false)))
      l.length (m := l.length + 1) (v := [.agg [.v (.int .i64 k), .v (.string s), .v (.int .i64 n), c], .ptr 0 0, .v (.int .i64 0), .v (.int .i64 0), .v undef, c, .v (.int .i64 es.length), .v (.int .i64 0), .v undef]) (h := [.box 24 [.v (.int .i64 k), .v (.string s), .v (.int .i64 n), c]])
      (by omega) ⟨_, rfl, rfl⟩ (by
        rintro i v h hi ⟨m', rfl, hR⟩
        by_cases hil : i < es.length
        · have hil' : i < l.length := by omega
          have hT := hes.at hil hil'
          have hlt := lt_t hil
          have he : es[i]? = some es[i] := List.getElem?_eq_getElem hil
          have q2 := fun h : List AO => hs.ia he h
          have hf := hT.facts
          have hd : l.drop i = l[i] :: l.drop (i + 1) := List.drop_eq_getElem_cons hil'
          have hw := wrap_succ hil hm
          rw [hd, depL] at hR
          have hc := ih l[i] es[i] (by have := IsL.mem_size (k := k) (n := n) (s := s) (List.getElem_mem hil'); omega) hT
          refine ⟨.normal, [.junk, .junk, .junk, .v (.int .i64 (max m' (depI l[i]))), .ptr h.length 0, c, .v (.int .i64 es.length), .v (.int .i64 ((i + 1 : Nat) : Int)), .v (.bool true)], h ++ [.box 24 es[i].cells], ?_, by omega, _, rfl, hR⟩
          simp only [Vfold, c25_7, c25_3, c25_4, c25_5, c25_6, hlt, q1, q2, hf, hc, hw, q9z, e_mm, mm_max, run_nil, run_cons, stp_plain, stp_guard, put_some, pass_eq, pick_tt, pick_ff, pick_tf, pick_ft, pick_u, reg_some, thn_normal, thn_exit, thn_ret, cnd_t, cnd_f, blk_normal, blk_ret, blk_exit, x_seq, x_region, x_cond, x_block, x_loop, x_ret, x_exit, x_skip, e_mov, e_pick, pk_t, pk_f, withH_some, e_box, e_load, e_store, stH_some, e_nil, e_bin, e_eqv, eqH_f, eqH_t, e_un, e_fa, e_ia, ia_eq, nat_eq, natV_nat, e_len, lnH_some, e_extract, ex_0, ex_1, e_call0, e_call1, e_call2, e_call3, pc0_eq, pc1_some, pc2_some, pc3_some, fin_some, g_var0, g_vars, g_loc0, g_locs, g_int, g_bool, g_str, g_sl, s_none, s_zero, s_succ, cl_nil, cl_str, cl_bool, cl_slc, cl_own, evFa, evNil, asEl, evBin, intBin, strBin, evUn, len_nil, len_slc, len_str, clr, List.length_nil, List.length_cons, List.getElem?_cons_zero, List.getElem?_cons_succ, Nat.reduceAdd, Nat.zero_add, Nat.add_zero, Nat.reduceLeDiff, Nat.reduceSub, ↓reduceIte, List.drop_succ_cons, List.drop_zero, List.take_succ_cons, List.take_zero, Bool.false_eq_true, List.nil_append, List.cons_append, Bool.not_true, Bool.not_false, cond_true, cond_false, bne, lv_ret, lv_normal, res1, res2, lv2_some, res_var, res_cell, lvf_v, lvf_slc, res1c, lvo1_some, e_mm, mm_max, mm_min, cl_agg, cl_int, g_agg, e_callv1, cv1_fn, e_slice2, e_clrrow, e_callf2, pick_und, cells_agg, Option.map_some, Option.map_none, bx_some]
        · have hie : i = es.length := by omega
          subst hie
          have hlt := lt_f (n := es.length)
          rw [List.drop_of_length_le (by omega), depL] at hR
          refine ⟨.exit 0, Vfold c m' es.length es.length .junk (.v (.bool false)), h, ?_, rfl, _, by rw [hR]⟩
          simp only [Vfold, c25_7, c25_3, hlt, run_nil, run_cons, stp_plain, stp_guard, put_some, pass_eq, pick_tt, pick_ff, pick_tf, pick_ft, pick_u, reg_some, thn_normal, thn_exit, thn_ret, cnd_t, cnd_f, blk_normal, blk_ret, blk_exit, x_seq, x_region, x_cond, x_block, x_loop, x_ret, x_exit, x_skip, e_mov, e_pick, pk_t, pk_f, withH_some, e_box, e_load, e_store, stH_some, e_nil, e_bin, e_eqv, eqH_f, eqH_t, e_un, e_fa, e_ia, ia_eq, nat_eq, natV_nat, e_len, lnH_some, e_extract, ex_0, ex_1, e_call0, e_call1, e_call2, e_call3, pc0_eq, pc1_some, pc2_some, pc3_some, fin_some, g_var0, g_vars, g_loc0, g_locs, g_int, g_bool, g_str, g_sl, s_none, s_zero, s_succ, cl_nil, cl_str, cl_bool, cl_slc, cl_own, evFa, evNil, asEl, evBin, intBin, strBin, evUn, len_nil, len_slc, len_str, clr, List.length_nil, List.length_cons, List.getElem?_cons_zero, List.getElem?_cons_succ, Nat.reduceAdd, Nat.zero_add, Nat.add_zero, Nat.reduceLeDiff, Nat.reduceSub, ↓reduceIte, List.drop_succ_cons, List.drop_zero, List.take_succ_cons, List.take_zero, Bool.false_eq_true, List.nil_append, List.cons_append, Bool.not_true, Bool.not_false, cond_true, cond_false, bne, lv_ret, lv_normal, res1, res2, lv2_some, res_var, res_cell, lvf_v, lvf_slc, res1c, lvo1_some, e_mm, mm_max, mm_min, cl_agg, cl_int, g_agg, e_callv1, cv1_fn, e_slice2, e_clrrow, e_callf2, pick_und, cells_agg, Option.map_some, Option.map_none, bx_some])
    have e5 : evLoad [.box 24 [.v (.int .i64 k), .v (.string s), .v (.int .i64 n), c]] false 1 (.ptr 0 3) = some c := rfl
    rw [depI]
    rw [show c25.body = (.seq (.region [] [] c25_0) (.seq (.region [] [] c25_1) (.seq (.seq (.region [] [] c25_2) (.block 0 (.loop [false, false, false, true, false, true, true, true, false] [] c25_7))) (.seq (.region [] [] c25_8) .ret)))) from rfl, show c25.res = [.var 2] from rfl]
    rw [show start c25 [.agg [.v (.int .i64 k), .v (.string s), .v (.int .i64 n), c]] = [.agg [.v (.int .i64 k), .v (.string s), .v (.int .i64 n), c], .v undef, .v undef, .v undef, .v undef, .v undef, .v undef, .v undef, .v undef] from rfl]
    obtain ⟨rfl, x4, rfl⟩ := g3
    generalize c25_7 = bb at g1 ⊢
    simp only [Vfold, c25_0, c25_1, c25_2, c25_8, e5, q1, g1, Int.add_comm 1, run_nil, run_cons, stp_plain, stp_guard, put_some, pass_eq, pick_tt, pick_ff, pick_tf, pick_ft, pick_u, reg_some, thn_normal, thn_exit, thn_ret, cnd_t, cnd_f, blk_normal, blk_ret, blk_exit, x_seq, x_region, x_cond, x_block, x_loop, x_ret, x_exit, x_skip, e_mov, e_pick, pk_t, pk_f, withH_some, e_box, e_load, e_store, stH_some, e_nil, e_bin, e_eqv, eqH_f, eqH_t, e_un, e_fa, e_ia, ia_eq, nat_eq, natV_nat, e_len, lnH_some, e_extract, ex_0, ex_1, e_call0, e_call1, e_call2, e_call3, pc0_eq, pc1_some, pc2_some, pc3_some, fin_some, g_var0, g_vars, g_loc0, g_locs, g_int, g_bool, g_str, g_sl, s_none, s_zero, s_succ, cl_nil, cl_str, cl_bool, cl_slc, cl_own, evFa, evNil, asEl, evBin, intBin, strBin, evUn, len_nil, len_slc, len_str, clr, List.length_nil, List.length_cons, List.getElem?_cons_zero, List.getElem?_cons_succ, Nat.reduceAdd, Nat.zero_add, Nat.add_zero, Nat.reduceLeDiff, Nat.reduceSub, ↓reduceIte, List.drop_succ_cons, List.drop_zero, List.take_succ_cons, List.take_zero, Bool.false_eq_true, List.nil_append, List.cons_append, Bool.not_true, Bool.not_false, cond_true, cond_false, bne, lv_ret, lv_normal, res1, res2, lv2_some, res_var, res_cell, lvf_v, lvf_slc, res1c, lvo1_some, e_mm, mm_max, mm_min, cl_agg, cl_int, g_agg, e_callv1, cv1_fn, e_slice2, e_clrrow, e_callf2, pick_und, cells_agg, Option.map_some, Option.map_none, bx_some]
theorem rdeep_ok : ∀ (N : Nat) (t : Tm) (a : AV), SizeOf.sizeOf t < N → IsT a t → callW F 26 [a] [] = some (.v (.int .i64 (depI t)), []) := by
  intro N
  induction N with
  | zero => intro t a h; omega
  | succ N ih =>
    intro t a hN ha
    cases ha with
    | mk k s n c l hc =>
    obtain ⟨es, hs, hes, hm⟩ := hc.sl
    have hll := hes.length
    refine callW_pure (c := c26) rfl rfl (l.length + 1) ?_
    have q1 := fun h : List AO => hs.len h
    obtain ⟨e, v', h', g1, g2, g3⟩ := loop_rule0 (call := callW F) (K := l.length + 1) (b := c26_7) (keep := [false, false, false, true, false, true, true, true, false])
      (fun i v h => ∃ m', v = Vfold c m' es.length i .junk .junk ∧ depL (l.drop i) m' = depL l 0)
      (fun e v h => e = .exit 0 ∧ ∃ x4, v = Vfold c (depL l 0) es.length es.length x4 (.v (.bool false)))
      l.length (m := l.length + 1) (v := [.agg [.v (.int .i64 k), .v (.string s), .v (.int .i64 n), c], .ptr 0 0, .v (.int .i64 0), .v (.int .i64 0), .v undef, c, .v (.int .i64 es.length), .v (.int .i64 0), .v undef]) (h := [.box 24 [.v (.int .i64 k), .v (.string s), .v (.int .i64 n), c]])
      (by omega) ⟨_, rfl, rfl⟩ (by
        rintro i v h hi ⟨m', rfl, hR⟩
        by_cases hil : i < es.length
        · have hil' : i < l.length := by omega
          have hT := hes.at hil hil'
          have hlt := lt_t hil
          have he : es[i]? = some es[i] := List.getElem?_eq_getElem hil
          have q2 := fun h : List AO => hs.ia he h
          have hf := hT.facts
          have hd : l.drop i = l[i] :: l.drop (i + 1) := List.drop_eq_getElem_cons hil'
          have hw := wrap_succ hil hm
          rw [hd, depL] at hR
          have hc := ih l[i] es[i] (by have := IsL.mem_size (k := k) (n := n) (s := s) (List.getElem_mem hil'); omega) hT
          refine ⟨.normal, [.junk, .junk, .junk, .v (.int .i64 (max m' (depI l[i]))), .ptr h.length 0, c, .v (.int .i64 es.length), .v (.int .i64 ((i + 1 : Nat) : Int)), .v (.bool true)], h ++ [.box 24 es[i].cells], ?_, by omega, _, rfl, hR⟩
          simp only [Vfold, c26_7, c26_3, c26_4, c26_5, c26_6, hlt, q1, q2, hf, hc, hw, q9z, e_mm, mm_max, run_nil, run_cons, stp_plain, stp_guard, put_some, pass_eq, pick_tt, pick_ff, pick_tf, pick_ft, pick_u, reg_some, thn_normal, thn_exit, thn_ret, cnd_t, cnd_f, blk_normal, blk_ret, blk_exit, x_seq, x_region, x_cond, x_block, x_loop, x_ret, x_exit, x_skip, e_mov, e_pick, pk_t, pk_f, withH_some, e_box, e_load, e_store, stH_some, e_nil, e_bin, e_eqv, eqH_f, eqH_t, e_un, e_fa, e_ia, ia_eq, nat_eq, natV_nat, e_len, lnH_some, e_extract, ex_0, ex_1, e_call0, e_call1, e_call2, e_call3, pc0_eq, pc1_some, pc2_some, pc3_some, fin_some, g_var0, g_vars, g_loc0, g_locs, g_int, g_bool, g_str, g_sl, s_none, s_zero, s_succ, cl_nil, cl_str, cl_bool, cl_slc, cl_own, evFa, evNil, asEl, evBin, intBin, strBin, evUn, len_nil, len_slc, len_str, clr, List.length_nil, List.length_cons, List.getElem?_cons_zero, List.getElem?_cons_succ, Nat.reduceAdd, Nat.zero_add, Nat.add_zero, Nat.reduceLeDiff, Nat.reduceSub, ↓reduceIte, List.drop_succ_cons, List.drop_zero, List.take_succ_cons, List.take_zero, Bool.false_eq_true, List.nil_append, List.cons_append, Bool.not_true, Bool.not_false, cond_true, cond_false, bne, lv_ret, lv_normal, res1, res2, lv2_some, res_var, res_cell, lvf_v, lvf_slc, res1c, lvo1_some, e_mm, mm_max, mm_min, cl_agg, cl_int, g_agg, e_callv1, cv1_fn, e_slice2, e_clrrow, e_callf2, pick_und, cells_agg, Option.map_some, Option.map_none, bx_some]
        · have hie : i = es.length := by omega
          subst hie
          have hlt := lt_f (n := es.length)
          rw [List.drop_of_length_le (by omega), depL] at hR
          refine ⟨.exit 0, Vfold c m' es.length es.length .junk (.v (.bool false)), h, ?_, rfl, _, by rw [hR]⟩
          simp only [Vfold, c26_7, c26_3, hlt, run_nil, run_cons, stp_plain, stp_guard, put_some, pass_eq, pick_tt, pick_ff, pick_tf, pick_ft, pick_u, reg_some, thn_normal, thn_exit, thn_ret, cnd_t, cnd_f, blk_normal, blk_ret, blk_exit, x_seq, x_region, x_cond, x_block, x_loop, x_ret, x_exit, x_skip, e_mov, e_pick, pk_t, pk_f, withH_some, e_box, e_load, e_store, stH_some, e_nil, e_bin, e_eqv, eqH_f, eqH_t, e_un, e_fa, e_ia, ia_eq, nat_eq, natV_nat, e_len, lnH_some, e_extract, ex_0, ex_1, e_call0, e_call1, e_call2, e_call3, pc0_eq, pc1_some, pc2_some, pc3_some, fin_some, g_var0, g_vars, g_loc0, g_locs, g_int, g_bool, g_str, g_sl, s_none, s_zero, s_succ, cl_nil, cl_str, cl_bool, cl_slc, cl_own, evFa, evNil, asEl, evBin, intBin, strBin, evUn, len_nil, len_slc, len_str, clr, List.length_nil, List.length_cons, List.getElem?_cons_zero, List.getElem?_cons_succ, Nat.reduceAdd, Nat.zero_add, Nat.add_zero, Nat.reduceLeDiff, Nat.reduceSub, ↓reduceIte, List.drop_succ_cons, List.drop_zero, List.take_succ_cons, List.take_zero, Bool.false_eq_true, List.nil_append, List.cons_append, Bool.not_true, Bool.not_false, cond_true, cond_false, bne, lv_ret, lv_normal, res1, res2, lv2_some, res_var, res_cell, lvf_v, lvf_slc, res1c, lvo1_some, e_mm, mm_max, mm_min, cl_agg, cl_int, g_agg, e_callv1, cv1_fn, e_slice2, e_clrrow, e_callf2, pick_und, cells_agg, Option.map_some, Option.map_none, bx_some])
    have e5 : evLoad [.box 24 [.v (.int .i64 k), .v (.string s), .v (.int .i64 n), c]] false 1 (.ptr 0 3) = some c := rfl
    rw [depI]
    rw [show c26.body = (.seq (.region [] [] c26_0) (.seq (.region [] [] c26_1) (.seq (.seq (.region [] [] c26_2) (.block 0 (.loop [false, false, false, true, false, true, true, true, false] [] c26_7))) (.seq (.region [] [] c26_8) .ret)))) from rfl, show c26.res = [.var 2] from rfl]
    rw [show start c26 [.agg [.v (.int .i64 k), .v (.string s), .v (.int .i64 n), c]] = [.agg [.v (.int .i64 k), .v (.string s), .v (.int .i64 n), c], .v undef, .v undef, .v undef, .v undef, .v undef, .v undef, .v undef, .v undef] from rfl]
    obtain ⟨rfl, x4, rfl⟩ := g3
    generalize c26_7 = bb at g1 ⊢
    simp only [Vfold, c26_0, c26_1, c26_2, c26_8, e5, q1, g1, run_nil, run_cons, stp_plain, stp_guard, put_some, pass_eq, pick_tt, pick_ff, pick_tf, pick_ft, pick_u, reg_some, thn_normal, thn_exit, thn_ret, cnd_t, cnd_f, blk_normal, blk_ret, blk_exit, x_seq, x_region, x_cond, x_block, x_loop, x_ret, x_exit, x_skip, e_mov, e_pick, pk_t, pk_f, withH_some, e_box, e_load, e_store, stH_some, e_nil, e_bin, e_eqv, eqH_f, eqH_t, e_un, e_fa, e_ia, ia_eq, nat_eq, natV_nat, e_len, lnH_some, e_extract, ex_0, ex_1, e_call0, e_call1, e_call2, e_call3, pc0_eq, pc1_some, pc2_some, pc3_some, fin_some, g_var0, g_vars, g_loc0, g_locs, g_int, g_bool, g_str, g_sl, s_none, s_zero, s_succ, cl_nil, cl_str, cl_bool, cl_slc, cl_own, evFa, evNil, asEl, evBin, intBin, strBin, evUn, len_nil, len_slc, len_str, clr, List.length_nil, List.length_cons, List.getElem?_cons_zero, List.getElem?_cons_succ, Nat.reduceAdd, Nat.zero_add, Nat.add_zero, Nat.reduceLeDiff, Nat.reduceSub, ↓reduceIte, List.drop_succ_cons, List.drop_zero, List.take_succ_cons, List.take_zero, Bool.false_eq_true, List.nil_append, List.cons_append, Bool.not_true, Bool.not_false, cond_true, cond_false, bne, lv_ret, lv_normal, res1, res2, lv2_some, res_var, res_cell, lvf_v, lvf_slc, res1c, lvo1_some, e_mm, mm_max, mm_min, cl_agg, cl_int, g_agg, e_callv1, cv1_fn, e_slice2, e_clrrow, e_callf2, pick_und, cells_agg, Option.map_some, Option.map_none, bx_some]
end Go.AE.YtgcbaefclkfnoaaDoor
end

/-! Whether a term may be: the program's Check and the document's. -/
section
set_option linter.unusedVariables false
set_option linter.unusedSimpArgs false
namespace Go.AE.YtgcbaefclkfnoaaDoor
open Go Go.AE Go.Proofs.YtgcbaefclkfnoaaDoor

def chkS (s : ByteArray) : Bool := decide ((s.size : Int) ≤ 255) && Lib.validD s.data.toList
def noS (s : ByteArray) : Bool := s.toList == (⟨#[]⟩ : ByteArray).toList
mutual
def mayT : Tm → Bool
  | .mk k s n l =>
    if (k == 1) = true then ((l.length : Int) == 0) && (noS s && decide (n ≥ 0))
    else if (k == 2) = true then ((l.length : Int) == 0) && ((n == 0) && chkS s)
    else if (k == 3) = true then ((l.length : Int) == 0) && noS s
    else if (k == 4) = true then !((l.length : Int) == 0) && ((n == 0) && (decide ((l.length : Int) ≤ 16) && (chkS s && mayL l)))
    else false
def mayL : List Tm → Bool
  | [] => true
  | a :: l => mayT a && mayL l
end
theorem valid_call (s : ByteArray) (h : s.size ≤ 9223372036854775807) : callW F 75 [.v (.string s)] [] = some (.v (.bool (Lib.validD s.data.toList)), []) := by
  refine callW_oracle (g := validG) rfl ?_
  simp only [validG, h, if_true]
theorem chk_ok (s : ByteArray) : callW F 70 [.v (.string s)] [] = some (.v (.bool (chkS s)), []) := by
  refine callW_pure (c := c70) rfl rfl 0 ?_
  unfold chkS
  cases h1 : decide ((s.size : Int) ≤ 255) with
  | true =>
    have hc := valid_call s (by simp at h1; omega)
    simp only [c70, start, List.replicate, c70_0, c70_1, h1, hc, snap_str, Bool.true_and, run_nil, run_cons, stp_plain, stp_guard, put_some, pass_eq, pick_tt, pick_ff, pick_tf, pick_ft, pick_u, reg_some, thn_normal, thn_exit, thn_ret, cnd_t, cnd_f, blk_normal, blk_ret, blk_exit, x_seq, x_region, x_cond, x_block, x_loop, x_ret, x_exit, x_skip, e_mov, e_pick, pk_t, pk_f, withH_some, e_box, e_load, e_store, stH_some, e_nil, e_bin, e_eqv, eqH_f, eqH_t, e_un, e_fa, e_ia, ia_eq, nat_eq, natV_nat, e_len, lnH_some, e_extract, ex_0, ex_1, e_call0, e_call1, e_call2, e_call3, pc0_eq, pc1_some, pc2_some, pc3_some, fin_some, g_var0, g_vars, g_loc0, g_locs, g_int, g_bool, g_str, g_sl, s_none, s_zero, s_succ, cl_nil, cl_str, cl_bool, cl_slc, cl_own, evFa, evNil, asEl, evBin, intBin, strBin, evUn, len_nil, len_slc, len_str, clr, List.length_nil, List.length_cons, List.getElem?_cons_zero, List.getElem?_cons_succ, Nat.reduceAdd, Nat.zero_add, Nat.add_zero, Nat.reduceLeDiff, Nat.reduceSub, ↓reduceIte, List.drop_succ_cons, List.drop_zero, List.take_succ_cons, List.take_zero, Bool.false_eq_true, List.nil_append, List.cons_append, Bool.not_true, Bool.not_false, cond_true, cond_false, bne, lv_ret, lv_normal, res1, res2, lv2_some, res_var, res_cell, lvf_v, lvf_slc, res1c, lvo1_some, e_mm, mm_max, mm_min, cl_agg, cl_int, g_agg, e_callv1, cv1_fn, e_slice2, e_clrrow, e_callf2, pick_und, cells_agg, Option.map_some, Option.map_none, bx_some]
  | false => simp only [c70, start, List.replicate, c70_0, c70_1, h1, Bool.false_and, run_nil, run_cons, stp_plain, stp_guard, put_some, pass_eq, pick_tt, pick_ff, pick_tf, pick_ft, pick_u, reg_some, thn_normal, thn_exit, thn_ret, cnd_t, cnd_f, blk_normal, blk_ret, blk_exit, x_seq, x_region, x_cond, x_block, x_loop, x_ret, x_exit, x_skip, e_mov, e_pick, pk_t, pk_f, withH_some, e_box, e_load, e_store, stH_some, e_nil, e_bin, e_eqv, eqH_f, eqH_t, e_un, e_fa, e_ia, ia_eq, nat_eq, natV_nat, e_len, lnH_some, e_extract, ex_0, ex_1, e_call0, e_call1, e_call2, e_call3, pc0_eq, pc1_some, pc2_some, pc3_some, fin_some, g_var0, g_vars, g_loc0, g_locs, g_int, g_bool, g_str, g_sl, s_none, s_zero, s_succ, cl_nil, cl_str, cl_bool, cl_slc, cl_own, evFa, evNil, asEl, evBin, intBin, strBin, evUn, len_nil, len_slc, len_str, clr, List.length_nil, List.length_cons, List.getElem?_cons_zero, List.getElem?_cons_succ, Nat.reduceAdd, Nat.zero_add, Nat.add_zero, Nat.reduceLeDiff, Nat.reduceSub, ↓reduceIte, List.drop_succ_cons, List.drop_zero, List.take_succ_cons, List.take_zero, Bool.false_eq_true, List.nil_append, List.cons_append, Bool.not_true, Bool.not_false, cond_true, cond_false, bne, lv_ret, lv_normal, res1, res2, lv2_some, res_var, res_cell, lvf_v, lvf_slc, res1c, lvo1_some, e_mm, mm_max, mm_min, cl_agg, cl_int, g_agg, e_callv1, cv1_fn, e_slice2, e_clrrow, e_callf2, pick_und, cells_agg, Option.map_some, Option.map_none, bx_some]
theorem rchk_ok (s : ByteArray) : callW F 62 [.v (.string s)] [] = some (.v (.bool (chkS s)), []) := by
  refine callW_pure (c := c62) rfl rfl 0 ?_
  unfold chkS
  cases h1 : decide ((s.size : Int) ≤ 255) with
  | true =>
    have hc := valid_call s (by simp at h1; omega)
    simp only [c62, start, List.replicate, c62_0, c62_1, h1, hc, snap_str, Bool.true_and, run_nil, run_cons, stp_plain, stp_guard, put_some, pass_eq, pick_tt, pick_ff, pick_tf, pick_ft, pick_u, reg_some, thn_normal, thn_exit, thn_ret, cnd_t, cnd_f, blk_normal, blk_ret, blk_exit, x_seq, x_region, x_cond, x_block, x_loop, x_ret, x_exit, x_skip, e_mov, e_pick, pk_t, pk_f, withH_some, e_box, e_load, e_store, stH_some, e_nil, e_bin, e_eqv, eqH_f, eqH_t, e_un, e_fa, e_ia, ia_eq, nat_eq, natV_nat, e_len, lnH_some, e_extract, ex_0, ex_1, e_call0, e_call1, e_call2, e_call3, pc0_eq, pc1_some, pc2_some, pc3_some, fin_some, g_var0, g_vars, g_loc0, g_locs, g_int, g_bool, g_str, g_sl, s_none, s_zero, s_succ, cl_nil, cl_str, cl_bool, cl_slc, cl_own, evFa, evNil, asEl, evBin, intBin, strBin, evUn, len_nil, len_slc, len_str, clr, List.length_nil, List.length_cons, List.getElem?_cons_zero, List.getElem?_cons_succ, Nat.reduceAdd, Nat.zero_add, Nat.add_zero, Nat.reduceLeDiff, Nat.reduceSub, ↓reduceIte, List.drop_succ_cons, List.drop_zero, List.take_succ_cons, List.take_zero, Bool.false_eq_true, List.nil_append, List.cons_append, Bool.not_true, Bool.not_false, cond_true, cond_false, bne, lv_ret, lv_normal, res1, res2, lv2_some, res_var, res_cell, lvf_v, lvf_slc, res1c, lvo1_some, e_mm, mm_max, mm_min, cl_agg, cl_int, g_agg, e_callv1, cv1_fn, e_slice2, e_clrrow, e_callf2, pick_und, cells_agg, Option.map_some, Option.map_none, bx_some]
  | false => simp only [c62, start, List.replicate, c62_0, c62_1, h1, Bool.false_and, run_nil, run_cons, stp_plain, stp_guard, put_some, pass_eq, pick_tt, pick_ff, pick_tf, pick_ft, pick_u, reg_some, thn_normal, thn_exit, thn_ret, cnd_t, cnd_f, blk_normal, blk_ret, blk_exit, x_seq, x_region, x_cond, x_block, x_loop, x_ret, x_exit, x_skip, e_mov, e_pick, pk_t, pk_f, withH_some, e_box, e_load, e_store, stH_some, e_nil, e_bin, e_eqv, eqH_f, eqH_t, e_un, e_fa, e_ia, ia_eq, nat_eq, natV_nat, e_len, lnH_some, e_extract, ex_0, ex_1, e_call0, e_call1, e_call2, e_call3, pc0_eq, pc1_some, pc2_some, pc3_some, fin_some, g_var0, g_vars, g_loc0, g_locs, g_int, g_bool, g_str, g_sl, s_none, s_zero, s_succ, cl_nil, cl_str, cl_bool, cl_slc, cl_own, evFa, evNil, asEl, evBin, intBin, strBin, evUn, len_nil, len_slc, len_str, clr, List.length_nil, List.length_cons, List.getElem?_cons_zero, List.getElem?_cons_succ, Nat.reduceAdd, Nat.zero_add, Nat.add_zero, Nat.reduceLeDiff, Nat.reduceSub, ↓reduceIte, List.drop_succ_cons, List.drop_zero, List.take_succ_cons, List.take_zero, Bool.false_eq_true, List.nil_append, List.cons_append, Bool.not_true, Bool.not_false, cond_true, cond_false, bne, lv_ret, lv_normal, res1, res2, lv2_some, res_var, res_cell, lvf_v, lvf_slc, res1c, lvo1_some, e_mm, mm_max, mm_min, cl_agg, cl_int, g_agg, e_callv1, cv1_fn, e_slice2, e_clrrow, e_callf2, pick_und, cells_agg, Option.map_some, Option.map_none, bx_some]

def tb (k n : Int) (s : ByteArray) (c : AV) : AO := .box 24 [.v (.int .i64 k), .v (.string s), .v (.int .i64 n), c]
section
variable {k n : Int} {s : ByteArray} {c : AV} {G : List AO}
theorem tb0 : evLoad (tb k n s c :: G) false 1 (.ptr 0 0) = some (.v (.int .i64 k)) := rfl
theorem tb1 : evLoad (tb k n s c :: G) false 1 (.ptr 0 1) = some (.v (.string s)) := rfl
theorem tb2 : evLoad (tb k n s c :: G) false 1 (.ptr 0 2) = some (.v (.int .i64 n)) := rfl
theorem tb3 : evLoad (tb k n s c :: G) false 1 (.ptr 0 3) = some c := rfl
theorem tb4 : evLoad (tb k n s c :: G) true 4 (.ptr 0 0) = some (.agg [.v (.int .i64 k), .v (.string s), .v (.int .i64 n), c]) := rfl
theorem tbx : bx [] 24 (some [.v (.int .i64 k), .v (.string s), .v (.int .i64 n), c]) = some (.ptr 0 0, [tb k n s c]) := rfl
end

def V54 (b : Bool) (i : Int) (x11 : AV) : List AV := [.junk, .ptr 0 0, .junk, .junk, .v (.bool b), .v (.int .i64 i), .junk, .junk, .junk, .junk, .junk, x11]
def K54 : List Bool := [false, true, false, false, true, true, false, false, false, false, false, false]
theorem may_ok : ∀ (N : Nat) (t : Tm) (a : AV), SizeOf.sizeOf t < N → IsT a t → callW F 54 [a] [] = some (.v (.bool (mayT t)), []) := by
  intro N
  induction N with
  | zero => intro t a h; omega
  | succ N ih =>
    intro t a hN ha
    cases ha with
    | mk k s n c l hc =>
    obtain ⟨es, hs, hes, hm⟩ := hc.sl
    have hll := hes.length
    refine callW_pure (c := c54) rfl rfl (l.length + 1) ?_
    have q1 := fun h : List AO => hs.len h
    rw [hll] at q1
    have hchk := chk_ok s
    have loop : ∀ (b0 : Bool) (v : List AV), clr K54 v = V54 b0 0 .junk → ∃ x11, ∃ i : Int, loopN (exec (callW F) (l.length + 1) c54_15) K54 (l.length + 1) v [tb k n s c] = some (.exit 1, V54 (b0 && mayL l) i x11, [tb k n s c]) := by
      intro b0 v hv
      obtain ⟨e, v', h', g1, g2, g3⟩ := loop_rule0 (call := callW F) (K := l.length + 1) (b := c54_15) (keep := K54)
        (fun i v h => ∃ b, v = V54 b i .junk ∧ (b && mayL (l.drop i)) = (b0 && mayL l) ∧ h = [tb k n s c])
        (fun e v h => e = .exit 1 ∧ (∃ x11, ∃ i : Int, v = V54 (b0 && mayL l) i x11) ∧ h = [tb k n s c])
        l.length (m := l.length + 1) (v := v) (h := [tb k n s c]) (by omega) ⟨b0, hv, rfl, rfl⟩ (by
          rintro i v h hi ⟨b, rfl, hR, rfl⟩
          cases b with
          | false =>
            rw [Bool.false_and] at hR
            refine ⟨.exit 1, V54 false i (.v (.bool false)), _, ?_, rfl, ⟨_, i, by rw [← hR]⟩, rfl⟩
            simp only [V54, c54_15, c54_12, run_nil, run_cons, stp_plain, stp_guard, put_some, pass_eq, pick_tt, pick_ff, pick_tf, pick_ft, pick_u, reg_some, thn_normal, thn_exit, thn_ret, cnd_t, cnd_f, blk_normal, blk_ret, blk_exit, x_seq, x_region, x_cond, x_block, x_loop, x_ret, x_exit, x_skip, e_mov, e_pick, pk_t, pk_f, withH_some, e_box, e_load, e_store, stH_some, e_nil, e_bin, e_eqv, eqH_f, eqH_t, e_un, e_fa, e_ia, ia_eq, nat_eq, natV_nat, e_len, lnH_some, e_extract, ex_0, ex_1, e_call0, e_call1, e_call2, e_call3, pc0_eq, pc1_some, pc2_some, pc3_some, fin_some, g_var0, g_vars, g_loc0, g_locs, g_int, g_bool, g_str, g_sl, s_none, s_zero, s_succ, cl_nil, cl_str, cl_bool, cl_slc, cl_own, evFa, evNil, asEl, evBin, intBin, strBin, evUn, len_nil, len_slc, len_str, clr, List.length_nil, List.length_cons, List.getElem?_cons_zero, List.getElem?_cons_succ, Nat.reduceAdd, Nat.zero_add, Nat.add_zero, Nat.reduceLeDiff, Nat.reduceSub, ↓reduceIte, List.drop_succ_cons, List.drop_zero, List.take_succ_cons, List.take_zero, Bool.false_eq_true, List.nil_append, List.cons_append, Bool.not_true, Bool.not_false, cond_true, cond_false, bne, lv_ret, lv_normal, res1, res2, lv2_some, res_var, res_cell, lvf_v, lvf_slc, res1c, lvo1_some, e_mm, mm_max, mm_min, cl_agg, cl_int, g_agg, e_callv1, cv1_fn, e_slice2, e_clrrow, e_callf2, pick_und, cells_agg, Option.map_some, Option.map_none, bx_some]
          | true =>
            by_cases hil' : i < l.length
            · have hil : i < es.length := by omega
              have hT := hes.at hil hil'
              have hlt := lt_t hil'
              have he : es[i]? = some es[i] := List.getElem?_eq_getElem hil
              have q2 := fun h : List AO => hs.ia he h
              have hf := hT.facts
              have hd : l.drop i = l[i] :: l.drop (i + 1) := List.drop_eq_getElem_cons hil'
              have hw := wrap_succ hil hm
              have hc := ih l[i] es[i] (by have := IsL.mem_size (k := k) (n := n) (s := s) (List.getElem_mem hil'); omega) hT
              rw [hd, mayL, Bool.true_and] at hR
              refine ⟨.normal, V54 (mayT l[i]) ((i + 1 : Nat) : Int) (.v (.bool true)), [tb k n s c], ?_, hil', _, rfl, hR, rfl⟩
              simp only [V54, c54_15, c54_12, c54_13, c54_14, hlt, q1, q2, hf, hc, hw, tb3, run_nil, run_cons, stp_plain, stp_guard, put_some, pass_eq, pick_tt, pick_ff, pick_tf, pick_ft, pick_u, reg_some, thn_normal, thn_exit, thn_ret, cnd_t, cnd_f, blk_normal, blk_ret, blk_exit, x_seq, x_region, x_cond, x_block, x_loop, x_ret, x_exit, x_skip, e_mov, e_pick, pk_t, pk_f, withH_some, e_box, e_load, e_store, stH_some, e_nil, e_bin, e_eqv, eqH_f, eqH_t, e_un, e_fa, e_ia, ia_eq, nat_eq, natV_nat, e_len, lnH_some, e_extract, ex_0, ex_1, e_call0, e_call1, e_call2, e_call3, pc0_eq, pc1_some, pc2_some, pc3_some, fin_some, g_var0, g_vars, g_loc0, g_locs, g_int, g_bool, g_str, g_sl, s_none, s_zero, s_succ, cl_nil, cl_str, cl_bool, cl_slc, cl_own, evFa, evNil, asEl, evBin, intBin, strBin, evUn, len_nil, len_slc, len_str, clr, List.length_nil, List.length_cons, List.getElem?_cons_zero, List.getElem?_cons_succ, Nat.reduceAdd, Nat.zero_add, Nat.add_zero, Nat.reduceLeDiff, Nat.reduceSub, ↓reduceIte, List.drop_succ_cons, List.drop_zero, List.take_succ_cons, List.take_zero, Bool.false_eq_true, List.nil_append, List.cons_append, Bool.not_true, Bool.not_false, cond_true, cond_false, bne, lv_ret, lv_normal, res1, res2, lv2_some, res_var, res_cell, lvf_v, lvf_slc, res1c, lvo1_some, e_mm, mm_max, mm_min, cl_agg, cl_int, g_agg, e_callv1, cv1_fn, e_slice2, e_clrrow, e_callf2, pick_und, cells_agg, Option.map_some, Option.map_none, bx_some]
            · have hie : i = l.length := by omega
              subst hie
              have hlt := lt_f (n := l.length)
              rw [List.drop_of_length_le (Nat.le_refl _), mayL, Bool.and_true] at hR
              refine ⟨.exit 1, V54 true l.length (.v (.bool false)), _, ?_, rfl, ⟨_, _, by rw [← hR]⟩, rfl⟩
              simp only [V54, c54_15, c54_12, hlt, q1, tb3, run_nil, run_cons, stp_plain, stp_guard, put_some, pass_eq, pick_tt, pick_ff, pick_tf, pick_ft, pick_u, reg_some, thn_normal, thn_exit, thn_ret, cnd_t, cnd_f, blk_normal, blk_ret, blk_exit, x_seq, x_region, x_cond, x_block, x_loop, x_ret, x_exit, x_skip, e_mov, e_pick, pk_t, pk_f, withH_some, e_box, e_load, e_store, stH_some, e_nil, e_bin, e_eqv, eqH_f, eqH_t, e_un, e_fa, e_ia, ia_eq, nat_eq, natV_nat, e_len, lnH_some, e_extract, ex_0, ex_1, e_call0, e_call1, e_call2, e_call3, pc0_eq, pc1_some, pc2_some, pc3_some, fin_some, g_var0, g_vars, g_loc0, g_locs, g_int, g_bool, g_str, g_sl, s_none, s_zero, s_succ, cl_nil, cl_str, cl_bool, cl_slc, cl_own, evFa, evNil, asEl, evBin, intBin, strBin, evUn, len_nil, len_slc, len_str, clr, List.length_nil, List.length_cons, List.getElem?_cons_zero, List.getElem?_cons_succ, Nat.reduceAdd, Nat.zero_add, Nat.add_zero, Nat.reduceLeDiff, Nat.reduceSub, ↓reduceIte, List.drop_succ_cons, List.drop_zero, List.take_succ_cons, List.take_zero, Bool.false_eq_true, List.nil_append, List.cons_append, Bool.not_true, Bool.not_false, cond_true, cond_false, bne, lv_ret, lv_normal, res1, res2, lv2_some, res_var, res_cell, lvf_v, lvf_slc, res1c, lvo1_some, e_mm, mm_max, mm_min, cl_agg, cl_int, g_agg, e_callv1, cv1_fn, e_slice2, e_clrrow, e_callf2, pick_und, cells_agg, Option.map_some, Option.map_none, bx_some])
      obtain ⟨rfl, ⟨x11, i, rfl⟩, rfl⟩ := g3
      exact ⟨x11, i, g1⟩
    rw [mayT]
    rw [show c54.body = (.seq (.region [] [] c54_0) (.seq (.region [] [] c54_1) (.seq (.seq (.region [] [] c54_2) (.block 0 (.seq (.region [] [] c54_3) (.cond (.var 7) (.seq (.region [] [] c54_4) .ret) (.seq (.region [] [] c54_5) (.cond (.var 8) (.seq (.region [] [] c54_6) .ret) (.seq (.region [] [] c54_7) (.cond (.var 9) (.seq (.region [] [] c54_8) .ret) (.seq (.region [] [] c54_9) (.cond (.var 10) (.seq (.region [] [] c54_10) (.seq (.seq (.region [] [] c54_11) (.block 1 (.loop K54 [] c54_15))) (.seq (.region [] [] c54_16) .ret))) .skip)))))))))) (.seq (.region [] [] c54_17) .ret)))) from rfl, show c54.res = [.var 2] from rfl]
    rw [show start c54 [.agg [.v (.int .i64 k), .v (.string s), .v (.int .i64 n), c]] = [.agg [.v (.int .i64 k), .v (.string s), .v (.int .i64 n), c], .v undef, .v undef, .v undef, .v undef, .v undef, .v undef, .v undef, .v undef, .v undef, .v undef, .v undef] from rfl]
    generalize c54_15 = bb at loop ⊢
    generalize hA : ((l.length : Int) == 0) = A
    generalize hB : noS s = B
    unfold noS at hB
    generalize hC : decide (n ≥ 0) = C
    generalize hD : (n == 0) = D
    generalize hE : decide ((l.length : Int) ≤ 16) = E
    generalize chkS s = G at hchk ⊢
    cases h1 : (k == 1) with
    | true => cases A <;> cases B <;> simp only [c54_0, c54_1, c54_2, c54_3, c54_4, tbx, tb0, tb1, tb2, tb3, q1, h1, hA, hB, hC, Bool.true_and, Bool.false_and, Bool.and_self, run_nil, run_cons, stp_plain, stp_guard, put_some, pass_eq, pick_tt, pick_ff, pick_tf, pick_ft, pick_u, reg_some, thn_normal, thn_exit, thn_ret, cnd_t, cnd_f, blk_normal, blk_ret, blk_exit, x_seq, x_region, x_cond, x_block, x_loop, x_ret, x_exit, x_skip, e_mov, e_pick, pk_t, pk_f, withH_some, e_box, e_load, e_store, stH_some, e_nil, e_bin, e_eqv, eqH_f, eqH_t, e_un, e_fa, e_ia, ia_eq, nat_eq, natV_nat, e_len, lnH_some, e_extract, ex_0, ex_1, e_call0, e_call1, e_call2, e_call3, pc0_eq, pc1_some, pc2_some, pc3_some, fin_some, g_var0, g_vars, g_loc0, g_locs, g_int, g_bool, g_str, g_sl, s_none, s_zero, s_succ, cl_nil, cl_str, cl_bool, cl_slc, cl_own, evFa, evNil, asEl, evBin, intBin, strBin, evUn, len_nil, len_slc, len_str, clr, List.length_nil, List.length_cons, List.getElem?_cons_zero, List.getElem?_cons_succ, Nat.reduceAdd, Nat.zero_add, Nat.add_zero, Nat.reduceLeDiff, Nat.reduceSub, ↓reduceIte, List.drop_succ_cons, List.drop_zero, List.take_succ_cons, List.take_zero, Bool.false_eq_true, List.nil_append, List.cons_append, Bool.not_true, Bool.not_false, cond_true, cond_false, bne, lv_ret, lv_normal, res1, res2, lv2_some, res_var, res_cell, lvf_v, lvf_slc, res1c, lvo1_some, e_mm, mm_max, mm_min, cl_agg, cl_int, g_agg, e_callv1, cv1_fn, e_slice2, e_clrrow, e_callf2, pick_und, cells_agg, Option.map_some, Option.map_none]
    | false =>
    cases h3 : (k == 3) with
    | true =>
      have h2 : (k == 2) = false := by simp at h3 ⊢; omega
      cases A <;> simp only [c54_0, c54_1, c54_2, c54_3, c54_4, c54_5, c54_6, tbx, tb0, tb1, tb2, tb3, q1, h1, h2, h3, hA, hB, Bool.true_and, Bool.false_and, run_nil, run_cons, stp_plain, stp_guard, put_some, pass_eq, pick_tt, pick_ff, pick_tf, pick_ft, pick_u, reg_some, thn_normal, thn_exit, thn_ret, cnd_t, cnd_f, blk_normal, blk_ret, blk_exit, x_seq, x_region, x_cond, x_block, x_loop, x_ret, x_exit, x_skip, e_mov, e_pick, pk_t, pk_f, withH_some, e_box, e_load, e_store, stH_some, e_nil, e_bin, e_eqv, eqH_f, eqH_t, e_un, e_fa, e_ia, ia_eq, nat_eq, natV_nat, e_len, lnH_some, e_extract, ex_0, ex_1, e_call0, e_call1, e_call2, e_call3, pc0_eq, pc1_some, pc2_some, pc3_some, fin_some, g_var0, g_vars, g_loc0, g_locs, g_int, g_bool, g_str, g_sl, s_none, s_zero, s_succ, cl_nil, cl_str, cl_bool, cl_slc, cl_own, evFa, evNil, asEl, evBin, intBin, strBin, evUn, len_nil, len_slc, len_str, clr, List.length_nil, List.length_cons, List.getElem?_cons_zero, List.getElem?_cons_succ, Nat.reduceAdd, Nat.zero_add, Nat.add_zero, Nat.reduceLeDiff, Nat.reduceSub, ↓reduceIte, List.drop_succ_cons, List.drop_zero, List.take_succ_cons, List.take_zero, Bool.false_eq_true, List.nil_append, List.cons_append, Bool.not_true, Bool.not_false, cond_true, cond_false, bne, lv_ret, lv_normal, res1, res2, lv2_some, res_var, res_cell, lvf_v, lvf_slc, res1c, lvo1_some, e_mm, mm_max, mm_min, cl_agg, cl_int, g_agg, e_callv1, cv1_fn, e_slice2, e_clrrow, e_callf2, pick_und, cells_agg, Option.map_some, Option.map_none]
    | false =>
    cases h2 : (k == 2) with
    | true => cases A <;> cases D <;> simp only [c54_0, c54_1, c54_2, c54_3, c54_4, c54_5, c54_6, c54_7, c54_8, tbx, tb0, tb1, tb2, tb3, q1, h1, h2, h3, hA, hD, hchk, snap_str, Bool.true_and, Bool.false_and, run_nil, run_cons, stp_plain, stp_guard, put_some, pass_eq, pick_tt, pick_ff, pick_tf, pick_ft, pick_u, reg_some, thn_normal, thn_exit, thn_ret, cnd_t, cnd_f, blk_normal, blk_ret, blk_exit, x_seq, x_region, x_cond, x_block, x_loop, x_ret, x_exit, x_skip, e_mov, e_pick, pk_t, pk_f, withH_some, e_box, e_load, e_store, stH_some, e_nil, e_bin, e_eqv, eqH_f, eqH_t, e_un, e_fa, e_ia, ia_eq, nat_eq, natV_nat, e_len, lnH_some, e_extract, ex_0, ex_1, e_call0, e_call1, e_call2, e_call3, pc0_eq, pc1_some, pc2_some, pc3_some, fin_some, g_var0, g_vars, g_loc0, g_locs, g_int, g_bool, g_str, g_sl, s_none, s_zero, s_succ, cl_nil, cl_str, cl_bool, cl_slc, cl_own, evFa, evNil, asEl, evBin, intBin, strBin, evUn, len_nil, len_slc, len_str, clr, List.length_nil, List.length_cons, List.getElem?_cons_zero, List.getElem?_cons_succ, Nat.reduceAdd, Nat.zero_add, Nat.add_zero, Nat.reduceLeDiff, Nat.reduceSub, ↓reduceIte, List.drop_succ_cons, List.drop_zero, List.take_succ_cons, List.take_zero, Bool.false_eq_true, List.nil_append, List.cons_append, Bool.not_true, Bool.not_false, cond_true, cond_false, bne, lv_ret, lv_normal, res1, res2, lv2_some, res_var, res_cell, lvf_v, lvf_slc, res1c, lvo1_some, e_mm, mm_max, mm_min, cl_agg, cl_int, g_agg, e_callv1, cv1_fn, e_slice2, e_clrrow, e_callf2, pick_und, cells_agg, Option.map_some, Option.map_none]
    | false =>
    cases h4 : (k == 4) with
    | false => simp only [c54_0, c54_1, c54_2, c54_3, c54_4, c54_5, c54_6, c54_7, c54_8, c54_9, c54_17, tbx, tb0, tb1, tb2, tb3, q1, h1, h2, h3, h4, run_nil, run_cons, stp_plain, stp_guard, put_some, pass_eq, pick_tt, pick_ff, pick_tf, pick_ft, pick_u, reg_some, thn_normal, thn_exit, thn_ret, cnd_t, cnd_f, blk_normal, blk_ret, blk_exit, x_seq, x_region, x_cond, x_block, x_loop, x_ret, x_exit, x_skip, e_mov, e_pick, pk_t, pk_f, withH_some, e_box, e_load, e_store, stH_some, e_nil, e_bin, e_eqv, eqH_f, eqH_t, e_un, e_fa, e_ia, ia_eq, nat_eq, natV_nat, e_len, lnH_some, e_extract, ex_0, ex_1, e_call0, e_call1, e_call2, e_call3, pc0_eq, pc1_some, pc2_some, pc3_some, fin_some, g_var0, g_vars, g_loc0, g_locs, g_int, g_bool, g_str, g_sl, s_none, s_zero, s_succ, cl_nil, cl_str, cl_bool, cl_slc, cl_own, evFa, evNil, asEl, evBin, intBin, strBin, evUn, len_nil, len_slc, len_str, clr, List.length_nil, List.length_cons, List.getElem?_cons_zero, List.getElem?_cons_succ, Nat.reduceAdd, Nat.zero_add, Nat.add_zero, Nat.reduceLeDiff, Nat.reduceSub, ↓reduceIte, List.drop_succ_cons, List.drop_zero, List.take_succ_cons, List.take_zero, Bool.false_eq_true, List.nil_append, List.cons_append, Bool.not_true, Bool.not_false, cond_true, cond_false, bne, lv_ret, lv_normal, res1, res2, lv2_some, res_var, res_cell, lvf_v, lvf_slc, res1c, lvo1_some, e_mm, mm_max, mm_min, cl_agg, cl_int, g_agg, e_callv1, cv1_fn, e_slice2, e_clrrow, e_callf2, pick_und, cells_agg, Option.map_some, Option.map_none]
    | true =>
      have fin : ∀ (v : List AV) (b0 : Bool), clr K54 v = V54 b0 0 .junk → ∃ x11, ∃ i : Int, loopN (exec (callW F) (l.length + 1) bb) K54 (l.length + 1) v [tb k n s c] = some (.exit 1, V54 (b0 && mayL l) i x11, [tb k n s c]) := fun v b0 hv => loop b0 v hv
      obtain ⟨y1, i1, p1⟩ := fin [.agg [.v (.int .i64 k), .v (.string s), .v (.int .i64 n), c], .ptr 0 0, .v (.bool false), .v (.bool A), .v (.bool (!A && (D && (E && G)))), .v (.int .i64 0), .v (.int .i64 k), .v (.bool false), .v (.bool false), .v (.bool false), .v (.bool true), .v undef] (!A && (D && (E && G))) rfl
      cases A <;> cases D <;> cases E <;> simp only [Bool.not_true, Bool.not_false, Bool.true_and, Bool.false_and] at p1 <;>
        simp only [c54_0, c54_1, c54_2, c54_3, c54_4, c54_5, c54_6, c54_7, c54_8, c54_9, c54_10, c54_11, c54_16, V54, tbx, tb0, tb1, tb2, tb3, q1, h1, h2, h3, h4, hA, hD, hE, hchk, p1, snap_str, Bool.true_and, Bool.false_and, run_nil, run_cons, stp_plain, stp_guard, put_some, pass_eq, pick_tt, pick_ff, pick_tf, pick_ft, pick_u, reg_some, thn_normal, thn_exit, thn_ret, cnd_t, cnd_f, blk_normal, blk_ret, blk_exit, x_seq, x_region, x_cond, x_block, x_loop, x_ret, x_exit, x_skip, e_mov, e_pick, pk_t, pk_f, withH_some, e_box, e_load, e_store, stH_some, e_nil, e_bin, e_eqv, eqH_f, eqH_t, e_un, e_fa, e_ia, ia_eq, nat_eq, natV_nat, e_len, lnH_some, e_extract, ex_0, ex_1, e_call0, e_call1, e_call2, e_call3, pc0_eq, pc1_some, pc2_some, pc3_some, fin_some, g_var0, g_vars, g_loc0, g_locs, g_int, g_bool, g_str, g_sl, s_none, s_zero, s_succ, cl_nil, cl_str, cl_bool, cl_slc, cl_own, evFa, evNil, asEl, evBin, intBin, strBin, evUn, len_nil, len_slc, len_str, clr, List.length_nil, List.length_cons, List.getElem?_cons_zero, List.getElem?_cons_succ, Nat.reduceAdd, Nat.zero_add, Nat.add_zero, Nat.reduceLeDiff, Nat.reduceSub, ↓reduceIte, List.drop_succ_cons, List.drop_zero, List.take_succ_cons, List.take_zero, Bool.false_eq_true, List.nil_append, List.cons_append, Bool.not_true, Bool.not_false, cond_true, cond_false, bne, lv_ret, lv_normal, res1, res2, lv2_some, res_var, res_cell, lvf_v, lvf_slc, res1c, lvo1_some, e_mm, mm_max, mm_min, cl_agg, cl_int, g_agg, e_callv1, cv1_fn, e_slice2, e_clrrow, e_callf2, pick_und, cells_agg, Option.map_some, Option.map_none]
end Go.AE.YtgcbaefclkfnoaaDoor
end

/-! The document's Check; the program's. -/
section
set_option linter.unusedVariables false
set_option linter.unusedSimpArgs false
namespace Go.AE.YtgcbaefclkfnoaaDoor
open Go Go.AE Go.Proofs.YtgcbaefclkfnoaaDoor

def V43 (c : AV) (n i : Int) (x3 x13 x14 : AV) : List AV := [.junk, .junk, .junk, x3, .junk, .junk, .junk, .junk, .junk, .junk, c, .v (.int .i64 n), .v (.int .i64 i), x13, x14]
def K43 : List Bool := [false, false, false, false, false, false, false, false, false, false, true, true, true, false, false]
theorem rmay_ok : ∀ (N : Nat) (t : Tm) (a : AV), SizeOf.sizeOf t < N → IsT a t → callW F 43 [a] [] = some (.v (.bool (mayT t)), []) := by
  intro N
  induction N with
  | zero => intro t a h; omega
  | succ N ih =>
    intro t a hN ha
    cases ha with
    | mk k s n c l hc =>
    obtain ⟨es, hs, hes, hm⟩ := hc.sl
    have hll := hes.length
    refine callW_pure (c := c43) rfl rfl (l.length + 1) ?_
    have q1 := fun h : List AO => hs.len h
    rw [hll] at q1
    have hchk := rchk_ok s
    have loop : ∀ (v : List AV), clr K43 v = V43 c l.length 0 .junk .junk .junk → (mayL l = true ∧ ∃ x3 x14 h, loopN (exec (callW F) (l.length + 1) c43_17) K43 (l.length + 1) v [tb k n s c] = some (.exit 1, V43 c l.length l.length x3 (.v (.bool false)) x14, h)) ∨
        (mayL l = false ∧ ∃ v' h, loopN (exec (callW F) (l.length + 1) c43_17) K43 (l.length + 1) v [tb k n s c] = some (.ret, v', h) ∧ getO v' [] (.var 2) = .v (.bool false)) := by
      intro v hv
      obtain ⟨e, v', h', g1, g2, g3⟩ := loop_rule0 (call := callW F) (K := l.length + 1) (b := c43_17) (keep := K43)
        (fun i v h => v = V43 c l.length i .junk .junk .junk ∧ mayL (l.drop i) = mayL l)
        (fun e v h => (e = .exit 1 ∧ mayL l = true ∧ ∃ x3 x14, v = V43 c l.length l.length x3 (.v (.bool false)) x14) ∨ (e = .ret ∧ mayL l = false ∧ getO v [] (.var 2) = .v (.bool false)))
        l.length (m := l.length + 1) (v := v) (h := [tb k n s c]) (by omega) ⟨hv, rfl⟩ (by
          rintro i v h hi ⟨rfl, hR⟩
          by_cases hil' : i < l.length
          · have hil : i < es.length := by omega
            have hT := hes.at hil hil'
            have hlt := lt_t hil'
            have he : es[i]? = some es[i] := List.getElem?_eq_getElem hil
            have q2 := fun h : List AO => hs.ia he h
            have hf := hT.facts
            have hd : l.drop i = l[i] :: l.drop (i + 1) := List.drop_eq_getElem_cons hil'
            have hw := wrap_succ hil hm
            have hc := ih l[i] es[i] (by have := IsL.mem_size (k := k) (n := n) (s := s) (List.getElem_mem hil'); omega) hT
            rw [hd, mayL] at hR
            cases hb : mayT l[i] with
            | true =>
              rw [hb] at hc hR
              rw [Bool.true_and] at hR
              refine ⟨.normal, V43 c l.length ((i + 1 : Nat) : Int) (.ptr h.length 0) (.v (.bool true)) (.v (.bool false)), h ++ [.box 24 es[i].cells], ?_, hil', rfl, hR⟩
              simp only [V43, c43_17, c43_12, c43_13, c43_14, c43_16, hlt, q2, hf, hc, hw, q9z, run_nil, run_cons, stp_plain, stp_guard, put_some, pass_eq, pick_tt, pick_ff, pick_tf, pick_ft, pick_u, reg_some, thn_normal, thn_exit, thn_ret, cnd_t, cnd_f, blk_normal, blk_ret, blk_exit, x_seq, x_region, x_cond, x_block, x_loop, x_ret, x_exit, x_skip, e_mov, e_pick, pk_t, pk_f, withH_some, e_box, e_load, e_store, stH_some, e_nil, e_bin, e_eqv, eqH_f, eqH_t, e_un, e_fa, e_ia, ia_eq, nat_eq, natV_nat, e_len, lnH_some, e_extract, ex_0, ex_1, e_call0, e_call1, e_call2, e_call3, pc0_eq, pc1_some, pc2_some, pc3_some, fin_some, g_var0, g_vars, g_loc0, g_locs, g_int, g_bool, g_str, g_sl, s_none, s_zero, s_succ, cl_nil, cl_str, cl_bool, cl_slc, cl_own, evFa, evNil, asEl, evBin, intBin, strBin, evUn, len_nil, len_slc, len_str, clr, List.length_nil, List.length_cons, List.getElem?_cons_zero, List.getElem?_cons_succ, Nat.reduceAdd, Nat.zero_add, Nat.add_zero, Nat.reduceLeDiff, Nat.reduceSub, ↓reduceIte, List.drop_succ_cons, List.drop_zero, List.take_succ_cons, List.take_zero, Bool.false_eq_true, List.nil_append, List.cons_append, Bool.not_true, Bool.not_false, cond_true, cond_false, bne, lv_ret, lv_normal, res1, res2, lv2_some, res_var, res_cell, lvf_v, lvf_slc, res1c, lvo1_some, e_mm, mm_max, mm_min, cl_agg, cl_int, g_agg, e_callv1, cv1_fn, e_slice2, e_clrrow, e_callf2, pick_und, cells_agg, Option.map_some, Option.map_none, bx_some]
            | false =>
              rw [hb] at hc hR
              rw [Bool.false_and] at hR
              refine ⟨.ret, [.junk, .junk, .v (.bool false), .ptr h.length 0, .junk, .junk, .junk, .junk, .junk, .junk, c, .v (.int .i64 l.length), .v (.int .i64 i), .v (.bool true), .v (.bool true)], h ++ [.box 24 es[i].cells], ?_, .inr ⟨rfl, hR.symm, rfl⟩⟩
              simp only [V43, c43_17, c43_12, c43_13, c43_14, c43_15, hlt, q2, hf, hc, hw, q9z, run_nil, run_cons, stp_plain, stp_guard, put_some, pass_eq, pick_tt, pick_ff, pick_tf, pick_ft, pick_u, reg_some, thn_normal, thn_exit, thn_ret, cnd_t, cnd_f, blk_normal, blk_ret, blk_exit, x_seq, x_region, x_cond, x_block, x_loop, x_ret, x_exit, x_skip, e_mov, e_pick, pk_t, pk_f, withH_some, e_box, e_load, e_store, stH_some, e_nil, e_bin, e_eqv, eqH_f, eqH_t, e_un, e_fa, e_ia, ia_eq, nat_eq, natV_nat, e_len, lnH_some, e_extract, ex_0, ex_1, e_call0, e_call1, e_call2, e_call3, pc0_eq, pc1_some, pc2_some, pc3_some, fin_some, g_var0, g_vars, g_loc0, g_locs, g_int, g_bool, g_str, g_sl, s_none, s_zero, s_succ, cl_nil, cl_str, cl_bool, cl_slc, cl_own, evFa, evNil, asEl, evBin, intBin, strBin, evUn, len_nil, len_slc, len_str, clr, List.length_nil, List.length_cons, List.getElem?_cons_zero, List.getElem?_cons_succ, Nat.reduceAdd, Nat.zero_add, Nat.add_zero, Nat.reduceLeDiff, Nat.reduceSub, ↓reduceIte, List.drop_succ_cons, List.drop_zero, List.take_succ_cons, List.take_zero, Bool.false_eq_true, List.nil_append, List.cons_append, Bool.not_true, Bool.not_false, cond_true, cond_false, bne, lv_ret, lv_normal, res1, res2, lv2_some, res_var, res_cell, lvf_v, lvf_slc, res1c, lvo1_some, e_mm, mm_max, mm_min, cl_agg, cl_int, g_agg, e_callv1, cv1_fn, e_slice2, e_clrrow, e_callf2, pick_und, cells_agg, Option.map_some, Option.map_none, bx_some]
          · have hie : i = l.length := by omega
            subst hie
            have hlt := lt_f (n := l.length)
            rw [List.drop_of_length_le (Nat.le_refl _), mayL] at hR
            refine ⟨.exit 1, V43 c l.length l.length .junk (.v (.bool false)) .junk, h, ?_, .inl ⟨rfl, hR.symm, _, _, rfl⟩⟩
            simp only [V43, c43_17, c43_12, hlt, run_nil, run_cons, stp_plain, stp_guard, put_some, pass_eq, pick_tt, pick_ff, pick_tf, pick_ft, pick_u, reg_some, thn_normal, thn_exit, thn_ret, cnd_t, cnd_f, blk_normal, blk_ret, blk_exit, x_seq, x_region, x_cond, x_block, x_loop, x_ret, x_exit, x_skip, e_mov, e_pick, pk_t, pk_f, withH_some, e_box, e_load, e_store, stH_some, e_nil, e_bin, e_eqv, eqH_f, eqH_t, e_un, e_fa, e_ia, ia_eq, nat_eq, natV_nat, e_len, lnH_some, e_extract, ex_0, ex_1, e_call0, e_call1, e_call2, e_call3, pc0_eq, pc1_some, pc2_some, pc3_some, fin_some, g_var0, g_vars, g_loc0, g_locs, g_int, g_bool, g_str, g_sl, s_none, s_zero, s_succ, cl_nil, cl_str, cl_bool, cl_slc, cl_own, evFa, evNil, asEl, evBin, intBin, strBin, evUn, len_nil, len_slc, len_str, clr, List.length_nil, List.length_cons, List.getElem?_cons_zero, List.getElem?_cons_succ, Nat.reduceAdd, Nat.zero_add, Nat.add_zero, Nat.reduceLeDiff, Nat.reduceSub, ↓reduceIte, List.drop_succ_cons, List.drop_zero, List.take_succ_cons, List.take_zero, Bool.false_eq_true, List.nil_append, List.cons_append, Bool.not_true, Bool.not_false, cond_true, cond_false, bne, lv_ret, lv_normal, res1, res2, lv2_some, res_var, res_cell, lvf_v, lvf_slc, res1c, lvo1_some, e_mm, mm_max, mm_min, cl_agg, cl_int, g_agg, e_callv1, cv1_fn, e_slice2, e_clrrow, e_callf2, pick_und, cells_agg, Option.map_some, Option.map_none, bx_some])
      rcases g3 with ⟨rfl, h1, x3, x14, rfl⟩ | ⟨rfl, h1, h2⟩
      · exact .inl ⟨h1, x3, x14, h', g1⟩
      · exact .inr ⟨h1, v', h', g1, h2⟩
    rw [mayT]
    rw [show c43.body = (.seq (.region [] [] c43_0) (.seq (.seq (.region [] [] c43_1) (.block 0 (.seq (.region [] [] c43_2) (.cond (.var 5) (.seq (.region [] [] c43_3) .ret) (.seq (.region [] [] c43_4) (.cond (.var 6) (.seq (.region [] [] c43_5) .ret) (.seq (.region [] [] c43_6) (.cond (.var 7) (.seq (.region [] [] c43_7) .ret) (.seq (.region [] [] c43_8) (.cond (.var 8) (.seq (.seq (.region [] [] c43_9) (.cond (.var 9) (.seq (.region [] [] c43_10) .ret) .skip)) (.seq (.seq (.region [] [] c43_11) (.block 1 (.loop K43 [] c43_17))) (.seq (.region [] [] c43_18) .ret))) .skip)))))))))) (.seq (.region [] [] c43_19) .ret))) from rfl, show c43.res = [.var 2] from rfl]
    rw [show start c43 [.agg [.v (.int .i64 k), .v (.string s), .v (.int .i64 n), c]] = [.agg [.v (.int .i64 k), .v (.string s), .v (.int .i64 n), c], .v undef, .v undef, .v undef, .v undef, .v undef, .v undef, .v undef, .v undef, .v undef, .v undef, .v undef, .v undef, .v undef, .v undef] from rfl]
    generalize c43_17 = bb at loop ⊢
    have hA2 : decide ((l.length : Int) < 1) = ((l.length : Int) == 0) := by
      by_cases e : l.length = 0
      · rw [e]; rfl
      · rw [decide_eq_false (by omega)]; symm; simp only [beq_eq_false_iff_ne]; omega
    have hE2 : decide ((l.length : Int) > 16) = !decide ((l.length : Int) ≤ 16) := by
      by_cases e : (l.length : Int) ≤ 16
      · rw [decide_eq_true e, decide_eq_false (by omega)]; rfl
      · rw [decide_eq_false e, decide_eq_true (by omega)]; rfl
    generalize hA : ((l.length : Int) == 0) = A at hA2 ⊢
    generalize hB : noS s = B
    unfold noS at hB
    generalize hC : decide (n ≥ 0) = C
    generalize hD : (n == 0) = D
    generalize hE : decide ((l.length : Int) ≤ 16) = E at hE2 ⊢
    generalize chkS s = G at hchk ⊢
    cases h1 : (k == 1) with
    | true => cases A <;> cases B <;> cases C <;> simp only [c43_0, c43_1, c43_2, c43_3, tbx, tb0, tb1, tb2, tb3, q1, h1, hA, hB, hC, Bool.true_and, Bool.false_and, Bool.and_self, run_nil, run_cons, stp_plain, stp_guard, put_some, pass_eq, pick_tt, pick_ff, pick_tf, pick_ft, pick_u, reg_some, thn_normal, thn_exit, thn_ret, cnd_t, cnd_f, blk_normal, blk_ret, blk_exit, x_seq, x_region, x_cond, x_block, x_loop, x_ret, x_exit, x_skip, e_mov, e_pick, pk_t, pk_f, withH_some, e_box, e_load, e_store, stH_some, e_nil, e_bin, e_eqv, eqH_f, eqH_t, e_un, e_fa, e_ia, ia_eq, nat_eq, natV_nat, e_len, lnH_some, e_extract, ex_0, ex_1, e_call0, e_call1, e_call2, e_call3, pc0_eq, pc1_some, pc2_some, pc3_some, fin_some, g_var0, g_vars, g_loc0, g_locs, g_int, g_bool, g_str, g_sl, s_none, s_zero, s_succ, cl_nil, cl_str, cl_bool, cl_slc, cl_own, evFa, evNil, asEl, evBin, intBin, strBin, evUn, len_nil, len_slc, len_str, clr, List.length_nil, List.length_cons, List.getElem?_cons_zero, List.getElem?_cons_succ, Nat.reduceAdd, Nat.zero_add, Nat.add_zero, Nat.reduceLeDiff, Nat.reduceSub, ↓reduceIte, List.drop_succ_cons, List.drop_zero, List.take_succ_cons, List.take_zero, Bool.false_eq_true, List.nil_append, List.cons_append, Bool.not_true, Bool.not_false, cond_true, cond_false, bne, lv_ret, lv_normal, res1, res2, lv2_some, res_var, res_cell, lvf_v, lvf_slc, res1c, lvo1_some, e_mm, mm_max, mm_min, cl_agg, cl_int, g_agg, e_callv1, cv1_fn, e_slice2, e_clrrow, e_callf2, pick_und, cells_agg, Option.map_some, Option.map_none]
    | false =>
    cases h2 : (k == 2) with
    | true => cases A <;> cases D <;> cases G <;> simp only [c43_0, c43_1, c43_2, c43_3, c43_4, c43_5, tbx, tb0, tb1, tb2, tb3, q1, h1, h2, hA, hD, hchk, snap_str, Bool.true_and, Bool.false_and, run_nil, run_cons, stp_plain, stp_guard, put_some, pass_eq, pick_tt, pick_ff, pick_tf, pick_ft, pick_u, reg_some, thn_normal, thn_exit, thn_ret, cnd_t, cnd_f, blk_normal, blk_ret, blk_exit, x_seq, x_region, x_cond, x_block, x_loop, x_ret, x_exit, x_skip, e_mov, e_pick, pk_t, pk_f, withH_some, e_box, e_load, e_store, stH_some, e_nil, e_bin, e_eqv, eqH_f, eqH_t, e_un, e_fa, e_ia, ia_eq, nat_eq, natV_nat, e_len, lnH_some, e_extract, ex_0, ex_1, e_call0, e_call1, e_call2, e_call3, pc0_eq, pc1_some, pc2_some, pc3_some, fin_some, g_var0, g_vars, g_loc0, g_locs, g_int, g_bool, g_str, g_sl, s_none, s_zero, s_succ, cl_nil, cl_str, cl_bool, cl_slc, cl_own, evFa, evNil, asEl, evBin, intBin, strBin, evUn, len_nil, len_slc, len_str, clr, List.length_nil, List.length_cons, List.getElem?_cons_zero, List.getElem?_cons_succ, Nat.reduceAdd, Nat.zero_add, Nat.add_zero, Nat.reduceLeDiff, Nat.reduceSub, ↓reduceIte, List.drop_succ_cons, List.drop_zero, List.take_succ_cons, List.take_zero, Bool.false_eq_true, List.nil_append, List.cons_append, Bool.not_true, Bool.not_false, cond_true, cond_false, bne, lv_ret, lv_normal, res1, res2, lv2_some, res_var, res_cell, lvf_v, lvf_slc, res1c, lvo1_some, e_mm, mm_max, mm_min, cl_agg, cl_int, g_agg, e_callv1, cv1_fn, e_slice2, e_clrrow, e_callf2, pick_und, cells_agg, Option.map_some, Option.map_none]
    | false =>
    cases h3 : (k == 3) with
    | true => cases A <;> cases B <;> simp only [c43_0, c43_1, c43_2, c43_3, c43_4, c43_5, c43_6, c43_7, tbx, tb0, tb1, tb2, tb3, q1, h1, h2, h3, hA, hB, Bool.true_and, Bool.false_and, run_nil, run_cons, stp_plain, stp_guard, put_some, pass_eq, pick_tt, pick_ff, pick_tf, pick_ft, pick_u, reg_some, thn_normal, thn_exit, thn_ret, cnd_t, cnd_f, blk_normal, blk_ret, blk_exit, x_seq, x_region, x_cond, x_block, x_loop, x_ret, x_exit, x_skip, e_mov, e_pick, pk_t, pk_f, withH_some, e_box, e_load, e_store, stH_some, e_nil, e_bin, e_eqv, eqH_f, eqH_t, e_un, e_fa, e_ia, ia_eq, nat_eq, natV_nat, e_len, lnH_some, e_extract, ex_0, ex_1, e_call0, e_call1, e_call2, e_call3, pc0_eq, pc1_some, pc2_some, pc3_some, fin_some, g_var0, g_vars, g_loc0, g_locs, g_int, g_bool, g_str, g_sl, s_none, s_zero, s_succ, cl_nil, cl_str, cl_bool, cl_slc, cl_own, evFa, evNil, asEl, evBin, intBin, strBin, evUn, len_nil, len_slc, len_str, clr, List.length_nil, List.length_cons, List.getElem?_cons_zero, List.getElem?_cons_succ, Nat.reduceAdd, Nat.zero_add, Nat.add_zero, Nat.reduceLeDiff, Nat.reduceSub, ↓reduceIte, List.drop_succ_cons, List.drop_zero, List.take_succ_cons, List.take_zero, Bool.false_eq_true, List.nil_append, List.cons_append, Bool.not_true, Bool.not_false, cond_true, cond_false, bne, lv_ret, lv_normal, res1, res2, lv2_some, res_var, res_cell, lvf_v, lvf_slc, res1c, lvo1_some, e_mm, mm_max, mm_min, cl_agg, cl_int, g_agg, e_callv1, cv1_fn, e_slice2, e_clrrow, e_callf2, pick_und, cells_agg, Option.map_some, Option.map_none]
    | false =>
    cases h4 : (k == 4) with
    | false => simp only [c43_0, c43_1, c43_2, c43_3, c43_4, c43_5, c43_6, c43_7, c43_8, c43_19, tbx, tb0, tb1, tb2, tb3, q1, h1, h2, h3, h4, run_nil, run_cons, stp_plain, stp_guard, put_some, pass_eq, pick_tt, pick_ff, pick_tf, pick_ft, pick_u, reg_some, thn_normal, thn_exit, thn_ret, cnd_t, cnd_f, blk_normal, blk_ret, blk_exit, x_seq, x_region, x_cond, x_block, x_loop, x_ret, x_exit, x_skip, e_mov, e_pick, pk_t, pk_f, withH_some, e_box, e_load, e_store, stH_some, e_nil, e_bin, e_eqv, eqH_f, eqH_t, e_un, e_fa, e_ia, ia_eq, nat_eq, natV_nat, e_len, lnH_some, e_extract, ex_0, ex_1, e_call0, e_call1, e_call2, e_call3, pc0_eq, pc1_some, pc2_some, pc3_some, fin_some, g_var0, g_vars, g_loc0, g_locs, g_int, g_bool, g_str, g_sl, s_none, s_zero, s_succ, cl_nil, cl_str, cl_bool, cl_slc, cl_own, evFa, evNil, asEl, evBin, intBin, strBin, evUn, len_nil, len_slc, len_str, clr, List.length_nil, List.length_cons, List.getElem?_cons_zero, List.getElem?_cons_succ, Nat.reduceAdd, Nat.zero_add, Nat.add_zero, Nat.reduceLeDiff, Nat.reduceSub, ↓reduceIte, List.drop_succ_cons, List.drop_zero, List.take_succ_cons, List.take_zero, Bool.false_eq_true, List.nil_append, List.cons_append, Bool.not_true, Bool.not_false, cond_true, cond_false, bne, lv_ret, lv_normal, res1, res2, lv2_some, res_var, res_cell, lvf_v, lvf_slc, res1c, lvo1_some, e_mm, mm_max, mm_min, cl_agg, cl_int, g_agg, e_callv1, cv1_fn, e_slice2, e_clrrow, e_callf2, pick_und, cells_agg, Option.map_some, Option.map_none]
    | true =>
      have lp := loop [.agg [.v (.int .i64 k), .v (.string s), .v (.int .i64 n), c], .ptr 0 0, .v (.bool false), .v undef, .v (.int .i64 k), .v (.bool false), .v (.bool false), .v (.bool false), .v (.bool true), .v (.bool false), c, .v (.int .i64 l.length), .v (.int .i64 0), .v undef, .v undef] rfl
      rcases lp with ⟨p0, x3, x14, h', p1⟩ | ⟨p0, v', h', p1, p2⟩
      · rw [p0]
        cases A <;> cases D <;> cases E <;> cases G <;> simp only [c43_0, c43_1, c43_2, c43_3, c43_4, c43_5, c43_6, c43_7, c43_8, c43_9, c43_10, c43_11, c43_18, V43, tbx, tb0, tb1, tb2, tb3, q1, h1, h2, h3, h4, hA2, hD, hE2, hchk, p1, snap_str, Bool.true_and, Bool.false_and, run_nil, run_cons, stp_plain, stp_guard, put_some, pass_eq, pick_tt, pick_ff, pick_tf, pick_ft, pick_u, reg_some, thn_normal, thn_exit, thn_ret, cnd_t, cnd_f, blk_normal, blk_ret, blk_exit, x_seq, x_region, x_cond, x_block, x_loop, x_ret, x_exit, x_skip, e_mov, e_pick, pk_t, pk_f, withH_some, e_box, e_load, e_store, stH_some, e_nil, e_bin, e_eqv, eqH_f, eqH_t, e_un, e_fa, e_ia, ia_eq, nat_eq, natV_nat, e_len, lnH_some, e_extract, ex_0, ex_1, e_call0, e_call1, e_call2, e_call3, pc0_eq, pc1_some, pc2_some, pc3_some, fin_some, g_var0, g_vars, g_loc0, g_locs, g_int, g_bool, g_str, g_sl, s_none, s_zero, s_succ, cl_nil, cl_str, cl_bool, cl_slc, cl_own, evFa, evNil, asEl, evBin, intBin, strBin, evUn, len_nil, len_slc, len_str, clr, List.length_nil, List.length_cons, List.getElem?_cons_zero, List.getElem?_cons_succ, Nat.reduceAdd, Nat.zero_add, Nat.add_zero, Nat.reduceLeDiff, Nat.reduceSub, ↓reduceIte, List.drop_succ_cons, List.drop_zero, List.take_succ_cons, List.take_zero, Bool.false_eq_true, List.nil_append, List.cons_append, Bool.not_true, Bool.not_false, cond_true, cond_false, bne, lv_ret, lv_normal, res1, res2, lv2_some, res_var, res_cell, lvf_v, lvf_slc, res1c, lvo1_some, e_mm, mm_max, mm_min, cl_agg, cl_int, g_agg, e_callv1, cv1_fn, e_slice2, e_clrrow, e_callf2, pick_und, cells_agg, Option.map_some, Option.map_none]
      · rw [p0]
        cases A <;> cases D <;> cases E <;> cases G <;> simp only [c43_0, c43_1, c43_2, c43_3, c43_4, c43_5, c43_6, c43_7, c43_8, c43_9, c43_10, c43_11, c43_18, V43, tbx, tb0, tb1, tb2, tb3, q1, h1, h2, h3, h4, hA2, hD, hE2, hchk, p1, p2, snap_str, Bool.true_and, Bool.false_and, run_nil, run_cons, stp_plain, stp_guard, put_some, pass_eq, pick_tt, pick_ff, pick_tf, pick_ft, pick_u, reg_some, thn_normal, thn_exit, thn_ret, cnd_t, cnd_f, blk_normal, blk_ret, blk_exit, x_seq, x_region, x_cond, x_block, x_loop, x_ret, x_exit, x_skip, e_mov, e_pick, pk_t, pk_f, withH_some, e_box, e_load, e_store, stH_some, e_nil, e_bin, e_eqv, eqH_f, eqH_t, e_un, e_fa, e_ia, ia_eq, nat_eq, natV_nat, e_len, lnH_some, e_extract, ex_0, ex_1, e_call0, e_call1, e_call2, e_call3, pc0_eq, pc1_some, pc2_some, pc3_some, fin_some, g_var0, g_vars, g_loc0, g_locs, g_int, g_bool, g_str, g_sl, s_none, s_zero, s_succ, cl_nil, cl_str, cl_bool, cl_slc, cl_own, evFa, evNil, asEl, evBin, intBin, strBin, evUn, len_nil, len_slc, len_str, clr, List.length_nil, List.length_cons, List.getElem?_cons_zero, List.getElem?_cons_succ, Nat.reduceAdd, Nat.zero_add, Nat.add_zero, Nat.reduceLeDiff, Nat.reduceSub, ↓reduceIte, List.drop_succ_cons, List.drop_zero, List.take_succ_cons, List.take_zero, Bool.false_eq_true, List.nil_append, List.cons_append, Bool.not_true, Bool.not_false, cond_true, cond_false, bne, lv_ret, lv_normal, res1, res2, lv2_some, res_var, res_cell, lvf_v, lvf_slc, res1c, lvo1_some, e_mm, mm_max, mm_min, cl_agg, cl_int, g_agg, e_callv1, cv1_fn, e_slice2, e_clrrow, e_callf2, pick_und, cells_agg, Option.map_some, Option.map_none]

/-- Check: 0, 30, 3 -/
def checkT (t : Tm) : Int := if mayT t = true then (if decide (depI t > 60) = true then 3 else 0) else 30
theorem check_ok (t : Tm) (a : AV) (ha : IsT a t) : callW F 22 [a] [] = some (.v (.int .i64 (checkT t)), []) := by
  refine callW_pure (c := c22) rfl rfl 0 ?_
  have hf := ha.facts
  have h1 := may_ok _ t a (Nat.lt_succ_self _) ha
  have h2 := deep_ok _ t a (Nat.lt_succ_self _) ha
  have e1 : evLoad [.box 24 a.cells] true 4 (.ptr 0 0) = some a := hf.2.2.2.1 [] 24
  unfold checkT
  cases h3 : mayT t with
  | false => rw [h3] at h1; simp only [c22, start, List.replicate, c22_0, c22_1, c22_2, hf, e1, h1, run_nil, run_cons, stp_plain, stp_guard, put_some, pass_eq, pick_tt, pick_ff, pick_tf, pick_ft, pick_u, reg_some, thn_normal, thn_exit, thn_ret, cnd_t, cnd_f, blk_normal, blk_ret, blk_exit, x_seq, x_region, x_cond, x_block, x_loop, x_ret, x_exit, x_skip, e_mov, e_pick, pk_t, pk_f, withH_some, e_box, e_load, e_store, stH_some, e_nil, e_bin, e_eqv, eqH_f, eqH_t, e_un, e_fa, e_ia, ia_eq, nat_eq, natV_nat, e_len, lnH_some, e_extract, ex_0, ex_1, e_call0, e_call1, e_call2, e_call3, pc0_eq, pc1_some, pc2_some, pc3_some, fin_some, g_var0, g_vars, g_loc0, g_locs, g_int, g_bool, g_str, g_sl, s_none, s_zero, s_succ, cl_nil, cl_str, cl_bool, cl_slc, cl_own, evFa, evNil, asEl, evBin, intBin, strBin, evUn, len_nil, len_slc, len_str, clr, List.length_nil, List.length_cons, List.getElem?_cons_zero, List.getElem?_cons_succ, Nat.reduceAdd, Nat.zero_add, Nat.add_zero, Nat.reduceLeDiff, Nat.reduceSub, ↓reduceIte, List.drop_succ_cons, List.drop_zero, List.take_succ_cons, List.take_zero, Bool.false_eq_true, List.nil_append, List.cons_append, Bool.not_true, Bool.not_false, cond_true, cond_false, bne, lv_ret, lv_normal, res1, res2, lv2_some, res_var, res_cell, lvf_v, lvf_slc, res1c, lvo1_some, e_mm, mm_max, mm_min, cl_agg, cl_int, g_agg, e_callv1, cv1_fn, e_slice2, e_clrrow, e_callf2, pick_und, cells_agg, Option.map_some, Option.map_none, bx_some]
  | true =>
    rw [h3] at h1
    cases h4 : decide (depI t > 60) <;> simp only [c22, start, List.replicate, c22_0, c22_1, c22_3, c22_4, c22_5, hf, e1, h1, h2, h4, run_nil, run_cons, stp_plain, stp_guard, put_some, pass_eq, pick_tt, pick_ff, pick_tf, pick_ft, pick_u, reg_some, thn_normal, thn_exit, thn_ret, cnd_t, cnd_f, blk_normal, blk_ret, blk_exit, x_seq, x_region, x_cond, x_block, x_loop, x_ret, x_exit, x_skip, e_mov, e_pick, pk_t, pk_f, withH_some, e_box, e_load, e_store, stH_some, e_nil, e_bin, e_eqv, eqH_f, eqH_t, e_un, e_fa, e_ia, ia_eq, nat_eq, natV_nat, e_len, lnH_some, e_extract, ex_0, ex_1, e_call0, e_call1, e_call2, e_call3, pc0_eq, pc1_some, pc2_some, pc3_some, fin_some, g_var0, g_vars, g_loc0, g_locs, g_int, g_bool, g_str, g_sl, s_none, s_zero, s_succ, cl_nil, cl_str, cl_bool, cl_slc, cl_own, evFa, evNil, asEl, evBin, intBin, strBin, evUn, len_nil, len_slc, len_str, clr, List.length_nil, List.length_cons, List.getElem?_cons_zero, List.getElem?_cons_succ, Nat.reduceAdd, Nat.zero_add, Nat.add_zero, Nat.reduceLeDiff, Nat.reduceSub, ↓reduceIte, List.drop_succ_cons, List.drop_zero, List.take_succ_cons, List.take_zero, Bool.false_eq_true, List.nil_append, List.cons_append, Bool.not_true, Bool.not_false, cond_true, cond_false, bne, lv_ret, lv_normal, res1, res2, lv2_some, res_var, res_cell, lvf_v, lvf_slc, res1c, lvo1_some, e_mm, mm_max, mm_min, cl_agg, cl_int, g_agg, e_callv1, cv1_fn, e_slice2, e_clrrow, e_callf2, pick_und, cells_agg, Option.map_some, Option.map_none, bx_some]
theorem rcheck_ok (t : Tm) (a : AV) (ha : IsT a t) : callW F 18 [a] [] = some (.v (.int .i64 (checkT t)), []) := by
  refine callW_pure (c := c18) rfl rfl 0 ?_
  have hf := ha.facts
  have h1 := rmay_ok _ t a (Nat.lt_succ_self _) ha
  have h2 := rdeep_ok _ t a (Nat.lt_succ_self _) ha
  have e1 : evLoad [.box 24 a.cells] true 4 (.ptr 0 0) = some a := hf.2.2.2.1 [] 24
  unfold checkT
  cases h3 : mayT t with
  | false => rw [h3] at h1; simp only [c18, start, List.replicate, c18_0, c18_1, c18_2, hf, e1, h1, run_nil, run_cons, stp_plain, stp_guard, put_some, pass_eq, pick_tt, pick_ff, pick_tf, pick_ft, pick_u, reg_some, thn_normal, thn_exit, thn_ret, cnd_t, cnd_f, blk_normal, blk_ret, blk_exit, x_seq, x_region, x_cond, x_block, x_loop, x_ret, x_exit, x_skip, e_mov, e_pick, pk_t, pk_f, withH_some, e_box, e_load, e_store, stH_some, e_nil, e_bin, e_eqv, eqH_f, eqH_t, e_un, e_fa, e_ia, ia_eq, nat_eq, natV_nat, e_len, lnH_some, e_extract, ex_0, ex_1, e_call0, e_call1, e_call2, e_call3, pc0_eq, pc1_some, pc2_some, pc3_some, fin_some, g_var0, g_vars, g_loc0, g_locs, g_int, g_bool, g_str, g_sl, s_none, s_zero, s_succ, cl_nil, cl_str, cl_bool, cl_slc, cl_own, evFa, evNil, asEl, evBin, intBin, strBin, evUn, len_nil, len_slc, len_str, clr, List.length_nil, List.length_cons, List.getElem?_cons_zero, List.getElem?_cons_succ, Nat.reduceAdd, Nat.zero_add, Nat.add_zero, Nat.reduceLeDiff, Nat.reduceSub, ↓reduceIte, List.drop_succ_cons, List.drop_zero, List.take_succ_cons, List.take_zero, Bool.false_eq_true, List.nil_append, List.cons_append, Bool.not_true, Bool.not_false, cond_true, cond_false, bne, lv_ret, lv_normal, res1, res2, lv2_some, res_var, res_cell, lvf_v, lvf_slc, res1c, lvo1_some, e_mm, mm_max, mm_min, cl_agg, cl_int, g_agg, e_callv1, cv1_fn, e_slice2, e_clrrow, e_callf2, pick_und, cells_agg, Option.map_some, Option.map_none, bx_some]
  | true =>
    rw [h3] at h1
    cases h4 : decide (depI t > 60) <;> simp only [c18, start, List.replicate, c18_0, c18_1, c18_3, c18_4, c18_5, hf, e1, h1, h2, h4, run_nil, run_cons, stp_plain, stp_guard, put_some, pass_eq, pick_tt, pick_ff, pick_tf, pick_ft, pick_u, reg_some, thn_normal, thn_exit, thn_ret, cnd_t, cnd_f, blk_normal, blk_ret, blk_exit, x_seq, x_region, x_cond, x_block, x_loop, x_ret, x_exit, x_skip, e_mov, e_pick, pk_t, pk_f, withH_some, e_box, e_load, e_store, stH_some, e_nil, e_bin, e_eqv, eqH_f, eqH_t, e_un, e_fa, e_ia, ia_eq, nat_eq, natV_nat, e_len, lnH_some, e_extract, ex_0, ex_1, e_call0, e_call1, e_call2, e_call3, pc0_eq, pc1_some, pc2_some, pc3_some, fin_some, g_var0, g_vars, g_loc0, g_locs, g_int, g_bool, g_str, g_sl, s_none, s_zero, s_succ, cl_nil, cl_str, cl_bool, cl_slc, cl_own, evFa, evNil, asEl, evBin, intBin, strBin, evUn, len_nil, len_slc, len_str, clr, List.length_nil, List.length_cons, List.getElem?_cons_zero, List.getElem?_cons_succ, Nat.reduceAdd, Nat.zero_add, Nat.add_zero, Nat.reduceLeDiff, Nat.reduceSub, ↓reduceIte, List.drop_succ_cons, List.drop_zero, List.take_succ_cons, List.take_zero, Bool.false_eq_true, List.nil_append, List.cons_append, Bool.not_true, Bool.not_false, cond_true, cond_false, bne, lv_ret, lv_normal, res1, res2, lv2_some, res_var, res_cell, lvf_v, lvf_slc, res1c, lvo1_some, e_mm, mm_max, mm_min, cl_agg, cl_int, g_agg, e_callv1, cv1_fn, e_slice2, e_clrrow, e_callf2, pick_und, cells_agg, Option.map_some, Option.map_none, bx_some]
end Go.AE.YtgcbaefclkfnoaaDoor
end

/-! The examples (live). -/
section
namespace Go.AE.YtgcbaefclkfnoaaDoor
open Go Go.AE Go.Proofs.YtgcbaefclkfnoaaDoor
set_option linter.unusedVariables false
set_option linter.unusedSimpArgs false
set_option maxRecDepth 1000000
theorem live_n : callN F 14 12 [] [] = some (.v (.bool true), []) := by kernel_rfl
end Go.AE.YtgcbaefclkfnoaaDoor
end

/-! Whether terms are too great; what comes in. -/
section
set_option linter.unusedVariables false
set_option linter.unusedSimpArgs false
namespace Go.AE.YtgcbaefclkfnoaaDoor
open Go Go.AE Go.Proofs.YtgcbaefclkfnoaaDoor

theorem live_ok : callW F 12 [] [] = some (.v (.bool true), []) := callW_iff.2 ⟨_, live_n⟩
def fewB (t : Tm) : Bool := decide (fewT t 3000 ≥ 0)
def bigT (l : List Tm) : Bool := !(l.all fewB)
def V13 (c : AV) (n i : Int) (x2 x6 x7 : AV) : List AV := [.junk, .junk, x2, c, .v (.int .i64 n), .v (.int .i64 i), x6, x7]
def K13 : List Bool := [false, false, false, true, true, true, false, false]
theorem big_ok {c : AV} {l : List Tm} (hc : IsL c l) : callW F 13 [c] [] = some (.v (.bool (bigT l)), []) := by
  obtain ⟨es, hs, hes, hm⟩ := hc.sl
  have hll := hes.length
  refine callW_pure (c := c13) rfl rfl (l.length + 1) ?_
  have q1 := fun h : List AO => hs.len h
  rw [hll] at q1
  obtain ⟨e, v', h', g1, g2, g3⟩ := loop_rule0 (call := callW F) (K := l.length + 1) (b := c13_7) (keep := K13)
    (fun i v h => v = V13 c l.length i .junk .junk .junk ∧ bigT (l.drop i) = bigT l)
    (fun e v h => (e = .exit 0 ∧ bigT l = false ∧ ∃ x2 x7, v = V13 c l.length l.length x2 (.v (.bool false)) x7) ∨ (e = .ret ∧ bigT l = true ∧ getO v [] (.var 1) = .v (.bool true)))
    l.length (m := l.length + 1) (v := [c, .v (.bool false), .v undef, c, .v (.int .i64 l.length), .v (.int .i64 0), .v undef, .v undef]) (h := []) (by omega) ⟨rfl, rfl⟩ (by
      rintro i v h hi ⟨rfl, hR⟩
      by_cases hil' : i < l.length
      · have hil : i < es.length := by omega
        have hT := hes.at hil hil'
        have hlt := lt_t hil'
        have he : es[i]? = some es[i] := List.getElem?_eq_getElem hil
        have q2 := fun h : List AO => hs.ia he h
        have hf := hT.facts
        have hd : l.drop i = l[i] :: l.drop (i + 1) := List.drop_eq_getElem_cons hil'
        have hw := wrap_succ hil hm
        have hc := few_ok l[i] es[i] 3000 hT
        rw [show decide (fewT l[i] 3000 ≥ 0) = fewB l[i] from rfl] at hc
        rw [hd, bigT, List.all_cons] at hR
        cases hb : fewB l[i] with
        | true =>
          rw [hb] at hc hR
          rw [Bool.true_and] at hR
          refine ⟨.normal, V13 c l.length ((i + 1 : Nat) : Int) (.ptr h.length 0) (.v (.bool true)) (.v (.bool false)), h ++ [.box 24 es[i].cells], ?_, hil', rfl, hR⟩
          simp only [V13, c13_7, c13_2, c13_3, c13_4, c13_6, hlt, q2, hf, hc, hw, snap_int, q9z, run_nil, run_cons, stp_plain, stp_guard, put_some, pass_eq, pick_tt, pick_ff, pick_tf, pick_ft, pick_u, reg_some, thn_normal, thn_exit, thn_ret, cnd_t, cnd_f, blk_normal, blk_ret, blk_exit, x_seq, x_region, x_cond, x_block, x_loop, x_ret, x_exit, x_skip, e_mov, e_pick, pk_t, pk_f, withH_some, e_box, e_load, e_store, stH_some, e_nil, e_bin, e_eqv, eqH_f, eqH_t, e_un, e_fa, e_ia, ia_eq, nat_eq, natV_nat, e_len, lnH_some, e_extract, ex_0, ex_1, e_call0, e_call1, e_call2, e_call3, pc0_eq, pc1_some, pc2_some, pc3_some, fin_some, g_var0, g_vars, g_loc0, g_locs, g_int, g_bool, g_str, g_sl, s_none, s_zero, s_succ, cl_nil, cl_str, cl_bool, cl_slc, cl_own, evFa, evNil, asEl, evBin, intBin, strBin, evUn, len_nil, len_slc, len_str, clr, List.length_nil, List.length_cons, List.getElem?_cons_zero, List.getElem?_cons_succ, Nat.reduceAdd, Nat.zero_add, Nat.add_zero, Nat.reduceLeDiff, Nat.reduceSub, ↓reduceIte, List.drop_succ_cons, List.drop_zero, List.take_succ_cons, List.take_zero, Bool.false_eq_true, List.nil_append, List.cons_append, Bool.not_true, Bool.not_false, cond_true, cond_false, bne, lv_ret, lv_normal, res1, res2, lv2_some, res_var, res_cell, lvf_v, lvf_slc, res1c, lvo1_some, e_mm, mm_max, mm_min, cl_agg, cl_int, g_agg, e_callv1, cv1_fn, e_slice2, e_clrrow, e_callf2, pick_und, cells_agg, Option.map_some, Option.map_none, bx_some]
        | false =>
          rw [hb] at hc hR
          rw [Bool.false_and] at hR
          refine ⟨.ret, [.junk, .v (.bool true), .ptr h.length 0, c, .v (.int .i64 l.length), .v (.int .i64 i), .v (.bool true), .v (.bool true)], h ++ [.box 24 es[i].cells], ?_, .inr ⟨rfl, hR.symm, rfl⟩⟩
          simp only [V13, c13_7, c13_2, c13_3, c13_4, c13_5, hlt, q2, hf, hc, hw, snap_int, q9z, run_nil, run_cons, stp_plain, stp_guard, put_some, pass_eq, pick_tt, pick_ff, pick_tf, pick_ft, pick_u, reg_some, thn_normal, thn_exit, thn_ret, cnd_t, cnd_f, blk_normal, blk_ret, blk_exit, x_seq, x_region, x_cond, x_block, x_loop, x_ret, x_exit, x_skip, e_mov, e_pick, pk_t, pk_f, withH_some, e_box, e_load, e_store, stH_some, e_nil, e_bin, e_eqv, eqH_f, eqH_t, e_un, e_fa, e_ia, ia_eq, nat_eq, natV_nat, e_len, lnH_some, e_extract, ex_0, ex_1, e_call0, e_call1, e_call2, e_call3, pc0_eq, pc1_some, pc2_some, pc3_some, fin_some, g_var0, g_vars, g_loc0, g_locs, g_int, g_bool, g_str, g_sl, s_none, s_zero, s_succ, cl_nil, cl_str, cl_bool, cl_slc, cl_own, evFa, evNil, asEl, evBin, intBin, strBin, evUn, len_nil, len_slc, len_str, clr, List.length_nil, List.length_cons, List.getElem?_cons_zero, List.getElem?_cons_succ, Nat.reduceAdd, Nat.zero_add, Nat.add_zero, Nat.reduceLeDiff, Nat.reduceSub, ↓reduceIte, List.drop_succ_cons, List.drop_zero, List.take_succ_cons, List.take_zero, Bool.false_eq_true, List.nil_append, List.cons_append, Bool.not_true, Bool.not_false, cond_true, cond_false, bne, lv_ret, lv_normal, res1, res2, lv2_some, res_var, res_cell, lvf_v, lvf_slc, res1c, lvo1_some, e_mm, mm_max, mm_min, cl_agg, cl_int, g_agg, e_callv1, cv1_fn, e_slice2, e_clrrow, e_callf2, pick_und, cells_agg, Option.map_some, Option.map_none, bx_some]
      · have hie : i = l.length := by omega
        subst hie
        have hlt := lt_f (n := l.length)
        rw [List.drop_of_length_le (Nat.le_refl _)] at hR
        refine ⟨.exit 0, V13 c l.length l.length .junk (.v (.bool false)) .junk, h, ?_, .inl ⟨rfl, hR.symm, _, _, rfl⟩⟩
        simp only [V13, c13_7, c13_2, hlt, run_nil, run_cons, stp_plain, stp_guard, put_some, pass_eq, pick_tt, pick_ff, pick_tf, pick_ft, pick_u, reg_some, thn_normal, thn_exit, thn_ret, cnd_t, cnd_f, blk_normal, blk_ret, blk_exit, x_seq, x_region, x_cond, x_block, x_loop, x_ret, x_exit, x_skip, e_mov, e_pick, pk_t, pk_f, withH_some, e_box, e_load, e_store, stH_some, e_nil, e_bin, e_eqv, eqH_f, eqH_t, e_un, e_fa, e_ia, ia_eq, nat_eq, natV_nat, e_len, lnH_some, e_extract, ex_0, ex_1, e_call0, e_call1, e_call2, e_call3, pc0_eq, pc1_some, pc2_some, pc3_some, fin_some, g_var0, g_vars, g_loc0, g_locs, g_int, g_bool, g_str, g_sl, s_none, s_zero, s_succ, cl_nil, cl_str, cl_bool, cl_slc, cl_own, evFa, evNil, asEl, evBin, intBin, strBin, evUn, len_nil, len_slc, len_str, clr, List.length_nil, List.length_cons, List.getElem?_cons_zero, List.getElem?_cons_succ, Nat.reduceAdd, Nat.zero_add, Nat.add_zero, Nat.reduceLeDiff, Nat.reduceSub, ↓reduceIte, List.drop_succ_cons, List.drop_zero, List.take_succ_cons, List.take_zero, Bool.false_eq_true, List.nil_append, List.cons_append, Bool.not_true, Bool.not_false, cond_true, cond_false, bne, lv_ret, lv_normal, res1, res2, lv2_some, res_var, res_cell, lvf_v, lvf_slc, res1c, lvo1_some, e_mm, mm_max, mm_min, cl_agg, cl_int, g_agg, e_callv1, cv1_fn, e_slice2, e_clrrow, e_callf2, pick_und, cells_agg, Option.map_some, Option.map_none, bx_some])
  rw [show c13.body = (.seq (.region [] [] c13_0) (.seq (.seq (.region [] [] c13_1) (.block 0 (.loop K13 [] c13_7))) (.seq (.region [] [] c13_8) .ret))) from rfl, show c13.res = [.var 1] from rfl]
  rw [show start c13 [c] = [c, .v undef, .v undef, .v undef, .v undef, .v undef, .v undef, .v undef] from rfl]
  rcases g3 with ⟨rfl, h1, x2, x7, rfl⟩ | ⟨rfl, h1, h2⟩
  · rw [h1]
    generalize c13_7 = bb at g1 ⊢
    simp only [V13, c13_0, c13_1, c13_8, q1, g1, run_nil, run_cons, stp_plain, stp_guard, put_some, pass_eq, pick_tt, pick_ff, pick_tf, pick_ft, pick_u, reg_some, thn_normal, thn_exit, thn_ret, cnd_t, cnd_f, blk_normal, blk_ret, blk_exit, x_seq, x_region, x_cond, x_block, x_loop, x_ret, x_exit, x_skip, e_mov, e_pick, pk_t, pk_f, withH_some, e_box, e_load, e_store, stH_some, e_nil, e_bin, e_eqv, eqH_f, eqH_t, e_un, e_fa, e_ia, ia_eq, nat_eq, natV_nat, e_len, lnH_some, e_extract, ex_0, ex_1, e_call0, e_call1, e_call2, e_call3, pc0_eq, pc1_some, pc2_some, pc3_some, fin_some, g_var0, g_vars, g_loc0, g_locs, g_int, g_bool, g_str, g_sl, s_none, s_zero, s_succ, cl_nil, cl_str, cl_bool, cl_slc, cl_own, evFa, evNil, asEl, evBin, intBin, strBin, evUn, len_nil, len_slc, len_str, clr, List.length_nil, List.length_cons, List.getElem?_cons_zero, List.getElem?_cons_succ, Nat.reduceAdd, Nat.zero_add, Nat.add_zero, Nat.reduceLeDiff, Nat.reduceSub, ↓reduceIte, List.drop_succ_cons, List.drop_zero, List.take_succ_cons, List.take_zero, Bool.false_eq_true, List.nil_append, List.cons_append, Bool.not_true, Bool.not_false, cond_true, cond_false, bne, lv_ret, lv_normal, res1, res2, lv2_some, res_var, res_cell, lvf_v, lvf_slc, res1c, lvo1_some, e_mm, mm_max, mm_min, cl_agg, cl_int, g_agg, e_callv1, cv1_fn, e_slice2, e_clrrow, e_callf2, pick_und, cells_agg, Option.map_some, Option.map_none, bx_some]
  · rw [h1]
    generalize c13_7 = bb at g1 ⊢
    simp only [V13, c13_0, c13_1, c13_8, q1, g1, h2, run_nil, run_cons, stp_plain, stp_guard, put_some, pass_eq, pick_tt, pick_ff, pick_tf, pick_ft, pick_u, reg_some, thn_normal, thn_exit, thn_ret, cnd_t, cnd_f, blk_normal, blk_ret, blk_exit, x_seq, x_region, x_cond, x_block, x_loop, x_ret, x_exit, x_skip, e_mov, e_pick, pk_t, pk_f, withH_some, e_box, e_load, e_store, stH_some, e_nil, e_bin, e_eqv, eqH_f, eqH_t, e_un, e_fa, e_ia, ia_eq, nat_eq, natV_nat, e_len, lnH_some, e_extract, ex_0, ex_1, e_call0, e_call1, e_call2, e_call3, pc0_eq, pc1_some, pc2_some, pc3_some, fin_some, g_var0, g_vars, g_loc0, g_locs, g_int, g_bool, g_str, g_sl, s_none, s_zero, s_succ, cl_nil, cl_str, cl_bool, cl_slc, cl_own, evFa, evNil, asEl, evBin, intBin, strBin, evUn, len_nil, len_slc, len_str, clr, List.length_nil, List.length_cons, List.getElem?_cons_zero, List.getElem?_cons_succ, Nat.reduceAdd, Nat.zero_add, Nat.add_zero, Nat.reduceLeDiff, Nat.reduceSub, ↓reduceIte, List.drop_succ_cons, List.drop_zero, List.take_succ_cons, List.take_zero, Bool.false_eq_true, List.nil_append, List.cons_append, Bool.not_true, Bool.not_false, cond_true, cond_false, bne, lv_ret, lv_normal, res1, res2, lv2_some, res_var, res_cell, lvf_v, lvf_slc, res1c, lvo1_some, e_mm, mm_max, mm_min, cl_agg, cl_int, g_agg, e_callv1, cv1_fn, e_slice2, e_clrrow, e_callf2, pick_und, cells_agg, Option.map_some, Option.map_none, bx_some]
/-- a slice of one term, of two, of three -/
theorem isL1 {a : AV} {t : Tm} (h : IsT a t) : IsL (.slc 4 true true [a]) [t] := .slc _ _ _ _ (.cons _ _ _ _ h .nil) (by simp [maxLen])
theorem isL2 {a b : AV} {t u : Tm} (h : IsT a t) (k : IsT b u) : IsL (.slc 4 true true [a, b]) [t, u] := .slc _ _ _ _ (.cons _ _ _ _ h (.cons _ _ _ _ k .nil)) (by simp [maxLen])
theorem isL3 {a b c : AV} {t u v : Tm} (h : IsT a t) (k : IsT b u) (m : IsT c v) : IsL (.slc 4 true true [a, b, c]) [t, u, v] := .slc _ _ _ _ (.cons _ _ _ _ h (.cons _ _ _ _ k (.cons _ _ _ _ m .nil))) (by simp [maxLen])

theorem tmTy : TmTy T 3 9 2 24 22 := ⟨⟨_, rfl, rfl⟩, ⟨_, rfl, rfl⟩, ⟨_, rfl, rfl⟩, ⟨_, _, _, _, _, rfl, rfl, rfl, rfl, rfl, rfl, rfl, rfl⟩, ⟨_, rfl, rfl⟩⟩
theorem term_in {a : AV} (w : WT T 24 a.cells) (e : asEl ti24.agg a.cells = some a) : ∃ p, IsT a p := by
  obtain ⟨x, hx⟩ := tmTy.term w
  rw [agg_cells e]; exact ⟨x, hx⟩
theorem int_in {a : AV} (w : WT T 2 a.cells) (e : asEl ti2.agg a.cells = some a) : ∃ n : Int, a = .v (.int .i64 n) ∧ (Lit.int .i64 n).wf = true := by
  obtain ⟨n, h, hn⟩ := wt_int_of (t := 2) (k := .i64) rfl rfl w
  exact ⟨n, one_cell e h, hn⟩
theorem str_in {a : AV} (w : WT T 9 a.cells) (e : asEl ti9.agg a.cells = some a) : ∃ s : ByteArray, a = .v (.string s) ∧ s.size ≤ maxLen := by
  obtain ⟨n, h, hn⟩ := wt_str_of (t := 9) rfl rfl w
  exact ⟨n, one_cell e h, hn⟩
end Go.AE.YtgcbaefclkfnoaaDoor
end

/-! TermSizes in plain Lean. -/
section
set_option linter.unusedVariables false
set_option linter.unusedSimpArgs false
namespace Go.AE.YtgcbaefclkfnoaaDoor
open Go Go.AE Go.Proofs.YtgcbaefclkfnoaaDoor

def V8 (a c : AV) (n d m i : Int) (x6 x12 : AV) : List AV := [a, c, .junk, .v (.bool true), .v (.int .i64 n), .v (.int .i64 d), x6, .junk, .junk, c, .v (.int .i64 m), .v (.int .i64 i), x12]
def K8 : List Bool := [true, true, false, true, true, true, false, false, false, true, true, true, false]
theorem comp_ok {s : ByteArray} {c : AV} {l : List Tm} (hc : IsL c l) : callW F 29 [.v (.string s), c] [] = some (.agg [.v (.int .i64 4), .v (.string s), .v (.int .i64 0), c], []) := by
  refine callW_pure (c := c29) rfl rfl 0 ?_
  have hcl : c.cl = some [c] := by cases hc <;> rfl
  have hlv : ∀ h : List AO, lvf h (.agg [.v (.int .i64 4), .v (.string s), .v (.int .i64 0), c]) = some (.agg [.v (.int .i64 4), .v (.string s), .v (.int .i64 0), c], []) := fun h => lv1 (.mk 4 s 0 c l hc) h
  have ld : evLoad [.box 24 [.v (.int .i64 4), .v (.string s), .v (.int .i64 0), c]] true 4 (.ptr 0 0) = some (.agg [.v (.int .i64 4), .v (.string s), .v (.int .i64 0), c]) := rfl
  simp only [c29, start, List.replicate, c29_0, c29_1, q9z, hcl, hlv, ld, e_bslice1, e_bslice2, bs1, bs2, e_build, bdH_some, bd_nil, bd_cons, bd1, cl_agg, cl_int, toL, List.map_cons, List.map_nil, putAt, List.set_cons_zero, List.set_cons_succ, and_self, Nat.le_refl, app_get, app_set, g_agg, evStore, run_nil, run_cons, stp_plain, stp_guard, put_some, pass_eq, pick_tt, pick_ff, pick_tf, pick_ft, pick_u, reg_some, thn_normal, thn_exit, thn_ret, cnd_t, cnd_f, blk_normal, blk_ret, blk_exit, x_seq, x_region, x_cond, x_block, x_loop, x_ret, x_exit, x_skip, e_mov, e_pick, pk_t, pk_f, withH_some, e_box, e_load, e_store, stH_some, e_nil, e_bin, e_eqv, eqH_f, eqH_t, e_un, e_fa, e_ia, ia_eq, nat_eq, natV_nat, e_len, lnH_some, e_extract, ex_0, ex_1, e_call0, e_call1, e_call2, e_call3, pc0_eq, pc1_some, pc2_some, pc3_some, fin_some, g_var0, g_vars, g_loc0, g_locs, g_int, g_bool, g_str, g_sl, s_none, s_zero, s_succ, cl_nil, cl_str, cl_bool, cl_slc, cl_own, evFa, evNil, asEl, evBin, intBin, strBin, evUn, len_nil, len_slc, len_str, clr, List.length_nil, List.length_cons, List.getElem?_cons_zero, List.getElem?_cons_succ, Nat.reduceAdd, Nat.zero_add, Nat.add_zero, Nat.reduceLeDiff, Nat.reduceSub, ↓reduceIte, List.drop_succ_cons, List.drop_zero, List.take_succ_cons, List.take_zero, Bool.false_eq_true, List.nil_append, List.cons_append, Bool.not_true, Bool.not_false, cond_true, cond_false, bne, lv_ret, lv_normal, res1, res2, lv2_some, res_var, res_cell, lvf_v, lvf_slc, res1c, lvo1_some, e_mm, mm_max, mm_min, cl_agg, cl_int, g_agg, e_callv1, cv1_fn, e_slice2, e_clrrow, e_callf2, pick_und, cells_agg, Option.map_some, Option.map_none, bx_some]
theorem sizes_ok {s : ByteArray} {c : AV} {l : List Tm} (hc : IsL c l) : callW F 8 [.v (.string s), c] [] = some (.v (.bool true), []) := by
  obtain ⟨es, hs, hes, hm⟩ := hc.sl
  have hll := hes.length
  refine callW_pure (c := c8) rfl rfl (l.length + 1) ?_
  have q1 := fun h : List AO => hs.len h
  rw [hll] at q1
  have sn := fun h : List AO => hs.snap h
  have hlive := live_ok
  have hbig := big_ok hc
  have hcomp := comp_ok (s := s) hc
  have hT0 : IsT (.agg [.v (.int .i64 4), .v (.string s), .v (.int .i64 0), c]) (.mk 4 s 0 l) := .mk 4 s 0 c l hc
  have hf0 := hT0.facts
  have hz := size_ok _ _ _ (Nat.lt_succ_self _) hT0
  have hd := deep_ok _ _ _ (Nat.lt_succ_self _) hT0
  rw [sizI] at hz
  rw [depI] at hd
  obtain ⟨e, v', h', g1, g2, g3⟩ := loop_rule0 (call := callW F) (K := l.length + 1) (b := c8_12) (keep := K8)
    (fun i v h => ∃ n d, v = V8 (.v (.string s)) c n d l.length i .junk .junk ∧ sizL (l.drop i) n = sizL l 1 ∧ depL (l.drop i) d = depL l 0)
    (fun e v h => e = .exit 0 ∧ ∃ x6, v = V8 (.v (.string s)) c (sizL l 1) (depL l 0) l.length l.length x6 (.v (.bool false)))
    l.length (m := l.length + 1) (v := [.v (.string s), c, .v (.bool false), .v (.bool true), .v (.int .i64 1), .v (.int .i64 0), .v undef, .v undef, .v (.bool false), c, .v (.int .i64 l.length), .v (.int .i64 0), .v undef]) (h := []) (by omega) ⟨_, _, rfl, rfl, rfl⟩ (by
      rintro i v h hi ⟨n, d, rfl, hR1, hR2⟩
      by_cases hil' : i < l.length
      · have hil : i < es.length := by omega
        have hT := hes.at hil hil'
        have hlt := lt_t hil'
        have he : es[i]? = some es[i] := List.getElem?_eq_getElem hil
        have q2 := fun h : List AO => hs.ia he h
        have hf := hT.facts
        have hdr : l.drop i = l[i] :: l.drop (i + 1) := List.drop_eq_getElem_cons hil'
        have hw := wrap_succ hil hm
        have h5 := size_ok _ _ _ (Nat.lt_succ_self _) hT
        have h3 := deep_ok _ _ _ (Nat.lt_succ_self _) hT
        rw [hdr, sizL] at hR1
        rw [hdr, depL] at hR2
        refine ⟨.normal, V8 (.v (.string s)) c (IntKind.i64.wrap (n + sizI l[i])) (max d (depI l[i])) l.length ((i + 1 : Nat) : Int) (.ptr h.length 0) (.v (.bool true)), h ++ [.box 24 es[i].cells], ?_, hil', _, _, rfl, hR1, hR2⟩
        simp only [V8, c8_12, c8_7, c8_8, c8_9, c8_10, c8_11, hlt, q2, hf, h3, h5, hw, q9z, e_mm, mm_max, run_nil, run_cons, stp_plain, stp_guard, put_some, pass_eq, pick_tt, pick_ff, pick_tf, pick_ft, pick_u, reg_some, thn_normal, thn_exit, thn_ret, cnd_t, cnd_f, blk_normal, blk_ret, blk_exit, x_seq, x_region, x_cond, x_block, x_loop, x_ret, x_exit, x_skip, e_mov, e_pick, pk_t, pk_f, withH_some, e_box, e_load, e_store, stH_some, e_nil, e_bin, e_eqv, eqH_f, eqH_t, e_un, e_fa, e_ia, ia_eq, nat_eq, natV_nat, e_len, lnH_some, e_extract, ex_0, ex_1, e_call0, e_call1, e_call2, e_call3, pc0_eq, pc1_some, pc2_some, pc3_some, fin_some, g_var0, g_vars, g_loc0, g_locs, g_int, g_bool, g_str, g_sl, s_none, s_zero, s_succ, cl_nil, cl_str, cl_bool, cl_slc, cl_own, evFa, evNil, asEl, evBin, intBin, strBin, evUn, len_nil, len_slc, len_str, clr, List.length_nil, List.length_cons, List.getElem?_cons_zero, List.getElem?_cons_succ, Nat.reduceAdd, Nat.zero_add, Nat.add_zero, Nat.reduceLeDiff, Nat.reduceSub, ↓reduceIte, List.drop_succ_cons, List.drop_zero, List.take_succ_cons, List.take_zero, Bool.false_eq_true, List.nil_append, List.cons_append, Bool.not_true, Bool.not_false, cond_true, cond_false, bne, lv_ret, lv_normal, res1, res2, lv2_some, res_var, res_cell, lvf_v, lvf_slc, res1c, lvo1_some, e_mm, mm_max, mm_min, cl_agg, cl_int, g_agg, e_callv1, cv1_fn, e_slice2, e_clrrow, e_callf2, pick_und, cells_agg, Option.map_some, Option.map_none, bx_some]
      · have hie : i = l.length := by omega
        subst hie
        have hlt := lt_f (n := l.length)
        rw [List.drop_of_length_le (Nat.le_refl _), sizL] at hR1
        rw [List.drop_of_length_le (Nat.le_refl _), depL] at hR2
        refine ⟨.exit 0, V8 (.v (.string s)) c n d l.length l.length .junk (.v (.bool false)), h, ?_, rfl, _, by rw [hR1, hR2]⟩
        simp only [V8, c8_12, c8_7, hlt, run_nil, run_cons, stp_plain, stp_guard, put_some, pass_eq, pick_tt, pick_ff, pick_tf, pick_ft, pick_u, reg_some, thn_normal, thn_exit, thn_ret, cnd_t, cnd_f, blk_normal, blk_ret, blk_exit, x_seq, x_region, x_cond, x_block, x_loop, x_ret, x_exit, x_skip, e_mov, e_pick, pk_t, pk_f, withH_some, e_box, e_load, e_store, stH_some, e_nil, e_bin, e_eqv, eqH_f, eqH_t, e_un, e_fa, e_ia, ia_eq, nat_eq, natV_nat, e_len, lnH_some, e_extract, ex_0, ex_1, e_call0, e_call1, e_call2, e_call3, pc0_eq, pc1_some, pc2_some, pc3_some, fin_some, g_var0, g_vars, g_loc0, g_locs, g_int, g_bool, g_str, g_sl, s_none, s_zero, s_succ, cl_nil, cl_str, cl_bool, cl_slc, cl_own, evFa, evNil, asEl, evBin, intBin, strBin, evUn, len_nil, len_slc, len_str, clr, List.length_nil, List.length_cons, List.getElem?_cons_zero, List.getElem?_cons_succ, Nat.reduceAdd, Nat.zero_add, Nat.add_zero, Nat.reduceLeDiff, Nat.reduceSub, ↓reduceIte, List.drop_succ_cons, List.drop_zero, List.take_succ_cons, List.take_zero, Bool.false_eq_true, List.nil_append, List.cons_append, Bool.not_true, Bool.not_false, cond_true, cond_false, bne, lv_ret, lv_normal, res1, res2, lv2_some, res_var, res_cell, lvf_v, lvf_slc, res1c, lvo1_some, e_mm, mm_max, mm_min, cl_agg, cl_int, g_agg, e_callv1, cv1_fn, e_slice2, e_clrrow, e_callf2, pick_und, cells_agg, Option.map_some, Option.map_none, bx_some])
  rw [show c8.body = (.seq (.region [] [] c8_0) (.seq (.region [] [] c8_1) (.seq (.seq (.region [] [] c8_2) (.cond (.var 8) (.seq (.region [] [] c8_3) .ret) .skip)) (.seq (.region [] [] c8_4) (.seq (.region [] [] c8_5) (.seq (.seq (.region [] [] c8_6) (.block 0 (.loop K8 [] c8_12))) (.seq (.region [] [] c8_13) (.seq (.region [] [] c8_14) .ret)))))))) from rfl, show c8.res = [.var 2] from rfl]
  rw [show start c8 [.v (.string s), c] = [.v (.string s), c, .v undef, .v undef, .v undef, .v undef, .v undef, .v undef, .v undef, .v undef, .v undef, .v undef, .v undef] from rfl]
  obtain ⟨rfl, x6, rfl⟩ := g3
  generalize c8_12 = bb at g1 ⊢
  have z : ∀ x : Int, (x == x) = true := fun x => beq_self_eq_true x
  cases hB : bigT l with
  | true => rw [hB] at hbig; simp only [c8_0, c8_1, c8_2, c8_3, hlive, sn, hbig, run_nil, run_cons, stp_plain, stp_guard, put_some, pass_eq, pick_tt, pick_ff, pick_tf, pick_ft, pick_u, reg_some, thn_normal, thn_exit, thn_ret, cnd_t, cnd_f, blk_normal, blk_ret, blk_exit, x_seq, x_region, x_cond, x_block, x_loop, x_ret, x_exit, x_skip, e_mov, e_pick, pk_t, pk_f, withH_some, e_box, e_load, e_store, stH_some, e_nil, e_bin, e_eqv, eqH_f, eqH_t, e_un, e_fa, e_ia, ia_eq, nat_eq, natV_nat, e_len, lnH_some, e_extract, ex_0, ex_1, e_call0, e_call1, e_call2, e_call3, pc0_eq, pc1_some, pc2_some, pc3_some, fin_some, g_var0, g_vars, g_loc0, g_locs, g_int, g_bool, g_str, g_sl, s_none, s_zero, s_succ, cl_nil, cl_str, cl_bool, cl_slc, cl_own, evFa, evNil, asEl, evBin, intBin, strBin, evUn, len_nil, len_slc, len_str, clr, List.length_nil, List.length_cons, List.getElem?_cons_zero, List.getElem?_cons_succ, Nat.reduceAdd, Nat.zero_add, Nat.add_zero, Nat.reduceLeDiff, Nat.reduceSub, ↓reduceIte, List.drop_succ_cons, List.drop_zero, List.take_succ_cons, List.take_zero, Bool.false_eq_true, List.nil_append, List.cons_append, Bool.not_true, Bool.not_false, cond_true, cond_false, bne, lv_ret, lv_normal, res1, res2, lv2_some, res_var, res_cell, lvf_v, lvf_slc, res1c, lvo1_some, e_mm, mm_max, mm_min, cl_agg, cl_int, g_agg, e_callv1, cv1_fn, e_slice2, e_clrrow, e_callf2, pick_und, cells_agg, Option.map_some, Option.map_none, bx_some]
  | false =>
  rw [hB] at hbig
  cases h1 : decide ((l.length : Int) > 100) with
  | true => simp only [c8_0, c8_1, c8_2, c8_3, hlive, sn, hbig, q1, h1, run_nil, run_cons, stp_plain, stp_guard, put_some, pass_eq, pick_tt, pick_ff, pick_tf, pick_ft, pick_u, reg_some, thn_normal, thn_exit, thn_ret, cnd_t, cnd_f, blk_normal, blk_ret, blk_exit, x_seq, x_region, x_cond, x_block, x_loop, x_ret, x_exit, x_skip, e_mov, e_pick, pk_t, pk_f, withH_some, e_box, e_load, e_store, stH_some, e_nil, e_bin, e_eqv, eqH_f, eqH_t, e_un, e_fa, e_ia, ia_eq, nat_eq, natV_nat, e_len, lnH_some, e_extract, ex_0, ex_1, e_call0, e_call1, e_call2, e_call3, pc0_eq, pc1_some, pc2_some, pc3_some, fin_some, g_var0, g_vars, g_loc0, g_locs, g_int, g_bool, g_str, g_sl, s_none, s_zero, s_succ, cl_nil, cl_str, cl_bool, cl_slc, cl_own, evFa, evNil, asEl, evBin, intBin, strBin, evUn, len_nil, len_slc, len_str, clr, List.length_nil, List.length_cons, List.getElem?_cons_zero, List.getElem?_cons_succ, Nat.reduceAdd, Nat.zero_add, Nat.add_zero, Nat.reduceLeDiff, Nat.reduceSub, ↓reduceIte, List.drop_succ_cons, List.drop_zero, List.take_succ_cons, List.take_zero, Bool.false_eq_true, List.nil_append, List.cons_append, Bool.not_true, Bool.not_false, cond_true, cond_false, bne, lv_ret, lv_normal, res1, res2, lv2_some, res_var, res_cell, lvf_v, lvf_slc, res1c, lvo1_some, e_mm, mm_max, mm_min, cl_agg, cl_int, g_agg, e_callv1, cv1_fn, e_slice2, e_clrrow, e_callf2, pick_und, cells_agg, Option.map_some, Option.map_none, bx_some]
  | false =>
  cases h2 : ((l.length : Int) == 0) with
  | true => simp only [c8_0, c8_1, c8_2, c8_3, hlive, sn, hbig, q1, h1, h2, run_nil, run_cons, stp_plain, stp_guard, put_some, pass_eq, pick_tt, pick_ff, pick_tf, pick_ft, pick_u, reg_some, thn_normal, thn_exit, thn_ret, cnd_t, cnd_f, blk_normal, blk_ret, blk_exit, x_seq, x_region, x_cond, x_block, x_loop, x_ret, x_exit, x_skip, e_mov, e_pick, pk_t, pk_f, withH_some, e_box, e_load, e_store, stH_some, e_nil, e_bin, e_eqv, eqH_f, eqH_t, e_un, e_fa, e_ia, ia_eq, nat_eq, natV_nat, e_len, lnH_some, e_extract, ex_0, ex_1, e_call0, e_call1, e_call2, e_call3, pc0_eq, pc1_some, pc2_some, pc3_some, fin_some, g_var0, g_vars, g_loc0, g_locs, g_int, g_bool, g_str, g_sl, s_none, s_zero, s_succ, cl_nil, cl_str, cl_bool, cl_slc, cl_own, evFa, evNil, asEl, evBin, intBin, strBin, evUn, len_nil, len_slc, len_str, clr, List.length_nil, List.length_cons, List.getElem?_cons_zero, List.getElem?_cons_succ, Nat.reduceAdd, Nat.zero_add, Nat.add_zero, Nat.reduceLeDiff, Nat.reduceSub, ↓reduceIte, List.drop_succ_cons, List.drop_zero, List.take_succ_cons, List.take_zero, Bool.false_eq_true, List.nil_append, List.cons_append, Bool.not_true, Bool.not_false, cond_true, cond_false, bne, lv_ret, lv_normal, res1, res2, lv2_some, res_var, res_cell, lvf_v, lvf_slc, res1c, lvo1_some, e_mm, mm_max, mm_min, cl_agg, cl_int, g_agg, e_callv1, cv1_fn, e_slice2, e_clrrow, e_callf2, pick_und, cells_agg, Option.map_some, Option.map_none, bx_some]
  | false =>
    have s1 : ∀ h : List AO, evStore (h ++ [.box 24 [.v (.int .i64 0), .v (.string ⟨#[]⟩), .v (.int .i64 0), .v (.slice none 0 0)]]) 4 (.ptr h.length 0) (.agg [.v (.int .i64 4), .v (.string s), .v (.int .i64 0), c]) = some (h ++ [.box 24 [.v (.int .i64 4), .v (.string s), .v (.int .i64 0), c]]) := fun h => hf0.2.2.1 h 24 _ _ _ _
    have l1 : ∀ h : List AO, evLoad (h ++ [.box 24 [.v (.int .i64 4), .v (.string s), .v (.int .i64 0), c]]) true 4 (.ptr h.length 0) = some (.agg [.v (.int .i64 4), .v (.string s), .v (.int .i64 0), c]) := fun h => hf0.2.2.2.1 h 24
    have sn0 := fun h : List AO => hf0.2.1 h
    simp only [c8_0, c8_1, c8_2, c8_4, c8_5, c8_6, c8_13, c8_14, V8, hlive, sn, hbig, q1, h1, h2, g1, hcomp, s1, l1, sn0, hz, hd, z, snap_str, q9z, run_nil, run_cons, stp_plain, stp_guard, put_some, pass_eq, pick_tt, pick_ff, pick_tf, pick_ft, pick_u, reg_some, thn_normal, thn_exit, thn_ret, cnd_t, cnd_f, blk_normal, blk_ret, blk_exit, x_seq, x_region, x_cond, x_block, x_loop, x_ret, x_exit, x_skip, e_mov, e_pick, pk_t, pk_f, withH_some, e_box, e_load, e_store, stH_some, e_nil, e_bin, e_eqv, eqH_f, eqH_t, e_un, e_fa, e_ia, ia_eq, nat_eq, natV_nat, e_len, lnH_some, e_extract, ex_0, ex_1, e_call0, e_call1, e_call2, e_call3, pc0_eq, pc1_some, pc2_some, pc3_some, fin_some, g_var0, g_vars, g_loc0, g_locs, g_int, g_bool, g_str, g_sl, s_none, s_zero, s_succ, cl_nil, cl_str, cl_bool, cl_slc, cl_own, evFa, evNil, asEl, evBin, intBin, strBin, evUn, len_nil, len_slc, len_str, clr, List.length_nil, List.length_cons, List.getElem?_cons_zero, List.getElem?_cons_succ, Nat.reduceAdd, Nat.zero_add, Nat.add_zero, Nat.reduceLeDiff, Nat.reduceSub, ↓reduceIte, List.drop_succ_cons, List.drop_zero, List.take_succ_cons, List.take_zero, Bool.false_eq_true, List.nil_append, List.cons_append, Bool.not_true, Bool.not_false, cond_true, cond_false, bne, lv_ret, lv_normal, res1, res2, lv2_some, res_var, res_cell, lvf_v, lvf_slc, res1c, lvo1_some, e_mm, mm_max, mm_min, cl_agg, cl_int, g_agg, e_callv1, cv1_fn, e_slice2, e_clrrow, e_callf2, pick_und, cells_agg, Option.map_some, Option.map_none, bx_some]
end Go.AE.YtgcbaefclkfnoaaDoor
end

/-! What all rows of this program need. -/
section
set_option linter.unusedVariables false
namespace Go.Proofs.YtgcbaefclkfnoaaDoor
open Go Go.AE Go.Proofs Go.ChangeShapes Go.WideShapes Go.ChangeAt Go.RowKit
open Go.ChangeMaps (open_string shut_string)

theorem own : ownKnob Tryd.prog.godebug = none := by kernel_rfl
theorem laidOut : laidOutB Tryd.prog = true := by kernel_rfl
theorem mixed : Tryd.prog.follows .mixedOrders = true := by kernel_rfl
def G : List TypeId := [2, 3, 9, 22, 24]
theorem hG : goodB T G = true := by kernel_rfl

/-- What a call comes to that is handed what came in. -/
theorem law_calls {f : FuncId} {args : List AV} {vals : Array Value} {W : World} (hK : K W.heap.size W) (ha : ArgsRep (AllCells W) W [] args vals) {n : Nat} (he : callN F n f args [] = some (.v (.bool true), [])) :
    Calls Tryd.prog f vals W fun e W' => e = .returned (.bool true) ∧ Below W.heap.size W W' := by
  have hI : AE.Inv W.heap.size W (AllCells W) [] W [] := ⟨Below.refl _ _, Nat.le_refl _, rfl, fun id o L h => by simp at h, fun id L h => by simp at h, fun i j Li Lj h => by simp at h, fun b x h => h⟩
  refine ((callN_ok mixed hT hKs hF n W.heap.size W hK).calls f args [] _ _ he (AllCells W) [] W vals hI ha).mono fun e W' h => ?_
  obtain ⟨v, I', σ', rfl, hI', _, hr⟩ := h
  cases hr
  exact ⟨rfl, hI'.below⟩
end Go.Proofs.YtgcbaefclkfnoaaDoor
end

/-! What all rows of this seat need: the world in which the library's two tables lie. -/
section
set_option linter.unusedVariables false
namespace Go.Proofs.YtgcbaefclkfnoaaDoor
open Go Go.AE Go.Proofs Go.RowKit Go.Lib Go.Shelf

def d32 : List Value := [0, 1, 28, 2, 29, 14, 24, 3, 30, 22, 20, 15, 25, 17, 4, 8, 31, 27, 13, 23, 21, 19, 16, 7, 26, 12, 18, 6, 11, 5, 10, 9].map fun z : Int => Value.int .u8 z
def d64 : List Value := [0, 1, 56, 2, 57, 49, 28, 3, 61, 58, 42, 50, 38, 29, 17, 4, 62, 47, 59, 36, 45, 43, 51, 22, 53, 39, 33, 30, 24, 18, 12, 5, 63, 55, 48, 27, 60, 41, 37, 16, 46, 35, 44, 21, 52, 32, 23, 11, 54, 26, 40, 15, 34, 20, 31, 10, 25, 14, 19, 9, 13, 8, 7, 6].map fun z : Int => Value.int .u8 z
def p10 : List Value := [1, 10, 100, 1000, 10000, 100000, 1000000, 10000000, 100000000, 1000000000, 10000000000, 100000000000, 1000000000000, 10000000000000, 100000000000000, 1000000000000000, 10000000000000000, 100000000000000000, 1000000000000000000, 10000000000000000000].map fun z : Int => Value.int .u64 z
/-- a world in which the variables hold what their initialisers lay -/
noncomputable def laidWorld (os : Os) : World :=
  let w0 := World.holding Tryd.prog os ⟨#[], #[], []⟩
  let put (h : Array Obj) (g : Nat) (cs : Array Value) : Array Obj := h.modify g fun
    | .cells _ t frozen => .cells cs t frozen
    | o => o
  let h1 := put w0.heap (Tryd.lays196_ren.g 3) (Lib.firstTab.map fun z => Value.int .u8 z).toArray
  let h2 := put h1 (Tryd.lays196_ren.g 4) ((List.range 16).flatMap fun i => [Value.int .u8 (Lib.accLo i), Value.int .u8 (Lib.accHi i)]).toArray
  let h3 := put h2 4 d32.toArray
  let h4 := put h3 5 d64.toArray
  let h5 := put h4 3 p10.toArray
  { w0 with heap := h5 }
set_option maxRecDepth 1000000 in
theorem laid_met (os : Os) (args : Array Value) : laidMetH Tryd.prog Rows.termSizesRow.laid ((laidWorld os).forCall (fun _ _ => 0) ⟨#[], args, []⟩).memory :=
  (LaidIn.of_run (l := [("math/bits.deBruijn32tab", Rows.laid_math_bits_deBruijn32tab), ("math/bits.deBruijn64tab", Rows.laid_math_bits_deBruijn64tab), ("internal/strconv.uint64pow10", Rows.laid_internal_strconv_uint64pow10), ("unicode/utf8.acceptRanges", Rows.laid_unicode_utf8_acceptRanges), ("unicode/utf8.first", Rows.laid_unicode_utf8_first)]) [0, 1, 2, 3, 4, 5] 8 (by kernel_rfl) (by kernel_rfl) (by kernel_rfl) (by kernel_rfl)).met
set_option maxRecDepth 1000000 in
theorem tabs_of {W : World} (hL : laidMetH Tryd.prog Rows.termSizesRow.laid W) : Lib.Utf8Tabs (Tryd.lays196_ren.g 3) (Tryd.lays196_ren.g 4) W :=
  utf8Tabs_of_readsT (U8Types.of196 Tryd.lays196) ⟨by kernel_rfl, by kernel_rfl, by kernel_rfl, by kernel_rfl, by kernel_rfl, by kernel_rfl, by kernel_rfl⟩ (Lib.laidMet.reads (l := Rows.termSizesRow.laid) hL (.tail _ (.tail _ (.tail _ (.tail _ (.head _)))))) (Lib.laidMet.reads (l := Rows.termSizesRow.laid) hL (.tail _ (.tail _ (.tail _ (.head _)))))
end Go.Proofs.YtgcbaefclkfnoaaDoor
end

/-! The row and the card of TermSizes, out of its plain law. -/
section
set_option linter.unusedVariables false
namespace Go.Proofs.YtgcbaefclkfnoaaDoor
open Go Go.AE Go.Proofs Go.ChangeShapes Go.WideShapes Go.ChangeAt Go.RowKit
open Go.ChangeMaps (open_string shut_string)
namespace termSizes
theorem args {I : Cells} {W : World} {a0 a1 : AV} {v0 v1 : Value} (r0 : Rep I W [] a0 v0) (r1 : Rep I W [] a1 v1) : ArgsRep I W [] [a0, a1] #[v0, v1] := by
  refine ⟨rfl, fun i a h => ?_⟩
  match i, h with
  | 0, h => cases h; exact r0
  | 1, h => cases h; exact r1
def Plain : Prop := ∀ a0 a1 : AV, WT T 9 a0.cells → asEl ti9.agg a0.cells = some a0 → WT T 22 a1.cells → asEl ti22.agg a1.cells = some a1 →
  ∃ n, callN F n 8 [a0, a1] [] = some (.v (.bool true), [])

set_option maxRecDepth 100000 in
theorem lifted (plain : Plain) (os : Os) (started : os.Started) (H : Type) (enc : TypeId × Value → H) :
    ReturnsInHanded {} Tryd.checked os 8 .any (fun w args => (Rows.termSizesSpec.pre enc Tryd.prog Tryd.f8 [] false w args ∧ laidMetH Tryd.prog Rows.termSizesRow.laid w) ∧ sizedMet enc Tryd.prog Tryd.f8 (OpenSpec.ofChange Rows.termSizesSpec) false w args)
      (Rows.termSizesSpec.post enc Tryd.prog Tryd.f8 false true false false) := by
  refine returnsInHanded_of_change_and (C := Tryd.checked) (X := fun w _ => laidMetH Tryd.prog Rows.termSizesRow.laid w) (fun _ _ _ hh h => h.of_heap hh) own started (by kernel_rfl) Tryd.func8
    (ChangeSpec.witness_at (enc := enc) (C := Tryd.checked) (os := os) (X := fun w _ => laidMetH Tryd.prog Rows.termSizesRow.laid w) false (laidWorld os) #[ti9.zero, ti22.zero] 8 rfl (by kernel_rfl) (by kernel_rfl) (by kernel_rfl) (by kernel_rfl) (by kernel_rfl) (laid_met os _)) ?_
  intro W base args' ds gs before hval0 hW _ _ hL _
  have hval : ∀ (j : Nat) t v, Tryd.f8.params[j]? = some t → args'[j]? = some v → Value.okWide Tryd.prog W .any base t v := hval0
  have hW' := hW
  obtain ⟨p, q, hA0, hV, rfl, hfz, hnd⟩ := hW
  have hA : DataW.TrodAll enc Tryd.prog W 0 (fun _ => true) true Tryd.f8.params.toList args'.toList ds p := hA0
  rw [Tryd.params8] at hA hval
  obtain ⟨v0, vs0, d0, ds0, p0, q0, hargs, rfl, rfl, h0, r0⟩ := trodAll_cons hA
  obtain ⟨v1, vs1, d1, ds1, p1, q1, rfl, rfl, rfl, h1, r1⟩ := trodAll_cons r0
  obtain ⟨rfl, rfl, rfl⟩ := trodAll_nil r1
  obtain rfl : args' = #[v0, v1] := by cases args'; simp_all
  obtain ⟨rfl, rfl⟩ := trodVars_none hV
  obtain ⟨a0, w0, e0, x0⟩ := trod_arg hT hG (t := 9) (i := ti9) (by decide) rfl (hval 0 9 v0 rfl rfl) h0
  obtain ⟨a1, w1, e1, x1⟩ := trod_arg hT hG (t := 22) (i := ti22) (by decide) rfl (hval 1 22 v1 rfl rfl) h1
  have l0 : ∀ x ∈ p0, x.block < W.heap.size := by obtain ⟨m, hm⟩ := h0; exact DataW.trod_lt m _ _ _ hm
  have l1 : ∀ x ∈ p1, x.block < W.heap.size := by obtain ⟨m, hm⟩ := h1; exact DataW.trod_lt m _ _ _ hm
  obtain ⟨n, hn⟩ := plain a0 a1 w0 e0 w1 e1
  refine (law_calls ⟨rfl, tabs_of hL⟩ (args x0 x1) hn).mono fun e W' ⟨he, bel⟩ => ?_
  subst he
  exact ⟨_, rfl, _, _, _, [], _, [], hW', trodAll_mk1 (shut_bool Tryd.underlying4 _),
    (trodAll_cons_mk (Below.trod laidOut (by kernel_rfl) (of_decide_eq_true (by kernel_rfl)) h0 bel l0) (trodAll_cons_mk (Below.trod laidOut (by kernel_rfl) (of_decide_eq_true (by kernel_rfl)) h1 bel l1) trodAll_mk0)), rfl, bel.frame _, fun h => by cases h⟩
theorem over (plain : Plain) : Rows.termSizesRow.holds Tryd.pinned (OpenSpec.ofChange Rows.termSizesSpec) :=
  OpenClaim.holds_of_wide 8 Tryd.f8 rfl rfl rfl rfl rfl rfl rfl ⟨rfl, rfl, rfl, rfl, rfl⟩ rfl rfl rfl rfl rfl (by kernel_rfl) Tryd.func8 (by kernel_rfl)
    (of_decide_eq_true (by kernel_rfl)) (by unfold Func.isWrapper; first | (rw [if_pos (by decide +kernel)]; kernel_rfl) | (rw [if_neg (by decide +kernel)]; exact ⟨rfl, rfl⟩))
    (fun os started H enc _ => lifted plain os started H enc)
theorem proved (plain : Plain) : Rows.TermSizesCardSaid :=
  Claim7.holds_tied_plain_at .later [] Rows.termSizesCard.laidKinds true Rows.termSizesCard.stood.harness Rows.termSizesCard.stood.looks
    (over plain) (fun _ h => by cases h) (by kernel_rfl) (fun _ h => by cases h) termSizes_row_tie rfl ⟨rfl, rfl⟩ (by kernel_rfl) rfl
    (fun f fn hf hfn => by
      obtain rfl : f = 8 := Option.some.inj ((show Tryd.prog.funcNamed Rows.termSizesRow.func = some 8 by kernel_rfl).symm.trans hf) |>.symm
      obtain rfl : fn = Tryd.f8 := (Option.some.inj (Tryd.func8.symm.trans hfn)).symm
      refine ⟨by kernel_rfl, fun j t ht => ?_⟩
      rw [Tryd.params8] at ht
      match j, ht with
      | 0, ht => cases ht; exact (show Tryd.prog.wantsStandIn 9 = false by kernel_rfl)
      | 1, ht => cases ht; exact (show Tryd.prog.wantsStandIn 22 = false by kernel_rfl)
      | _ + 2, ht => simp at ht)
    (by kernel_rfl)
end termSizes
end Go.Proofs.YtgcbaefclkfnoaaDoor
end
