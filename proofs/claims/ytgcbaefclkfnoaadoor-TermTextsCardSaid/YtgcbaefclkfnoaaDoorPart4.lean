/- Texts of this claim, put together. -/
import Derived.Test.YtgcbaefclkfnoaaDoorPart3
import Derived.Test.YtgcbaefclkfnoaaDoorPart2
import Derived.Test.YtgcbaefclkfnoaaDoorPart1
import Derived.Test.YtgcbaefclkfnoaaDoorRows
import Derived.WalkKit
import Derived.ProofKit
import Derived.OpenShut
import Derived.ShutString
import Derived.ChangeOld
import Derived.Below
import Derived.SizedLaws
import Derived.Test.YtgcbaefclkfnoaaDoorTie
import Derived.Test.YtgcbaefclkfnoaaDoorCards
import Derived.Lib.LaidIn
import Derived.Lib.LaidU8T
import Derived.KernelRfl
import Derived.Handed
import Derived.SevenTiedAt
/-! A term's text: the document's. -/
section
set_option linter.unusedVariables false
set_option linter.unusedSimpArgs false
namespace Go.AE.YtgcbaefclkfnoaaDoor
open Go Go.AE Go.Proofs.YtgcbaefclkfnoaaDoor

def V60 (P : ByteArray) (c : AV) (n i : Int) (x13 : AV) : List AV := [.junk, .junk, .junk, .v (.string P), .junk, .junk, .junk, .junk, .junk, .junk, c, .v (.int .i64 n), .v (.int .i64 i), x13, .junk]
def K60 : List Bool := [false, false, false, true, false, false, false, false, false, false, true, true, true, false, false]
section
variable {call : CallF} {K : Nat} {h : List AO} {P Q R S : ByteArray} {n : Int} {e : AV} {v0 v1 v2 v3 v4 v5 v6 v7 v8 v9 v10 v11 v12 v13 v14 : AV}
theorem f3 {Y : ByteArray} {k : Int} {s : ByteArray} {c : AV} {G : List AO} (hx : call 73 [.v (.int .i64 n)] [] = some (.v (.string S), [])) (a1 : evBin .add (.v (.string Y)) (.v (.string S)) = some (.v (.string R))) : exec call K (.region [] [] [⟨(.fa 2 (.var 1)), none, none⟩,
  ⟨(.load false 1 (.loc 0)), none, none⟩,
  ⟨(.call true 73 [(.loc 0)]), none, none⟩,
  ⟨(.bin .add (.k (.string Y)) (.loc 0)), none, none⟩,
  ⟨(.mov (.loc 0)), (some 2), none⟩]) [v0, .ptr 0 0, v2, v3, v4, v5, v6, v7, v8, v9, v10, v11, v12, v13, v14] (tb k n s c :: G) = some (.normal, [v0, .ptr 0 0, .v (.string R), v3, v4, v5, v6, v7, v8, v9, v10, v11, v12, v13, v14], tb k n s c :: G) := by
  simp only [tb2, hx, a1, snap_int, run_nil, run_cons, stp_plain, stp_guard, put_some, pass_eq, pick_tt, pick_ff, pick_tf, pick_ft, pick_u, reg_some, thn_normal, thn_exit, thn_ret, cnd_t, cnd_f, blk_normal, blk_ret, blk_exit, x_seq, x_region, x_cond, x_block, x_loop, x_ret, x_exit, x_skip, e_mov, e_pick, pk_t, pk_f, withH_some, e_box, e_load, e_store, stH_some, e_nil, e_bin, e_eqv, eqH_f, eqH_t, e_un, e_fa, e_ia, ia_eq, nat_eq, natV_nat, e_len, lnH_some, e_extract, ex_0, ex_1, e_call0, e_call1, e_call2, e_call3, pc0_eq, pc1_some, pc2_some, pc3_some, fin_some, g_var0, g_vars, g_loc0, g_locs, g_int, g_bool, g_str, g_sl, s_none, s_zero, s_succ, cl_nil, cl_str, cl_bool, cl_slc, cl_own, evFa, evNil, asEl, evBin, intBin, strBin, evUn, len_nil, len_slc, len_str, clr, List.length_nil, List.length_cons, List.getElem?_cons_zero, List.getElem?_cons_succ, Nat.reduceAdd, Nat.zero_add, Nat.add_zero, Nat.reduceLeDiff, Nat.reduceSub, ↓reduceIte, List.drop_succ_cons, List.drop_zero, List.take_succ_cons, List.take_zero, Bool.false_eq_true, List.nil_append, List.cons_append, Bool.not_true, Bool.not_false, cond_true, cond_false, bne, lv_ret, lv_normal, res1, res2, lv2_some, res_var, res_cell, lvf_v, lvf_slc, res1c, lvo1_some, e_mm, mm_max, mm_min, cl_agg, cl_int, g_agg, e_callv1, cv1_fn, e_slice2, e_clrrow, e_callf2, pick_und, cells_agg, Option.map_some, Option.map_none, bx_some, -evBin]
theorem e3 {k : Int} {s : ByteArray} {c : AV} {G : List AO} (hx : call 73 [.v (.int .i64 n)] [] = some (.v (.string S), [])) (a1 : evBin .add (.v (.string ⟨#[95]⟩)) (.v (.string S)) = some (.v (.string R))) : exec call K (.region [] [] c60_3) [v0, .ptr 0 0, v2, v3, v4, v5, v6, v7, v8, v9, v10, v11, v12, v13, v14] (tb k n s c :: G) = some (.normal, [v0, .ptr 0 0, .v (.string R), v3, v4, v5, v6, v7, v8, v9, v10, v11, v12, v13, v14], tb k n s c :: G) := f3 hx a1
theorem f8 {Y : ByteArray} {k : Int} {s : ByteArray} {c : AV} {G : List AO} (hx : call 74 [.v (.string s)] [] = some (.v (.string S), [])) (a1 : evBin .add (.v (.string S)) (.v (.string Y)) = some (.v (.string R))) : exec call K (.region [] [] [⟨(.fa 1 (.var 1)), none, none⟩,
  ⟨(.load false 1 (.loc 0)), none, none⟩,
  ⟨(.call true 74 [(.loc 0)]), none, none⟩,
  ⟨(.bin .add (.loc 0) (.k (.string Y))), none, none⟩,
  ⟨(.mov (.loc 0)), (some 3), none⟩]) [v0, .ptr 0 0, v2, v3, v4, v5, v6, v7, v8, v9, v10, v11, v12, v13, v14] (tb k n s c :: G) = some (.normal, [v0, .ptr 0 0, v2, .v (.string R), v4, v5, v6, v7, v8, v9, v10, v11, v12, v13, v14], tb k n s c :: G) := by
  simp only [tb1, hx, a1, snap_str, run_nil, run_cons, stp_plain, stp_guard, put_some, pass_eq, pick_tt, pick_ff, pick_tf, pick_ft, pick_u, reg_some, thn_normal, thn_exit, thn_ret, cnd_t, cnd_f, blk_normal, blk_ret, blk_exit, x_seq, x_region, x_cond, x_block, x_loop, x_ret, x_exit, x_skip, e_mov, e_pick, pk_t, pk_f, withH_some, e_box, e_load, e_store, stH_some, e_nil, e_bin, e_eqv, eqH_f, eqH_t, e_un, e_fa, e_ia, ia_eq, nat_eq, natV_nat, e_len, lnH_some, e_extract, ex_0, ex_1, e_call0, e_call1, e_call2, e_call3, pc0_eq, pc1_some, pc2_some, pc3_some, fin_some, g_var0, g_vars, g_loc0, g_locs, g_int, g_bool, g_str, g_sl, s_none, s_zero, s_succ, cl_nil, cl_str, cl_bool, cl_slc, cl_own, evFa, evNil, asEl, evBin, intBin, strBin, evUn, len_nil, len_slc, len_str, clr, List.length_nil, List.length_cons, List.getElem?_cons_zero, List.getElem?_cons_succ, Nat.reduceAdd, Nat.zero_add, Nat.add_zero, Nat.reduceLeDiff, Nat.reduceSub, ↓reduceIte, List.drop_succ_cons, List.drop_zero, List.take_succ_cons, List.take_zero, Bool.false_eq_true, List.nil_append, List.cons_append, Bool.not_true, Bool.not_false, cond_true, cond_false, bne, lv_ret, lv_normal, res1, res2, lv2_some, res_var, res_cell, lvf_v, lvf_slc, res1c, lvo1_some, e_mm, mm_max, mm_min, cl_agg, cl_int, g_agg, e_callv1, cv1_fn, e_slice2, e_clrrow, e_callf2, pick_und, cells_agg, Option.map_some, Option.map_none, bx_some, -evBin]
theorem e8 {k : Int} {s : ByteArray} {c : AV} {G : List AO} (hx : call 74 [.v (.string s)] [] = some (.v (.string S), [])) (a1 : evBin .add (.v (.string S)) (.v (.string ⟨#[40]⟩)) = some (.v (.string R))) : exec call K (.region [] [] c60_8) [v0, .ptr 0 0, v2, v3, v4, v5, v6, v7, v8, v9, v10, v11, v12, v13, v14] (tb k n s c :: G) = some (.normal, [v0, .ptr 0 0, v2, .v (.string R), v4, v5, v6, v7, v8, v9, v10, v11, v12, v13, v14], tb k n s c :: G) := f8 hx a1
theorem f13 {Y : ByteArray} (a1 : evBin .add (.v (.string P)) (.v (.string Y)) = some (.v (.string R))) : exec call K (.region [] [] [⟨(.mov (.var 3)), none, none⟩,
  ⟨(.bin .add (.loc 0) (.k (.string Y))), none, none⟩,
  ⟨(.mov (.loc 0)), (some 3), none⟩]) [v0, v1, v2, .v (.string P), v4, v5, v6, v7, v8, v9, v10, v11, v12, v13, v14] h = some (.normal, [v0, v1, v2, .v (.string R), v4, v5, v6, v7, v8, v9, v10, v11, v12, v13, v14], h) := by
  simp only [a1, run_nil, run_cons, stp_plain, stp_guard, put_some, pass_eq, pick_tt, pick_ff, pick_tf, pick_ft, pick_u, reg_some, thn_normal, thn_exit, thn_ret, cnd_t, cnd_f, blk_normal, blk_ret, blk_exit, x_seq, x_region, x_cond, x_block, x_loop, x_ret, x_exit, x_skip, e_mov, e_pick, pk_t, pk_f, withH_some, e_box, e_load, e_store, stH_some, e_nil, e_bin, e_eqv, eqH_f, eqH_t, e_un, e_fa, e_ia, ia_eq, nat_eq, natV_nat, e_len, lnH_some, e_extract, ex_0, ex_1, e_call0, e_call1, e_call2, e_call3, pc0_eq, pc1_some, pc2_some, pc3_some, fin_some, g_var0, g_vars, g_loc0, g_locs, g_int, g_bool, g_str, g_sl, s_none, s_zero, s_succ, cl_nil, cl_str, cl_bool, cl_slc, cl_own, evFa, evNil, asEl, evBin, intBin, strBin, evUn, len_nil, len_slc, len_str, clr, List.length_nil, List.length_cons, List.getElem?_cons_zero, List.getElem?_cons_succ, Nat.reduceAdd, Nat.zero_add, Nat.add_zero, Nat.reduceLeDiff, Nat.reduceSub, ↓reduceIte, List.drop_succ_cons, List.drop_zero, List.take_succ_cons, List.take_zero, Bool.false_eq_true, List.nil_append, List.cons_append, Bool.not_true, Bool.not_false, cond_true, cond_false, bne, lv_ret, lv_normal, res1, res2, lv2_some, res_var, res_cell, lvf_v, lvf_slc, res1c, lvo1_some, e_mm, mm_max, mm_min, cl_agg, cl_int, g_agg, e_callv1, cv1_fn, e_slice2, e_clrrow, e_callf2, pick_und, cells_agg, Option.map_some, Option.map_none, bx_some, -evBin]
theorem e13 (a1 : evBin .add (.v (.string P)) (.v (.string ⟨#[44]⟩)) = some (.v (.string R))) : exec call K (.region [] [] c60_13) [v0, v1, v2, .v (.string P), v4, v5, v6, v7, v8, v9, v10, v11, v12, v13, v14] h = some (.normal, [v0, v1, v2, .v (.string R), v4, v5, v6, v7, v8, v9, v10, v11, v12, v13, v14], h) := f13 a1
theorem e14 (hf : evLoad h true 4 v5 = some e) (hs : e.snap1 h = some e) (hx : call 60 [e] [] = some (.v (.string S), [])) (a1 : evBin .add (.v (.string P)) (.v (.string S)) = some (.v (.string R))) : exec call K (.region [] [] c60_14) [v0, v1, v2, .v (.string P), v4, v5, v6, v7, v8, v9, v10, v11, v12, v13, v14] h = some (.normal, [v0, v1, v2, .v (.string R), v4, v5, v6, v7, v8, v9, v10, v11, v12, v13, v14], h) := by
  simp only [c60_14, hf, hs, hx, a1, run_nil, run_cons, stp_plain, stp_guard, put_some, pass_eq, pick_tt, pick_ff, pick_tf, pick_ft, pick_u, reg_some, thn_normal, thn_exit, thn_ret, cnd_t, cnd_f, blk_normal, blk_ret, blk_exit, x_seq, x_region, x_cond, x_block, x_loop, x_ret, x_exit, x_skip, e_mov, e_pick, pk_t, pk_f, withH_some, e_box, e_load, e_store, stH_some, e_nil, e_bin, e_eqv, eqH_f, eqH_t, e_un, e_fa, e_ia, ia_eq, nat_eq, natV_nat, e_len, lnH_some, e_extract, ex_0, ex_1, e_call0, e_call1, e_call2, e_call3, pc0_eq, pc1_some, pc2_some, pc3_some, fin_some, g_var0, g_vars, g_loc0, g_locs, g_int, g_bool, g_str, g_sl, s_none, s_zero, s_succ, cl_nil, cl_str, cl_bool, cl_slc, cl_own, evFa, evNil, asEl, evBin, intBin, strBin, evUn, len_nil, len_slc, len_str, clr, List.length_nil, List.length_cons, List.getElem?_cons_zero, List.getElem?_cons_succ, Nat.reduceAdd, Nat.zero_add, Nat.add_zero, Nat.reduceLeDiff, Nat.reduceSub, ↓reduceIte, List.drop_succ_cons, List.drop_zero, List.take_succ_cons, List.take_zero, Bool.false_eq_true, List.nil_append, List.cons_append, Bool.not_true, Bool.not_false, cond_true, cond_false, bne, lv_ret, lv_normal, res1, res2, lv2_some, res_var, res_cell, lvf_v, lvf_slc, res1c, lvo1_some, e_mm, mm_max, mm_min, cl_agg, cl_int, g_agg, e_callv1, cv1_fn, e_slice2, e_clrrow, e_callf2, pick_und, cells_agg, Option.map_some, Option.map_none, bx_some, -evBin]
theorem f17 {Y : ByteArray} (a1 : evBin .add (.v (.string P)) (.v (.string Y)) = some (.v (.string R))) : exec call K (.region [] [] [⟨(.mov (.var 3)), none, none⟩,
  ⟨(.bin .add (.loc 0) (.k (.string Y))), none, none⟩,
  ⟨(.mov (.loc 0)), (some 2), none⟩]) [v0, v1, v2, .v (.string P), v4, v5, v6, v7, v8, v9, v10, v11, v12, v13, v14] h = some (.normal, [v0, v1, .v (.string R), .v (.string P), v4, v5, v6, v7, v8, v9, v10, v11, v12, v13, v14], h) := by
  simp only [a1, run_nil, run_cons, stp_plain, stp_guard, put_some, pass_eq, pick_tt, pick_ff, pick_tf, pick_ft, pick_u, reg_some, thn_normal, thn_exit, thn_ret, cnd_t, cnd_f, blk_normal, blk_ret, blk_exit, x_seq, x_region, x_cond, x_block, x_loop, x_ret, x_exit, x_skip, e_mov, e_pick, pk_t, pk_f, withH_some, e_box, e_load, e_store, stH_some, e_nil, e_bin, e_eqv, eqH_f, eqH_t, e_un, e_fa, e_ia, ia_eq, nat_eq, natV_nat, e_len, lnH_some, e_extract, ex_0, ex_1, e_call0, e_call1, e_call2, e_call3, pc0_eq, pc1_some, pc2_some, pc3_some, fin_some, g_var0, g_vars, g_loc0, g_locs, g_int, g_bool, g_str, g_sl, s_none, s_zero, s_succ, cl_nil, cl_str, cl_bool, cl_slc, cl_own, evFa, evNil, asEl, evBin, intBin, strBin, evUn, len_nil, len_slc, len_str, clr, List.length_nil, List.length_cons, List.getElem?_cons_zero, List.getElem?_cons_succ, Nat.reduceAdd, Nat.zero_add, Nat.add_zero, Nat.reduceLeDiff, Nat.reduceSub, ↓reduceIte, List.drop_succ_cons, List.drop_zero, List.take_succ_cons, List.take_zero, Bool.false_eq_true, List.nil_append, List.cons_append, Bool.not_true, Bool.not_false, cond_true, cond_false, bne, lv_ret, lv_normal, res1, res2, lv2_some, res_var, res_cell, lvf_v, lvf_slc, res1c, lvo1_some, e_mm, mm_max, mm_min, cl_agg, cl_int, g_agg, e_callv1, cv1_fn, e_slice2, e_clrrow, e_callf2, pick_und, cells_agg, Option.map_some, Option.map_none, bx_some, -evBin]
theorem e17 (a1 : evBin .add (.v (.string P)) (.v (.string ⟨#[41]⟩)) = some (.v (.string R))) : exec call K (.region [] [] c60_17) [v0, v1, v2, .v (.string P), v4, v5, v6, v7, v8, v9, v10, v11, v12, v13, v14] h = some (.normal, [v0, v1, .v (.string R), .v (.string P), v4, v5, v6, v7, v8, v9, v10, v11, v12, v13, v14], h) := f17 a1
end
def code60 (X13 X14 : CC) : CC := (.seq (.region [] [] c60_10) (.seq (.cond (.var 13) .skip (.exit 1)) (.seq (.block 2 (.seq (.region [] [] c60_11) (.seq (.seq (.region [] [] c60_12) (.cond (.var 14) X13 .skip)) X14))) (.region [] [] c60_15))))
theorem code60_eq : c60_16 = code60 (.region [] [] c60_13) (.region [] [] c60_14) := rfl
theorem step60 {call : CallF} {c e : AV} {P P1 R : ByteArray} {i n K : Nat} {h : List AO} {X13 X14 : CC} {t : Tm} (hT : IsT e t) (hlt : decide ((i : Int) < (n : Int)) = true) (hw : IntKind.i64.wrap ((i : Int) + 1) = ((i + 1 : Nat) : Int))
    (q2 : ∀ h : List AO, iaV h 4 c (some i) = some (.ip e.cells))
    (k0 : decide ((i : Int) > 0) = false → P1 = P)
    (k1 : decide ((i : Int) > 0) = true → ∀ v0 v1 v2 v4 v5 v6 v7 v8 v9 v10 v11 v12 v13 v14 : AV, exec call K X13 [v0, v1, v2, .v (.string P), v4, v5, v6, v7, v8, v9, v10, v11, v12, v13, v14] (h ++ [.box 24 e.cells]) = some (.normal, [v0, v1, v2, .v (.string P1), v4, v5, v6, v7, v8, v9, v10, v11, v12, v13, v14], h ++ [.box 24 e.cells]))
    (k2 : ∀ v0 v1 v2 v4 v6 v7 v8 v9 v10 v11 v12 v13 v14 : AV, exec call K X14 [v0, v1, v2, .v (.string P1), v4, .ptr h.length 0, v6, v7, v8, v9, v10, v11, v12, v13, v14] (h ++ [.box 24 e.cells]) = some (.normal, [v0, v1, v2, .v (.string R), v4, .ptr h.length 0, v6, v7, v8, v9, v10, v11, v12, v13, v14], h ++ [.box 24 e.cells])) :
    ∃ v, exec call K (code60 X13 X14) (V60 P c n i .junk) h = some (.normal, v, h ++ [.box 24 e.cells]) ∧ clr K60 v = V60 R c n ((i + 1 : Nat) : Int) .junk := by
  have hf := hT.facts
  cases hz : decide ((i : Int) > 0) with
  | false =>
    have := k0 hz
    subst this
    refine ⟨[.junk, .junk, .junk, .v (.string R), .v (.int .i64 i), .ptr h.length 0, .junk, .junk, .junk, .junk, c, .v (.int .i64 n), .v (.int .i64 ((i + 1 : Nat) : Int)), .v (.bool true), .v (.bool false)], ?_, rfl⟩
    simp only [V60, code60, c60_10, c60_11, c60_12, c60_15, hlt, hz, hw, q2, hf, q9z, k2, run_nil, run_cons, stp_plain, stp_guard, put_some, pass_eq, pick_tt, pick_ff, pick_tf, pick_ft, pick_u, reg_some, thn_normal, thn_exit, thn_ret, cnd_t, cnd_f, blk_normal, blk_ret, blk_exit, x_seq, x_region, x_cond, x_block, x_loop, x_ret, x_exit, x_skip, e_mov, e_pick, pk_t, pk_f, withH_some, e_box, e_load, e_store, stH_some, e_nil, e_bin, e_eqv, eqH_f, eqH_t, e_un, e_fa, e_ia, ia_eq, nat_eq, natV_nat, e_len, lnH_some, e_extract, ex_0, ex_1, e_call0, e_call1, e_call2, e_call3, pc0_eq, pc1_some, pc2_some, pc3_some, fin_some, g_var0, g_vars, g_loc0, g_locs, g_int, g_bool, g_str, g_sl, s_none, s_zero, s_succ, cl_nil, cl_str, cl_bool, cl_slc, cl_own, evFa, evNil, asEl, evBin, intBin, strBin, evUn, len_nil, len_slc, len_str, clr, List.length_nil, List.length_cons, List.getElem?_cons_zero, List.getElem?_cons_succ, Nat.reduceAdd, Nat.zero_add, Nat.add_zero, Nat.reduceLeDiff, Nat.reduceSub, ↓reduceIte, List.drop_succ_cons, List.drop_zero, List.take_succ_cons, List.take_zero, Bool.false_eq_true, List.nil_append, List.cons_append, Bool.not_true, Bool.not_false, cond_true, cond_false, bne, lv_ret, lv_normal, res1, res2, lv2_some, res_var, res_cell, lvf_v, lvf_slc, res1c, lvo1_some, e_mm, mm_max, mm_min, cl_agg, cl_int, g_agg, e_callv1, cv1_fn, e_slice2, e_clrrow, e_callf2, pick_und, cells_agg, Option.map_some, Option.map_none, bx_some]
  | true =>
    have k1 := k1 hz
    refine ⟨[.junk, .junk, .junk, .v (.string R), .v (.int .i64 i), .ptr h.length 0, .junk, .junk, .junk, .junk, c, .v (.int .i64 n), .v (.int .i64 ((i + 1 : Nat) : Int)), .v (.bool true), .v (.bool true)], ?_, rfl⟩
    simp only [V60, code60, c60_10, c60_11, c60_12, c60_15, hlt, hz, hw, q2, hf, q9z, k1, k2, run_nil, run_cons, stp_plain, stp_guard, put_some, pass_eq, pick_tt, pick_ff, pick_tf, pick_ft, pick_u, reg_some, thn_normal, thn_exit, thn_ret, cnd_t, cnd_f, blk_normal, blk_ret, blk_exit, x_seq, x_region, x_cond, x_block, x_loop, x_ret, x_exit, x_skip, e_mov, e_pick, pk_t, pk_f, withH_some, e_box, e_load, e_store, stH_some, e_nil, e_bin, e_eqv, eqH_f, eqH_t, e_un, e_fa, e_ia, ia_eq, nat_eq, natV_nat, e_len, lnH_some, e_extract, ex_0, ex_1, e_call0, e_call1, e_call2, e_call3, pc0_eq, pc1_some, pc2_some, pc3_some, fin_some, g_var0, g_vars, g_loc0, g_locs, g_int, g_bool, g_str, g_sl, s_none, s_zero, s_succ, cl_nil, cl_str, cl_bool, cl_slc, cl_own, evFa, evNil, asEl, evBin, intBin, strBin, evUn, len_nil, len_slc, len_str, clr, List.length_nil, List.length_cons, List.getElem?_cons_zero, List.getElem?_cons_succ, Nat.reduceAdd, Nat.zero_add, Nat.add_zero, Nat.reduceLeDiff, Nat.reduceSub, ↓reduceIte, List.drop_succ_cons, List.drop_zero, List.take_succ_cons, List.take_zero, Bool.false_eq_true, List.nil_append, List.cons_append, Bool.not_true, Bool.not_false, cond_true, cond_false, bne, lv_ret, lv_normal, res1, res2, lv2_some, res_var, res_cell, lvf_v, lvf_slc, res1c, lvo1_some, e_mm, mm_max, mm_min, cl_agg, cl_int, g_agg, e_callv1, cv1_fn, e_slice2, e_clrrow, e_callf2, pick_und, cells_agg, Option.map_some, Option.map_none, bx_some]
theorem exit60 {call : CallF} {K : Nat} {h : List AO} {P : ByteArray} {c : AV} {n : Nat} {X13 X14 : CC} : exec call K (code60 X13 X14) (V60 P c n n .junk) h = some (.exit 1, V60 P c n n (.v (.bool false)), h) := by
  have hlt := lt_f (n := n)
  simp only [V60, code60, c60_10, hlt, run_nil, run_cons, stp_plain, stp_guard, put_some, pass_eq, pick_tt, pick_ff, pick_tf, pick_ft, pick_u, reg_some, thn_normal, thn_exit, thn_ret, cnd_t, cnd_f, blk_normal, blk_ret, blk_exit, x_seq, x_region, x_cond, x_block, x_loop, x_ret, x_exit, x_skip, e_mov, e_pick, pk_t, pk_f, withH_some, e_box, e_load, e_store, stH_some, e_nil, e_bin, e_eqv, eqH_f, eqH_t, e_un, e_fa, e_ia, ia_eq, nat_eq, natV_nat, e_len, lnH_some, e_extract, ex_0, ex_1, e_call0, e_call1, e_call2, e_call3, pc0_eq, pc1_some, pc2_some, pc3_some, fin_some, g_var0, g_vars, g_loc0, g_locs, g_int, g_bool, g_str, g_sl, s_none, s_zero, s_succ, cl_nil, cl_str, cl_bool, cl_slc, cl_own, evFa, evNil, asEl, evBin, intBin, strBin, evUn, len_nil, len_slc, len_str, clr, List.length_nil, List.length_cons, List.getElem?_cons_zero, List.getElem?_cons_succ, Nat.reduceAdd, Nat.zero_add, Nat.add_zero, Nat.reduceLeDiff, Nat.reduceSub, ↓reduceIte, List.drop_succ_cons, List.drop_zero, List.take_succ_cons, List.take_zero, Bool.false_eq_true, List.nil_append, List.cons_append, Bool.not_true, Bool.not_false, cond_true, cond_false, bne, lv_ret, lv_normal, res1, res2, lv2_some, res_var, res_cell, lvf_v, lvf_slc, res1c, lvo1_some, e_mm, mm_max, mm_min, cl_agg, cl_int, g_agg, e_callv1, cv1_fn, e_slice2, e_clrrow, e_callf2, pick_und, cells_agg, Option.map_some, Option.map_none, bx_some]
def rsum (P : List UInt8) : Nat → List Tm → List UInt8
  | _, [] => P
  | i, a :: l => rsum ((if 0 < i then P ++ [44] else P) ++ wrT a) (i + 1) l
theorem rsum_eq : ∀ (l : List Tm) (P : List UInt8) (i : Nat), 0 < i → rsum P i l = P ++ wrL 44 l
  | [], P, i, h => by rw [rsum, wrL, List.append_nil]
  | a :: l, P, i, h => by
    rw [rsum, if_pos h, rsum_eq l _ _ (by omega), wrL]
    simp only [List.append_assoc, List.cons_append, List.nil_append]
theorem rsum_zero {l : List Tm} (hl : l ≠ []) (P : List UInt8) : rsum (P ++ [40]) 0 l = P ++ wrL 40 l := by
  cases l with
  | nil => exact absurd rfl hl
  | cons a l =>
    rw [rsum, if_neg (by omega), rsum_eq l _ _ (by omega), wrL]
    simp only [List.append_assoc, List.cons_append, List.nil_append]
theorem rsum_len : ∀ (l : List Tm) (P : List UInt8) (i : Nat), P.length ≤ (rsum P i l).length
  | [], P, i => by rw [rsum]; exact Nat.le_refl _
  | a :: l, P, i => by
    rw [rsum]
    refine Nat.le_trans ?_ (rsum_len l _ _)
    split <;> simp only [List.length_append] <;> omega
theorem rtw_loop {l : List Tm} {es : List AV} {c : AV} (hs : Sl 4 c es) (hes : All2 es l) (hmx : es.length ≤ maxLen) (hml : mayL l = true) (hrl : rgL l)
    (ih : ∀ i : Nat, ∀ h : i < l.length, ∀ h' : i < es.length, callW F 60 [es[i]] [] = some (strV (wrT l[i]), [])) (P0 : List UInt8) (hl : (rsum P0 0 l).length ≤ 90000000) (v : List AV) (h0 : List AO) (hv : clr K60 v = V60 ⟨P0.toArray⟩ c l.length 0 .junk) :
    ∃ h', loopN (exec (callW F) (l.length + 1) c60_16) K60 (l.length + 1) v h0 = some (.exit 1, V60 ⟨(rsum P0 0 l).toArray⟩ c l.length l.length (.v (.bool false)), h') := by
  have hll := hes.length
  rw [code60_eq]
  obtain ⟨e, v', h', g1, g2, g3⟩ := loop_rule0 (call := callW F) (K := l.length + 1) (b := code60 (.region [] [] c60_13) (.region [] [] c60_14)) (keep := K60)
    (fun i v h => ∃ P : List UInt8, v = V60 ⟨P.toArray⟩ c l.length i .junk ∧ rsum P i (l.drop i) = rsum P0 0 l)
    (fun e v h => e = .exit 1 ∧ v = V60 ⟨(rsum P0 0 l).toArray⟩ c l.length l.length (.v (.bool false)))
    l.length (m := l.length + 1) (v := v) (h := h0) (by omega) ⟨P0, hv, rfl⟩ (by
      rintro i v h hi ⟨P, rfl, hR⟩
      by_cases hil : i < l.length
      · have hle : i < es.length := by omega
        have hT := hes.at hle hil
        have hlt := lt_t hil
        have he : es[i]? = some es[i] := List.getElem?_eq_getElem hle
        have q2 := fun h : List AO => hs.ia he h
        have hf := hT.facts
        have hw := wrap_succ hle hmx
        have hc := ih i hil hle
        rw [List.drop_eq_getElem_cons hil, rsum] at hR
        have hlen := rsum_len (l.drop (i + 1)) ((if 0 < i then P ++ [44] else P) ++ wrT l[i]) (i + 1)
        rw [hR] at hlen
        have ld := hf.2.2.2.1 h 24
        have sn := hf.2.1 (h ++ [.box 24 es[i].cells])
        by_cases hz : 0 < i
        · rw [if_pos hz] at hR hlen
          simp only [List.length_append, List.length_cons, List.length_nil] at hlen
          obtain ⟨v2, s1, s2⟩ := step60 (call := callW F) (K := l.length + 1) (h := h) (P := ⟨P.toArray⟩) (P1 := ⟨(P ++ [44]).toArray⟩) (R := ⟨(P ++ [44] ++ wrT l[i]).toArray⟩) (X13 := .region [] [] c60_13) (X14 := .region [] [] c60_14) hT hlt hw q2 (fun e => by simp at e; omega)
            (fun _ v0 v1 v2 v4 v5 v6 v7 v8 v9 v10 v11 v12 v13 v14 => e13 (str_add (x := P) (y := [44]) (by simp only [List.length_cons, List.length_nil]; omega)))
            (fun v0 v1 v2 v4 v6 v7 v8 v9 v10 v11 v12 v13 v14 => e14 ld sn hc (str_add (x := P ++ [44]) (y := wrT l[i]) (by simp only [List.length_append, List.length_cons, List.length_nil]; omega)))
          exact ⟨.normal, v2, _, s1, hil, P ++ [44] ++ wrT l[i], s2, hR⟩
        · rw [if_neg hz] at hR hlen
          simp only [List.length_append] at hlen
          obtain ⟨v2, s1, s2⟩ := step60 (call := callW F) (K := l.length + 1) (h := h) (P := ⟨P.toArray⟩) (P1 := ⟨P.toArray⟩) (R := ⟨(P ++ wrT l[i]).toArray⟩) (X13 := .region [] [] c60_13) (X14 := .region [] [] c60_14) hT hlt hw q2 (fun e => rfl)
            (fun e => by simp at e; omega)
            (fun v0 v1 v2 v4 v6 v7 v8 v9 v10 v11 v12 v13 v14 => e14 ld sn hc (str_add (x := P) (y := wrT l[i]) (by omega)))
          exact ⟨.normal, v2, _, s1, hil, P ++ wrT l[i], s2, hR⟩
      · have hie : i = l.length := by omega
        subst hie
        rw [List.drop_of_length_le (Nat.le_refl _), rsum] at hR
        subst hR
        exact ⟨_, _, _, exit60, rfl, rfl⟩)
  obtain ⟨rfl, rfl⟩ := g3
  exact ⟨h', g1⟩
def body60 (X3 X8 X17 bb : CC) : CC := (.seq (.region [] [] c60_0) (.seq (.seq (.region [] [] c60_1) (.block 0 (.seq (.region [] [] c60_2) (.cond (.var 7) (.seq X3 .ret) (.seq (.region [] [] c60_4) (.cond (.var 8) (.seq (.region [] [] c60_5) .ret) (.seq (.region [] [] c60_6) (.cond (.var 9) (.seq (.region [] [] c60_7) .ret) .skip)))))))) (.seq X8 (.seq (.seq (.region [] [] c60_9) (.block 1 (.loop K60 [] bb))) (.seq X17 .ret)))))
theorem body60_eq : c60.body = body60 (.region [] [] c60_3) (.region [] [] c60_8) (.region [] [] c60_17) c60_16 := rfl
def start60 (a : AV) : List AV := [a, .v undef, .v undef, .v undef, .v undef, .v undef, .v undef, .v undef, .v undef, .v undef, .v undef, .v undef, .v undef, .v undef, .v undef]
section
variable {call : CallF} {K : Nat} {k n : Int} {s : ByteArray} {c : AV} {R : ByteArray} {X3 X8 X17 bb : CC}
theorem b60_1 (h1 : (k == 1) = true) (k3 : ∀ v0 v2 v3 v4 v5 v6 v7 v8 v9 v10 v11 v12 v13 v14 : AV, exec call K X3 [v0, .ptr 0 0, v2, v3, v4, v5, v6, v7, v8, v9, v10, v11, v12, v13, v14] [tb k n s c] = some (.normal, [v0, .ptr 0 0, .v (.string R), v3, v4, v5, v6, v7, v8, v9, v10, v11, v12, v13, v14], [tb k n s c])) :
    lv [.var 2] (exec call K (body60 X3 X8 X17 bb) (start60 (.agg [.v (.int .i64 k), .v (.string s), .v (.int .i64 n), c])) []) = some (.v (.string R), []) := by
  simp only [body60, start60, c60_0, c60_1, c60_2, tbx, tb0, h1, k3, run_nil, run_cons, stp_plain, stp_guard, put_some, pass_eq, pick_tt, pick_ff, pick_tf, pick_ft, pick_u, reg_some, thn_normal, thn_exit, thn_ret, cnd_t, cnd_f, blk_normal, blk_ret, blk_exit, x_seq, x_region, x_cond, x_block, x_loop, x_ret, x_exit, x_skip, e_mov, e_pick, pk_t, pk_f, withH_some, e_box, e_load, e_store, stH_some, e_nil, e_bin, e_eqv, eqH_f, eqH_t, e_un, e_fa, e_ia, ia_eq, nat_eq, natV_nat, e_len, lnH_some, e_extract, ex_0, ex_1, e_call0, e_call1, e_call2, e_call3, pc0_eq, pc1_some, pc2_some, pc3_some, fin_some, g_var0, g_vars, g_loc0, g_locs, g_int, g_bool, g_str, g_sl, s_none, s_zero, s_succ, cl_nil, cl_str, cl_bool, cl_slc, cl_own, evFa, evNil, asEl, evBin, intBin, strBin, evUn, len_nil, len_slc, len_str, clr, List.length_nil, List.length_cons, List.getElem?_cons_zero, List.getElem?_cons_succ, Nat.reduceAdd, Nat.zero_add, Nat.add_zero, Nat.reduceLeDiff, Nat.reduceSub, ↓reduceIte, List.drop_succ_cons, List.drop_zero, List.take_succ_cons, List.take_zero, Bool.false_eq_true, List.nil_append, List.cons_append, Bool.not_true, Bool.not_false, cond_true, cond_false, bne, lv_ret, lv_normal, res1, res2, lv2_some, res_var, res_cell, lvf_v, lvf_slc, res1c, lvo1_some, e_mm, mm_max, mm_min, cl_agg, cl_int, g_agg, e_callv1, cv1_fn, e_slice2, e_clrrow, e_callf2, pick_und, cells_agg, Option.map_some, Option.map_none]
theorem b60_3 (h1 : (k == 1) = false) (h3 : (k == 3) = true) (hx : call 73 [.v (.int .i64 n)] [] = some (.v (.string R), [])) :
    lv [.var 2] (exec call K (body60 X3 X8 X17 bb) (start60 (.agg [.v (.int .i64 k), .v (.string s), .v (.int .i64 n), c])) []) = some (.v (.string R), []) := by
  simp only [body60, start60, c60_0, c60_1, c60_2, c60_4, c60_5, tbx, tb0, tb2, h1, h3, hx, snap_int, run_nil, run_cons, stp_plain, stp_guard, put_some, pass_eq, pick_tt, pick_ff, pick_tf, pick_ft, pick_u, reg_some, thn_normal, thn_exit, thn_ret, cnd_t, cnd_f, blk_normal, blk_ret, blk_exit, x_seq, x_region, x_cond, x_block, x_loop, x_ret, x_exit, x_skip, e_mov, e_pick, pk_t, pk_f, withH_some, e_box, e_load, e_store, stH_some, e_nil, e_bin, e_eqv, eqH_f, eqH_t, e_un, e_fa, e_ia, ia_eq, nat_eq, natV_nat, e_len, lnH_some, e_extract, ex_0, ex_1, e_call0, e_call1, e_call2, e_call3, pc0_eq, pc1_some, pc2_some, pc3_some, fin_some, g_var0, g_vars, g_loc0, g_locs, g_int, g_bool, g_str, g_sl, s_none, s_zero, s_succ, cl_nil, cl_str, cl_bool, cl_slc, cl_own, evFa, evNil, asEl, evBin, intBin, strBin, evUn, len_nil, len_slc, len_str, clr, List.length_nil, List.length_cons, List.getElem?_cons_zero, List.getElem?_cons_succ, Nat.reduceAdd, Nat.zero_add, Nat.add_zero, Nat.reduceLeDiff, Nat.reduceSub, ↓reduceIte, List.drop_succ_cons, List.drop_zero, List.take_succ_cons, List.take_zero, Bool.false_eq_true, List.nil_append, List.cons_append, Bool.not_true, Bool.not_false, cond_true, cond_false, bne, lv_ret, lv_normal, res1, res2, lv2_some, res_var, res_cell, lvf_v, lvf_slc, res1c, lvo1_some, e_mm, mm_max, mm_min, cl_agg, cl_int, g_agg, e_callv1, cv1_fn, e_slice2, e_clrrow, e_callf2, pick_und, cells_agg, Option.map_some, Option.map_none]
theorem b60_2 (h1 : (k == 1) = false) (h3 : (k == 3) = false) (h2 : (k == 2) = true) (hx : call 74 [.v (.string s)] [] = some (.v (.string R), [])) :
    lv [.var 2] (exec call K (body60 X3 X8 X17 bb) (start60 (.agg [.v (.int .i64 k), .v (.string s), .v (.int .i64 n), c])) []) = some (.v (.string R), []) := by
  simp only [body60, start60, c60_0, c60_1, c60_2, c60_4, c60_6, c60_7, tbx, tb0, tb1, h1, h2, h3, hx, snap_str, run_nil, run_cons, stp_plain, stp_guard, put_some, pass_eq, pick_tt, pick_ff, pick_tf, pick_ft, pick_u, reg_some, thn_normal, thn_exit, thn_ret, cnd_t, cnd_f, blk_normal, blk_ret, blk_exit, x_seq, x_region, x_cond, x_block, x_loop, x_ret, x_exit, x_skip, e_mov, e_pick, pk_t, pk_f, withH_some, e_box, e_load, e_store, stH_some, e_nil, e_bin, e_eqv, eqH_f, eqH_t, e_un, e_fa, e_ia, ia_eq, nat_eq, natV_nat, e_len, lnH_some, e_extract, ex_0, ex_1, e_call0, e_call1, e_call2, e_call3, pc0_eq, pc1_some, pc2_some, pc3_some, fin_some, g_var0, g_vars, g_loc0, g_locs, g_int, g_bool, g_str, g_sl, s_none, s_zero, s_succ, cl_nil, cl_str, cl_bool, cl_slc, cl_own, evFa, evNil, asEl, evBin, intBin, strBin, evUn, len_nil, len_slc, len_str, clr, List.length_nil, List.length_cons, List.getElem?_cons_zero, List.getElem?_cons_succ, Nat.reduceAdd, Nat.zero_add, Nat.add_zero, Nat.reduceLeDiff, Nat.reduceSub, ↓reduceIte, List.drop_succ_cons, List.drop_zero, List.take_succ_cons, List.take_zero, Bool.false_eq_true, List.nil_append, List.cons_append, Bool.not_true, Bool.not_false, cond_true, cond_false, bne, lv_ret, lv_normal, res1, res2, lv2_some, res_var, res_cell, lvf_v, lvf_slc, res1c, lvo1_some, e_mm, mm_max, mm_min, cl_agg, cl_int, g_agg, e_callv1, cv1_fn, e_slice2, e_clrrow, e_callf2, pick_und, cells_agg, Option.map_some, Option.map_none]
theorem b60_4 {P Q : ByteArray} {m : Nat} {h' : List AO} (h1 : (k == 1) = false) (h3 : (k == 3) = false) (h2 : (k == 2) = false)
    (k8 : ∀ v0 v2 v3 v4 v5 v6 v7 v8 v9 v10 v11 v12 v13 v14 : AV, exec call K X8 [v0, .ptr 0 0, v2, v3, v4, v5, v6, v7, v8, v9, v10, v11, v12, v13, v14] [tb k n s c] = some (.normal, [v0, .ptr 0 0, v2, .v (.string P), v4, v5, v6, v7, v8, v9, v10, v11, v12, v13, v14], [tb k n s c]))
    (q1 : ∀ h : List AO, evLen h .slice c = some m)
    (lp : ∀ v : List AV, clr K60 v = V60 P c m 0 .junk → loopN (exec call K bb) K60 K v [tb k n s c] = some (.exit 1, V60 Q c m m (.v (.bool false)), h'))
    (k17 : ∀ v0 v1 v2 v4 v5 v6 v7 v8 v9 v10 v11 v12 v13 v14 : AV, exec call K X17 [v0, v1, v2, .v (.string Q), v4, v5, v6, v7, v8, v9, v10, v11, v12, v13, v14] h' = some (.normal, [v0, v1, .v (.string R), .v (.string Q), v4, v5, v6, v7, v8, v9, v10, v11, v12, v13, v14], h')) :
    lv [.var 2] (exec call K (body60 X3 X8 X17 bb) (start60 (.agg [.v (.int .i64 k), .v (.string s), .v (.int .i64 n), c])) []) = some (.v (.string R), []) := by
  have lp := fun x0 x2 x4 x5 x6 x7 x8 x9 x13 x14 => lp [x0, .ptr 0 0, x2, .v (.string P), x4, x5, x6, x7, x8, x9, c, .v (.int .i64 m), .v (.int .i64 0), x13, x14] rfl
  simp only [body60, start60, V60, c60_0, c60_1, c60_2, c60_4, c60_6, c60_9, tbx, tb0, tb3, h1, h2, h3, k8, q1, lp, k17, run_nil, run_cons, stp_plain, stp_guard, put_some, pass_eq, pick_tt, pick_ff, pick_tf, pick_ft, pick_u, reg_some, thn_normal, thn_exit, thn_ret, cnd_t, cnd_f, blk_normal, blk_ret, blk_exit, x_seq, x_region, x_cond, x_block, x_loop, x_ret, x_exit, x_skip, e_mov, e_pick, pk_t, pk_f, withH_some, e_box, e_load, e_store, stH_some, e_nil, e_bin, e_eqv, eqH_f, eqH_t, e_un, e_fa, e_ia, ia_eq, nat_eq, natV_nat, e_len, lnH_some, e_extract, ex_0, ex_1, e_call0, e_call1, e_call2, e_call3, pc0_eq, pc1_some, pc2_some, pc3_some, fin_some, g_var0, g_vars, g_loc0, g_locs, g_int, g_bool, g_str, g_sl, s_none, s_zero, s_succ, cl_nil, cl_str, cl_bool, cl_slc, cl_own, evFa, evNil, asEl, evBin, intBin, strBin, evUn, len_nil, len_slc, len_str, clr, List.length_nil, List.length_cons, List.getElem?_cons_zero, List.getElem?_cons_succ, Nat.reduceAdd, Nat.zero_add, Nat.add_zero, Nat.reduceLeDiff, Nat.reduceSub, ↓reduceIte, List.drop_succ_cons, List.drop_zero, List.take_succ_cons, List.take_zero, Bool.false_eq_true, List.nil_append, List.cons_append, Bool.not_true, Bool.not_false, cond_true, cond_false, bne, lv_ret, lv_normal, res1, res2, lv2_some, res_var, res_cell, lvf_v, lvf_slc, res1c, lvo1_some, e_mm, mm_max, mm_min, cl_agg, cl_int, g_agg, e_callv1, cv1_fn, e_slice2, e_clrrow, e_callf2, pick_und, cells_agg, Option.map_some, Option.map_none]
end
theorem wrL_at : ∀ {l : List Tm} {i : Nat} (h : i < l.length) (c : UInt8), (wrT l[i]).length ≤ (wrL c l).length
  | a :: l, 0, _, c => by rw [wrL]; simp only [List.length_cons, List.length_append, List.getElem_cons_zero]; omega
  | a :: l, i + 1, h, c => by
    have := wrL_at (l := l) (i := i) (by simpa using h) 44
    rw [wrL]; simp only [List.length_cons, List.length_append, List.getElem_cons_succ]; omega
theorem rtw_ok : ∀ (N : Nat) (t : Tm) (a : AV), SizeOf.sizeOf t < N → mayT t = true → rgT t → IsT a t → (wrT t).length ≤ 90000000 → callW F 60 [a] [] = some (strV (wrT t), []) := by
  intro N
  induction N with
  | zero => intro t a h; omega
  | succ N ih =>
    intro t a hN hm hr ha hl
    cases ha with
    | mk k s n c l hc =>
    obtain ⟨es, hs, hes, hmx⟩ := hc.sl
    have hll := hes.length
    have q1 := fun h : List AO => hs.len h
    rw [hll] at q1
    have hml := may_args hm
    have hrl : rgL l := hr.2
    have hn := rnum_ok hr.1
    have hst : start c60 [.agg [.v (.int .i64 k), .v (.string s), .v (.int .i64 n), c]] = start60 (.agg [.v (.int .i64 k), .v (.string s), .v (.int .i64 n), c]) := rfl
    refine callW_pure (c := c60) rfl rfl (l.length + 1) ?_
    rw [body60_eq, hst, show c60.res = [.var 2] from rfl]
    rw [wrT] at hl ⊢
    rw [mayT] at hm
    unfold headW at hl ⊢
    cases h1 : (k == 1) with
    | true =>
      rw [h1, if_pos rfl, Bool.and_eq_true] at hm
      have hnil : l = [] := by
        have := hm.1
        simpa using this
      subst hnil
      rw [h1, if_pos rfl] at hl
      rw [if_pos rfl, wrL]
      simp only [List.append_nil, List.isEmpty_nil, if_true, List.length_append, List.length_cons, wrL] at hl ⊢
      exact b60_1 h1 (fun v0 v2 v3 v4 v5 v6 v7 v8 v9 v10 v11 v12 v13 v14 => e3 hn (str_add (x := [95]) (y := bl (numT n)) (by simp only [List.length_cons, List.length_nil]; omega)))
    | false =>
    cases h3 : (k == 3) with
    | true =>
      rw [h1, h3] at hm
      have h2 : (k == 2) = false := by
        cases h2 : (k == 2) with
        | false => rfl
        | true => simp only [beq_iff_eq] at h2 h3; omega
      rw [h2] at hm
      simp only [Bool.false_eq_true, if_false, if_true, Bool.and_eq_true] at hm
      have hnil : l = [] := by simpa using hm.1
      subst hnil
      simp only [Bool.false_eq_true, if_false, if_true, List.append_nil, List.isEmpty_nil, wrL]
      have := b60_3 (call := callW F) (K := ([] : List Tm).length + 1) (c := c) (s := s) (X3 := .region [] [] c60_3) (X8 := .region [] [] c60_8) (X17 := .region [] [] c60_17) (bb := c60_16) h1 h3 hn
      rw [this, strV, ← bl_eta]
    | false =>
    cases h2 : (k == 2) with
    | true =>
      rw [h1, h2] at hm
      simp only [Bool.false_eq_true, if_false, if_true, Bool.and_eq_true] at hm
      have hnil : l = [] := by simpa using hm.1
      subst hnil
      simp only [Bool.false_eq_true, if_false, List.append_nil, List.isEmpty_nil, if_true, wrL]
      exact b60_2 h1 h3 h2 (rwrite_ok hm.2.2)
    | false =>
    cases h4 : (k == 4) with
    | false => rw [h1, h2, h3, h4] at hm; simp at hm
    | true =>
      rw [h1, h2, h3, h4] at hm
      simp only [Bool.false_eq_true, if_false, if_true, Bool.and_eq_true] at hm
      have hne : l ≠ [] := by rintro rfl; simp at hm
      have hie : l.isEmpty = false := by cases l with
        | nil => exact absurd rfl hne
        | cons a l => rfl
      rw [h1, h3, hie] at hl
      simp only [hie, Bool.false_eq_true, if_false, List.length_append] at hl ⊢
      have hrs := rsum_zero hne (writeL s)
      have hlen : (rsum (writeL s ++ [40]) 0 l).length = (writeL s).length + (wrL 40 l).length := by rw [hrs, List.length_append]
      have lp := fun v hv => rtw_loop hs hes hmx hml hrl (fun i h h' => ih l[i] es[i] (by have := IsL.mem_size (k := k) (n := n) (s := s) (List.getElem_mem h); omega) (may_at h hml) (rg_at h hrl) (hes.at h' h) (by
        have := wrL_at h 40
        omega)) (writeL s ++ [40]) (by omega) v [tb k n s c] hv
      obtain ⟨h', hh⟩ : ∃ h', ∀ v : List AV, clr K60 v = V60 ⟨(writeL s ++ [40]).toArray⟩ c l.length 0 .junk → loopN (exec (callW F) (l.length + 1) c60_16) K60 (l.length + 1) v [tb k n s c] = some (.exit 1, V60 ⟨(rsum (writeL s ++ [40]) 0 l).toArray⟩ c l.length l.length (.v (.bool false)), h') := by
        obtain ⟨h', hh⟩ := lp (V60 ⟨(writeL s ++ [40]).toArray⟩ c l.length 0 .junk) rfl
        refine ⟨h', fun v hv => ?_⟩
        rw [← hh]
        exact loop_cong (by rw [hv]; rfl)
      rw [hrs] at hh hlen
      rw [← List.append_assoc]
      refine b60_4 h1 h3 h2 (fun v0 v2 v3 v4 v5 v6 v7 v8 v9 v10 v11 v12 v13 v14 => e8 (rwrite_ok hm.2.2.2.1) (str_add (x := writeL s) (y := [40]) (by simp only [List.length_cons, List.length_nil]; omega))) q1 hh
        (fun v0 v1 v2 v4 v5 v6 v7 v8 v9 v10 v11 v12 v13 v14 => e17 (str_add (x := writeL s ++ wrL 40 l) (y := [41]) (by simp only [List.length_append, List.length_cons, List.length_nil]; omega)))
end Go.AE.YtgcbaefclkfnoaaDoor
end

/-! How many terms a term has: what Few tells of it. -/
section
set_option linter.unusedVariables false
set_option linter.unusedSimpArgs false
namespace Go.AE.YtgcbaefclkfnoaaDoor
open Go Go.AE Go.Proofs.YtgcbaefclkfnoaaDoor

mutual
def size : Tm → Nat
  | .mk _ _ _ l => 1 + sizeL l
def sizeL : List Tm → Nat
  | [] => 0
  | t :: l => size t + sizeL l
end
theorem size_pos (t : Tm) : 1 ≤ size t := by cases t; simp only [size]; omega
theorem sizeL_len : ∀ l : List Tm, l.length ≤ sizeL l
  | [] => Nat.le_refl _
  | t :: l => by
    have := sizeL_len l
    have := size_pos t
    simp only [sizeL, List.length_cons]; omega
theorem size_mem : ∀ {l : List Tm} {t : Tm}, t ∈ l → size t ≤ sizeL l
  | u :: l, t, h => by
    simp only [sizeL]
    rcases List.mem_cons.1 h with rfl | h
    · omega
    · have := size_mem h; omega
theorem wrap_pred {m : Int} (h0 : 0 ≤ m) (h1 : m ≤ 1000000) : IntKind.i64.wrap (m - 1) = m - 1 := by
  rw [IntWalk.i64_in]; omega
mutual
theorem left_size : ∀ (t : Tm) (m : Int), 0 ≤ m → m ≤ 1000000 → -1 ≤ fewT t m ∧ fewT t m ≤ m ∧ (0 ≤ fewT t m → fewT t m + size t = m)
  | .mk k s n l, m, h0, h1 => by
    rw [fewT, size, wrap_pred h0 h1]
    have := leftL_size l (m - 1) (by omega) (by omega)
    refine ⟨this.1, by omega, fun h => ?_⟩
    have := this.2.2 h
    omega
theorem leftL_size : ∀ (l : List Tm) (m : Int), -1 ≤ m → m ≤ 1000000 → -1 ≤ fewL l m ∧ fewL l m ≤ m ∧ (0 ≤ fewL l m → fewL l m + sizeL l = m)
  | [], m, h0, h1 => by simp only [fewL, sizeL]; omega
  | t :: l, m, h0, h1 => by
    simp only [fewL, sizeL]
    by_cases hm : m < 0
    · rw [if_pos hm]; omega
    · rw [if_neg hm]
      have a := left_size t m (by omega) h1
      have b := leftL_size l (fewT t m) (by omega) (by omega)
      refine ⟨b.1, by omega, fun h => ?_⟩
      have := b.2.2 h
      have := a.2.2 (by omega)
      omega
end
theorem big_size {ts : List Tm} (h : bigT ts = false) : ∀ t ∈ ts, size t ≤ 3000 := by
  intro t ht
  simp only [bigT, Bool.not_eq_false', List.all_eq_true] at h
  have h1 := h t ht
  simp only [fewB, decide_eq_true_eq, ge_iff_le] at h1
  have := (left_size t 3000 (by omega) (by omega)).2.2 h1
  omega
end Go.AE.YtgcbaefclkfnoaaDoor
end

/-! A term's text, walked: the program's, the document's; the law. -/
section
set_option linter.unusedVariables false
set_option linter.unusedSimpArgs false
namespace Go.AE.YtgcbaefclkfnoaaDoor
open Go Go.AE Go.Proofs.YtgcbaefclkfnoaaDoor

theorem fmt_tab : (List.range 32).map (fun (c : Nat) => callN F 40 81 [.v (.int .i64 (c : Int)), .v (.int .i64 16)] []) = (List.range 32).map fun (c : Nat) => some (.v (.string ⟨(hexL c).toArray⟩), []) := by kernel_rfl
theorem hfmt (c : Nat) (h : c < 32) : callW F 81 [.v (.int .i64 (c : Int)), .v (.int .i64 16)] [] = some (.v (.string ⟨(hexL c).toArray⟩), []) :=
  callW_iff.2 ⟨40, List.map_inj_left.1 fmt_tab c (List.mem_range.2 h)⟩
/-! ### How long a text is -/
theorem writeL_len {s : ByteArray} (h : chkS s = true) : (writeL s).length ≤ 1277 := by
  have h255 : s.size ≤ 255 := by
    simp only [chkS, Bool.and_eq_true] at h
    have := of_decide_eq_true h.1
    omega
  unfold writeL
  split
  · have : (bl s).length = s.size := by simp only [bl, ByteArray.size, Array.length_toList]
    omega
  · have hfl : ∀ L : List Nat, (L.flatMap escL).length ≤ 5 * L.length := by
      intro L
      induction L with
      | nil => simp
      | cons c L ih =>
        have := escL_len c
        rw [List.flatMap_cons, List.length_append, List.length_cons]; omega
    have h1 := hfl (runesOf s)
    have h2 := rns_len s s.size 0
    rw [show rns s s.size 0 = runesOf s from rfl] at h2
    rw [List.length_cons, List.length_append]
    simp only [List.length_cons, List.length_nil]
    omega
theorem numT_len {n : Int} (h : rg n) : (bl (numT n)).length ≤ 21 := by
  have h1 := decD_20 (n := n.natAbs) (by unfold rg at h; omega)
  have e : bl (numT n) = (if decide (n < 0) = true then [45] else []) ++ decD n.natAbs := by simp only [bl, numT]
  rw [e, List.length_append]
  split <;> simp only [List.length_cons, List.length_nil] <;> omega
theorem headW_len {k n : Int} {s : ByteArray} {l : List Tm} (hm : mayT (.mk k s n l) = true) (hr : rg n) : (headW k s n).length ≤ 1300 := by
  have h1 := numT_len hr
  unfold headW
  cases h1 : (k == 1) with
  | true => rw [if_pos rfl, List.length_cons]; omega
  | false =>
    cases h3 : (k == 3) with
    | true => rw [if_neg (by simp), if_pos rfl]; omega
    | false =>
      rw [if_neg (by simp), if_neg (by simp)]
      have hck : chkS s = true := by
        rw [mayT, h1, h3] at hm
        cases h2 : (k == 2) <;> cases h4 : (k == 4) <;> simp [h2, h4] at hm <;> first | exact hm.2.2.2.1 | exact hm.2.2
      have := writeL_len hck
      omega
mutual
theorem wrT_len : ∀ t : Tm, mayT t = true → rgT t → (wrT t).length + 1 ≤ 1400 * size t
  | .mk k s n l, hm, hr => by
    have h1 := headW_len hm hr.1
    have h2 := wrL_len l (may_args hm) hr.2 40
    rw [wrT, size, List.length_append, List.length_append]
    split <;> simp only [List.length_cons, List.length_nil] <;> omega
theorem wrL_len : ∀ l : List Tm, mayL l = true → rgL l → ∀ c : UInt8, (wrL c l).length ≤ 1400 * sizeL l
  | [], _, _, c => by rw [wrL]; simp
  | a :: l, hm, hr, c => by
    rw [mayL, Bool.and_eq_true] at hm
    have h1 := wrT_len a hm.1 hr.1
    have h2 := wrL_len l hm.2 hr.2 44
    rw [wrL, sizeL, List.length_cons, List.length_append]
    omega
end
/-! ### Text -/
def textT (t : Tm) : ByteArray := if (checkT t == 0) = true then ⟨(wrT t).toArray⟩ else ⟨#[]⟩
theorem check_may' {t : Tm} (h : (checkT t == 0) = true) : mayT t = true := by
  unfold checkT at h
  cases hm : mayT t with
  | true => rfl
  | false => rw [hm] at h; simp at h
theorem wrT_ne (t : Tm) : wrT t ≠ [] := by
  cases t with
  | mk k s n l =>
    rw [wrT]
    intro h
    have h := (List.append_eq_nil_iff.1 h).1
    unfold headW at h
    split at h
    · exact absurd h (by simp)
    · split at h
      · exact num_pos n h
      · exact writeL_pos s h
theorem rtext_ok {t : Tm} {a : AV} (ha : IsT a t) (hr : rgT t) (hsz : size t ≤ 3000) : callW F 35 [a] [] = some (.tup [.v (.string (textT t)), .v (.int .i64 (checkT t))], []) := by
  refine callW_pure (c := c35) rfl rfl 0 ?_
  have hf := ha.facts
  have h1 := rcheck_ok t a ha
  have e1 : evLoad [.box 24 a.cells] true 4 (.ptr 0 0) = some a := hf.2.2.2.1 [] 24
  unfold textT
  cases h2 : (checkT t == 0) with
  | false =>
    have l2 : ∀ h : List AO, lvf h (.tup [.v (.string ⟨#[]⟩), .v (.int .i64 (checkT t))]) = some (.tup [.v (.string ⟨#[]⟩), .v (.int .i64 (checkT t))], []) := fun _ => rfl
    simp only [c35, start, List.replicate, c35_0, c35_1, c35_2, c35_3, hf, e1, h1, h2, l2, run_nil, run_cons, stp_plain, stp_guard, put_some, pass_eq, pick_tt, pick_ff, pick_tf, pick_ft, pick_u, reg_some, thn_normal, thn_exit, thn_ret, cnd_t, cnd_f, blk_normal, blk_ret, blk_exit, x_seq, x_region, x_cond, x_block, x_loop, x_ret, x_exit, x_skip, e_mov, e_pick, pk_t, pk_f, withH_some, e_box, e_load, e_store, stH_some, e_nil, e_bin, e_eqv, eqH_f, eqH_t, e_un, e_fa, e_ia, ia_eq, nat_eq, natV_nat, e_len, lnH_some, e_extract, ex_0, ex_1, e_call0, e_call1, e_call2, e_call3, pc0_eq, pc1_some, pc2_some, pc3_some, fin_some, g_var0, g_vars, g_loc0, g_locs, g_int, g_bool, g_str, g_sl, s_none, s_zero, s_succ, cl_nil, cl_str, cl_bool, cl_slc, cl_own, evFa, evNil, asEl, evBin, intBin, strBin, evUn, len_nil, len_slc, len_str, clr, List.length_nil, List.length_cons, List.getElem?_cons_zero, List.getElem?_cons_succ, Nat.reduceAdd, Nat.zero_add, Nat.add_zero, Nat.reduceLeDiff, Nat.reduceSub, ↓reduceIte, List.drop_succ_cons, List.drop_zero, List.take_succ_cons, List.take_zero, Bool.false_eq_true, List.nil_append, List.cons_append, Bool.not_true, Bool.not_false, cond_true, cond_false, bne, lv_ret, lv_normal, res1, res2, lv2_some, res_var, res_cell, lvf_v, lvf_slc, res1c, lvo1_some, e_mm, mm_max, mm_min, cl_agg, cl_int, g_agg, e_callv1, cv1_fn, e_slice2, e_clrrow, e_callf2, pick_und, cells_agg, Option.map_some, Option.map_none, bx_some]
  | true =>
    have hm := check_may' h2
    have h3 := rtw_ok _ t a (Nat.lt_succ_self _) hm hr ha (by have := wrT_len t hm hr; omega)
    have hz : checkT t = 0 := by simpa using h2
    rw [hz] at h1 ⊢
    rw [strV] at h3
    generalize (⟨(wrT t).toArray⟩ : ByteArray) = W at h3
    have l2 : ∀ h : List AO, lvf h (.tup [.v (.string W), .v (.int .i64 0)]) = some (.tup [.v (.string W), .v (.int .i64 0)], []) := fun _ => rfl
    have z : ((0 : Int) == 0) = true := rfl
    simp only [c35, start, List.replicate, c35_0, c35_1, c35_2, c35_4, hf, e1, h1, h3, z, l2, run_nil, run_cons, stp_plain, stp_guard, put_some, pass_eq, pick_tt, pick_ff, pick_tf, pick_ft, pick_u, reg_some, thn_normal, thn_exit, thn_ret, cnd_t, cnd_f, blk_normal, blk_ret, blk_exit, x_seq, x_region, x_cond, x_block, x_loop, x_ret, x_exit, x_skip, e_mov, e_pick, pk_t, pk_f, withH_some, e_box, e_load, e_store, stH_some, e_nil, e_bin, e_eqv, eqH_f, eqH_t, e_un, e_fa, e_ia, ia_eq, nat_eq, natV_nat, e_len, lnH_some, e_extract, ex_0, ex_1, e_call0, e_call1, e_call2, e_call3, pc0_eq, pc1_some, pc2_some, pc3_some, fin_some, g_var0, g_vars, g_loc0, g_locs, g_int, g_bool, g_str, g_sl, s_none, s_zero, s_succ, cl_nil, cl_str, cl_bool, cl_slc, cl_own, evFa, evNil, asEl, evBin, intBin, strBin, evUn, len_nil, len_slc, len_str, clr, List.length_nil, List.length_cons, List.getElem?_cons_zero, List.getElem?_cons_succ, Nat.reduceAdd, Nat.zero_add, Nat.add_zero, Nat.reduceLeDiff, Nat.reduceSub, ↓reduceIte, List.drop_succ_cons, List.drop_zero, List.take_succ_cons, List.take_zero, Bool.false_eq_true, List.nil_append, List.cons_append, Bool.not_true, Bool.not_false, cond_true, cond_false, bne, lv_ret, lv_normal, res1, res2, lv2_some, res_var, res_cell, lvf_v, lvf_slc, res1c, lvo1_some, e_mm, mm_max, mm_min, cl_agg, cl_int, g_agg, e_callv1, cv1_fn, e_slice2, e_clrrow, e_callf2, pick_und, cells_agg, Option.map_some, Option.map_none, bx_some]
theorem text_ok {t : Tm} {a : AV} (ha : IsT a t) (hr : rgT t) (hsz : size t ≤ 3000) : callW F 21 [a] [] = some (.tup [.v (.string (textT t)), .v (.int .i64 (checkT t))], []) := by
  refine callW_pure (c := c21) rfl rfl 0 ?_
  have hf := ha.facts
  have h1 := check_ok t a ha
  have e1 : evLoad [.box 24 a.cells] true 4 (.ptr 0 0) = some a := hf.2.2.2.1 [] 24
  unfold textT
  cases h2 : (checkT t == 0) with
  | false =>
    have l2 : ∀ h : List AO, lvf h (.tup [.v (.string ⟨#[]⟩), .v (.int .i64 (checkT t))]) = some (.tup [.v (.string ⟨#[]⟩), .v (.int .i64 (checkT t))], []) := fun _ => rfl
    simp only [c21, start, List.replicate, c21_0, c21_1, c21_2, c21_3, hf, e1, h1, h2, l2, run_nil, run_cons, stp_plain, stp_guard, put_some, pass_eq, pick_tt, pick_ff, pick_tf, pick_ft, pick_u, reg_some, thn_normal, thn_exit, thn_ret, cnd_t, cnd_f, blk_normal, blk_ret, blk_exit, x_seq, x_region, x_cond, x_block, x_loop, x_ret, x_exit, x_skip, e_mov, e_pick, pk_t, pk_f, withH_some, e_box, e_load, e_store, stH_some, e_nil, e_bin, e_eqv, eqH_f, eqH_t, e_un, e_fa, e_ia, ia_eq, nat_eq, natV_nat, e_len, lnH_some, e_extract, ex_0, ex_1, e_call0, e_call1, e_call2, e_call3, pc0_eq, pc1_some, pc2_some, pc3_some, fin_some, g_var0, g_vars, g_loc0, g_locs, g_int, g_bool, g_str, g_sl, s_none, s_zero, s_succ, cl_nil, cl_str, cl_bool, cl_slc, cl_own, evFa, evNil, asEl, evBin, intBin, strBin, evUn, len_nil, len_slc, len_str, clr, List.length_nil, List.length_cons, List.getElem?_cons_zero, List.getElem?_cons_succ, Nat.reduceAdd, Nat.zero_add, Nat.add_zero, Nat.reduceLeDiff, Nat.reduceSub, ↓reduceIte, List.drop_succ_cons, List.drop_zero, List.take_succ_cons, List.take_zero, Bool.false_eq_true, List.nil_append, List.cons_append, Bool.not_true, Bool.not_false, cond_true, cond_false, bne, lv_ret, lv_normal, res1, res2, lv2_some, res_var, res_cell, lvf_v, lvf_slc, res1c, lvo1_some, e_mm, mm_max, mm_min, cl_agg, cl_int, g_agg, e_callv1, cv1_fn, e_slice2, e_clrrow, e_callf2, pick_und, cells_agg, Option.map_some, Option.map_none, bx_some]
  | true =>
    have hm := check_may' h2
    have hz : checkT t = 0 := by simpa using h2
    rw [hz] at h1 ⊢
    have hbel : (AO.box 24 a.cells).below 3 = true := by
      have := ha.bel
      exact below_mono (Nat.zero_le _) _ this
    have hB0 : Bd [.box 24 a.cells, .box 61 [.v (.pointer none), .own 1 2 0 0 0], .row 5 1 0 [] 0] 1 2 [] := ⟨_, 0, .inl rfl, ⟨rfl, rfl⟩⟩
    have hb0 : ([.box 24 a.cells, .box 61 [.v (.pointer none), .own 1 2 0 0 0], .row 5 1 0 [] 0] : List AO).all (AO.below 3) = true := by
      simp only [List.all_cons, hbel, Bool.true_and]; rfl
    have hlen := wrT_len t hm hr
    obtain ⟨H1, d1, b1, r1, m1⟩ := write_ok hfmt _ t a _ 1 2 [] (Nat.lt_succ_self _) hm hr ha hB0 hb0 (by simp only [List.length_nil]; omega)
    rw [List.nil_append] at b1
    obtain ⟨H2, d2⟩ := b1.string (wrT_ne t) (by omega)
    generalize (⟨(wrT t).toArray⟩ : ByteArray) = W at d2
    have e2 : ∀ x y : AO, evLoad [.box 24 a.cells, x, y] true 4 (.ptr 0 0) = some a := fun x y => e1
    have bz : bx [.box 24 a.cells] 61 (some [.v (.pointer none), .v (.slice none 0 0)]) = some (.ptr 1 0, [.box 24 a.cells, .box 61 [.v (.pointer none), .v (.slice none 0 0)]]) := rfl
    have ba : bx [] 24 (some a.cells) = some (.ptr 0 0, [.box 24 a.cells]) := rfl
    have oz : (ofVal (.agg #[(.pointer none), (.slice none 0 0)])).cl = some [.v (.pointer none), .v (.slice none 0 0)] := by simp [ofVal, AV.cl, Value.oneCell']
    have mk : ∀ v0 v1 v2 v3 v4 v6 : AV, doMark ([v0, v1, v2, v3, v4, .ptr 1 0, v6], [.box 24 a.cells, .box 61 [.v (.pointer none), .v (.slice none 0 0)]]) (.ap 5 1 5 1) = ([v0, v1, v2, v3, v4, .ptr 1 0, v6], [.box 24 a.cells, .box 61 [.v (.pointer none), .own 1 2 0 0 0], .row 5 1 0 [] 0]) := fun _ _ _ _ _ _ => rfl
    have l2 : ∀ h : List AO, lvf h (.tup [.v (.string W), .v (.int .i64 0)]) = some (.tup [.v (.string W), .v (.int .i64 0)], []) := fun _ => rfl
    have z : ((0 : Int) == 0) = true := rfl
    have hfl := ha.cl.1
    have hsn := hf.2.1
    simp only [c21, start, List.replicate, c21_0, c21_1, c21_2, c21_4, c21_5, c21_6, hfl, hsn, ba, e1, e2, h1, z, oz, bz, x_region_m, List.foldl_cons, List.foldl_nil, mk, marked_eq, d1, d2, e_callh, List.map_cons, List.map_nil, l2, run_nil, run_cons, stp_plain, stp_guard, put_some, pass_eq, pick_tt, pick_ff, pick_tf, pick_ft, pick_u, reg_some, thn_normal, thn_exit, thn_ret, cnd_t, cnd_f, blk_normal, blk_ret, blk_exit, x_seq, x_region, x_cond, x_block, x_loop, x_ret, x_exit, x_skip, e_mov, e_pick, pk_t, pk_f, withH_some, e_box, e_load, e_store, stH_some, e_nil, e_bin, e_eqv, eqH_f, eqH_t, e_un, e_fa, e_ia, ia_eq, nat_eq, natV_nat, e_len, lnH_some, e_extract, ex_0, ex_1, e_call0, e_call1, e_call2, e_call3, pc0_eq, pc1_some, pc2_some, pc3_some, fin_some, g_var0, g_vars, g_loc0, g_locs, g_int, g_bool, g_str, g_sl, s_none, s_zero, s_succ, cl_nil, cl_str, cl_bool, cl_slc, cl_own, evFa, evNil, asEl, evBin, intBin, strBin, evUn, len_nil, len_slc, len_str, clr, List.length_nil, List.length_cons, List.getElem?_cons_zero, List.getElem?_cons_succ, Nat.reduceAdd, Nat.zero_add, Nat.add_zero, Nat.reduceLeDiff, Nat.reduceSub, ↓reduceIte, List.drop_succ_cons, List.drop_zero, List.take_succ_cons, List.take_zero, Bool.false_eq_true, List.nil_append, List.cons_append, Bool.not_true, Bool.not_false, cond_true, cond_false, bne, lv_ret, lv_normal, res1, res2, lv2_some, res_var, res_cell, lvf_v, lvf_slc, res1c, lvo1_some, e_mm, mm_max, mm_min, cl_agg, cl_int, g_agg, e_callv1, cv1_fn, e_slice2, e_clrrow, e_callf2, pick_und, cells_agg, Option.map_some, Option.map_none]
theorem str_self (s : ByteArray) : (s.toList == s.toList) = true := beq_self_eq_true _
theorem texts_ok {a : AV} {t : Tm} (ha : IsT a t) (hr : rgT t) : callW F 11 [a] [] = some (.v (.bool true), []) := by
  refine callW_pure (c := c11) rfl rfl 0 ?_
  have hlive := live_ok
  have hfa := ha.facts
  have hbig := big_ok (isL1 ha)
  have bxa : bx [] 24 (some a.cells) = some (.ptr 0 0, [.box 24 a.cells]) := rfl
  have e1 : evLoad [.box 24 a.cells] true 4 (.ptr 0 0) = some a := hfa.2.2.2.1 [] 24
  have b1 : ∀ h : List AO, bs1 h 4 (some a) = some (.slc 4 true true [a], h) := fun h => bs1_some ha.cl.1 ha.cl.2
  have sl : ∀ h : List AO, (AV.slc 4 true true [a]).snap1 h = some (.slc 4 true true [a]) := fun _ => rfl
  cases hB : bigT [t] with
  | true => rw [hB] at hbig; simp only [c11, start, List.replicate, c11_0, c11_1, c11_2, c11_3, hlive, hfa, bxa, e1, b1, sl, hbig, e_bslice1, run_nil, run_cons, stp_plain, stp_guard, put_some, pass_eq, pick_tt, pick_ff, pick_tf, pick_ft, pick_u, reg_some, thn_normal, thn_exit, thn_ret, cnd_t, cnd_f, blk_normal, blk_ret, blk_exit, x_seq, x_region, x_cond, x_block, x_loop, x_ret, x_exit, x_skip, e_mov, e_pick, pk_t, pk_f, withH_some, e_box, e_load, e_store, stH_some, e_nil, e_bin, e_eqv, eqH_f, eqH_t, e_un, e_fa, e_ia, ia_eq, nat_eq, natV_nat, e_len, lnH_some, e_extract, ex_0, ex_1, e_call0, e_call1, e_call2, e_call3, pc0_eq, pc1_some, pc2_some, pc3_some, fin_some, g_var0, g_vars, g_loc0, g_locs, g_int, g_bool, g_str, g_sl, s_none, s_zero, s_succ, cl_nil, cl_str, cl_bool, cl_slc, cl_own, evFa, evNil, asEl, evBin, intBin, strBin, evUn, len_nil, len_slc, len_str, clr, List.length_nil, List.length_cons, List.getElem?_cons_zero, List.getElem?_cons_succ, Nat.reduceAdd, Nat.zero_add, Nat.add_zero, Nat.reduceLeDiff, Nat.reduceSub, ↓reduceIte, List.drop_succ_cons, List.drop_zero, List.take_succ_cons, List.take_zero, Bool.false_eq_true, List.nil_append, List.cons_append, Bool.not_true, Bool.not_false, cond_true, cond_false, bne, lv_ret, lv_normal, res1, res2, lv2_some, res_var, res_cell, lvf_v, lvf_slc, res1c, lvo1_some, e_mm, mm_max, mm_min, cl_agg, cl_int, g_agg, e_callv1, cv1_fn, e_slice2, e_clrrow, e_callf2, pick_und, cells_agg, Option.map_some, Option.map_none]
  | false =>
  rw [hB] at hbig
  have hsz := big_size hB t (by simp)
  have t1 := text_ok ha hr hsz
  have t2 := rtext_ok ha hr hsz
  generalize textT t = W at t1 t2
  generalize checkT t = e at t1 t2
  have z : (e == e) = true := beq_self_eq_true e
  have zs : (W.toList == W.toList) = true := beq_self_eq_true _
  simp only [c11, start, List.replicate, c11_0, c11_1, c11_2, c11_4, c11_5, c11_6, hlive, hfa, bxa, e1, b1, sl, hbig, e_bslice1, t1, t2, z, zs, run_nil, run_cons, stp_plain, stp_guard, put_some, pass_eq, pick_tt, pick_ff, pick_tf, pick_ft, pick_u, reg_some, thn_normal, thn_exit, thn_ret, cnd_t, cnd_f, blk_normal, blk_ret, blk_exit, x_seq, x_region, x_cond, x_block, x_loop, x_ret, x_exit, x_skip, e_mov, e_pick, pk_t, pk_f, withH_some, e_box, e_load, e_store, stH_some, e_nil, e_bin, e_eqv, eqH_f, eqH_t, e_un, e_fa, e_ia, ia_eq, nat_eq, natV_nat, e_len, lnH_some, e_extract, ex_0, ex_1, e_call0, e_call1, e_call2, e_call3, pc0_eq, pc1_some, pc2_some, pc3_some, fin_some, g_var0, g_vars, g_loc0, g_locs, g_int, g_bool, g_str, g_sl, s_none, s_zero, s_succ, cl_nil, cl_str, cl_bool, cl_slc, cl_own, evFa, evNil, asEl, evBin, intBin, strBin, evUn, len_nil, len_slc, len_str, clr, List.length_nil, List.length_cons, List.getElem?_cons_zero, List.getElem?_cons_succ, Nat.reduceAdd, Nat.zero_add, Nat.add_zero, Nat.reduceLeDiff, Nat.reduceSub, ↓reduceIte, List.drop_succ_cons, List.drop_zero, List.take_succ_cons, List.take_zero, Bool.false_eq_true, List.nil_append, List.cons_append, Bool.not_true, Bool.not_false, cond_true, cond_false, bne, lv_ret, lv_normal, res1, res2, lv2_some, res_var, res_cell, lvf_v, lvf_slc, res1c, lvo1_some, e_mm, mm_max, mm_min, cl_agg, cl_int, g_agg, e_callv1, cv1_fn, e_slice2, e_clrrow, e_callf2, pick_und, cells_agg, Option.map_some, Option.map_none]
end Go.AE.YtgcbaefclkfnoaaDoor
end

/-! What all rows of this program need. -/
section
set_option linter.unusedVariables false
namespace Go.Proofs.YtgcbaefclkfnoaaDoor
open Go Go.AE Go.Proofs Go.ChangeShapes Go.WideShapes Go.ChangeAt Go.RowKit
open Go.ChangeMaps (open_string shut_string)

theorem own : ownKnob Tryd.prog.godebug = none := by kernel_rfl
theorem laidOut : laidOutB Tryd.prog = true := by kernel_rfl
theorem mixed : Tryd.prog.follows .mixedOrders = true := by kernel_rfl
def G : List TypeId := [2, 3, 9, 22, 24]
theorem hG : goodB T G = true := by kernel_rfl

/-- What a call comes to that is handed what came in. -/
theorem law_calls {f : FuncId} {args : List AV} {vals : Array Value} {W : World} (hK : K W.heap.size W) (ha : ArgsRep (AllCells W) W [] args vals) {n : Nat} (he : callN F n f args [] = some (.v (.bool true), [])) :
    Calls Tryd.prog f vals W fun e W' => e = .returned (.bool true) ∧ Below W.heap.size W W' := by
  have hI : AE.Inv W.heap.size W (AllCells W) [] W [] := ⟨Below.refl _ _, Nat.le_refl _, rfl, fun id o L h => by simp at h, fun id L h => by simp at h, fun i j Li Lj h => by simp at h, fun b x h => h⟩
  refine ((callN_ok mixed hT hKs hF n W.heap.size W hK).calls f args [] _ _ he (AllCells W) [] W vals hI ha).mono fun e W' h => ?_
  obtain ⟨v, I', σ', rfl, hI', _, hr⟩ := h
  cases hr
  exact ⟨rfl, hI'.below⟩
end Go.Proofs.YtgcbaefclkfnoaaDoor
end

/-! What all rows of this seat need: the world in which the library's two tables lie. -/
section
set_option linter.unusedVariables false
namespace Go.Proofs.YtgcbaefclkfnoaaDoor
open Go Go.AE Go.Proofs Go.RowKit Go.Lib Go.Shelf

def d32 : List Value := [0, 1, 28, 2, 29, 14, 24, 3, 30, 22, 20, 15, 25, 17, 4, 8, 31, 27, 13, 23, 21, 19, 16, 7, 26, 12, 18, 6, 11, 5, 10, 9].map fun z : Int => Value.int .u8 z
def d64 : List Value := [0, 1, 56, 2, 57, 49, 28, 3, 61, 58, 42, 50, 38, 29, 17, 4, 62, 47, 59, 36, 45, 43, 51, 22, 53, 39, 33, 30, 24, 18, 12, 5, 63, 55, 48, 27, 60, 41, 37, 16, 46, 35, 44, 21, 52, 32, 23, 11, 54, 26, 40, 15, 34, 20, 31, 10, 25, 14, 19, 9, 13, 8, 7, 6].map fun z : Int => Value.int .u8 z
def p10 : List Value := [1, 10, 100, 1000, 10000, 100000, 1000000, 10000000, 100000000, 1000000000, 10000000000, 100000000000, 1000000000000, 10000000000000, 100000000000000, 1000000000000000, 10000000000000000, 100000000000000000, 1000000000000000000, 10000000000000000000].map fun z : Int => Value.int .u64 z
/-- a world in which the variables hold what their initialisers lay -/
noncomputable def laidWorld (os : Os) : World :=
  let w0 := World.holding Tryd.prog os ⟨#[], #[], []⟩
  let put (h : Array Obj) (g : Nat) (cs : Array Value) : Array Obj := h.modify g fun
    | .cells _ t frozen => .cells cs t frozen
    | o => o
  let h1 := put w0.heap (Tryd.lays196_ren.g 3) (Lib.firstTab.map fun z => Value.int .u8 z).toArray
  let h2 := put h1 (Tryd.lays196_ren.g 4) ((List.range 16).flatMap fun i => [Value.int .u8 (Lib.accLo i), Value.int .u8 (Lib.accHi i)]).toArray
  let h3 := put h2 4 d32.toArray
  let h4 := put h3 5 d64.toArray
  let h5 := put h4 3 p10.toArray
  { w0 with heap := h5 }
set_option maxRecDepth 1000000 in
theorem laid_met (os : Os) (args : Array Value) : laidMetH Tryd.prog Rows.termSizesRow.laid ((laidWorld os).forCall (fun _ _ => 0) ⟨#[], args, []⟩).memory :=
  (LaidIn.of_run (l := [("math/bits.deBruijn32tab", Rows.laid_math_bits_deBruijn32tab), ("math/bits.deBruijn64tab", Rows.laid_math_bits_deBruijn64tab), ("internal/strconv.uint64pow10", Rows.laid_internal_strconv_uint64pow10), ("unicode/utf8.acceptRanges", Rows.laid_unicode_utf8_acceptRanges), ("unicode/utf8.first", Rows.laid_unicode_utf8_first)]) [0, 1, 2, 3, 4, 5] 8 (by kernel_rfl) (by kernel_rfl) (by kernel_rfl) (by kernel_rfl)).met
def z64 : List Int := [0, 1, 56, 2, 57, 49, 28, 3, 61, 58, 42, 50, 38, 29, 17, 4, 62, 47, 59, 36, 45, 43, 51, 22, 53, 39, 33, 30, 24, 18, 12, 5, 63, 55, 48, 27, 60, 41, 37, 16, 46, 35, 44, 21, 52, 32, 23, 11, 54, 26, 40, 15, 34, 20, 31, 10, 25, 14, 19, 9, 13, 8, 7, 6]
theorem tz_of {W : World} (hL : laidMetH Tryd.prog Rows.termSizesRow.laid W) : W.cell? ⟨5, 15, none⟩ = some (.int .u8 4) ∧ 5 < W.heap.size := by
  obtain ⟨g, t, cs, fuel, p, hg, hty, hvar, hd⟩ := (Lib.laidMet.reads (l := Rows.termSizesRow.laid) hL (.tail _ (.head _)) : Lib.VarReads Tryd.prog W "math/bits.deBruijn64tab" Rows.laid_math_bits_deBruijn64tab)
  obtain rfl : g = 5 := Option.some.inj (hg.symm.trans (by kernel_rfl))
  obtain rfl : t = 122 := Option.some.inj (hty.symm.trans (by kernel_rfl))
  have hcs := Lib.cells_of_tab (zs := z64) Tryd.underlying122 Tryd.underlying5 (by kernel_rfl) (by kernel_rfl) hd
  have h1 := World.var?_cell hg hvar 15
  rw [← Array.getElem?_toList, hcs] at h1
  have h1 : W.cell? ⟨5, 15, none⟩ = some (.int .u8 4) := h1
  refine ⟨h1, ?_⟩
  unfold World.cell? at h1
  split at h1
  all_goals first
    | exact (Array.getElem?_eq_some_iff.1 ‹_›).1
    | cases h1
set_option maxRecDepth 1000000 in
theorem tabs_of {W : World} (hL : laidMetH Tryd.prog Rows.termSizesRow.laid W) : Lib.Utf8Tabs (Tryd.lays196_ren.g 3) (Tryd.lays196_ren.g 4) W ∧ (W.cell? ⟨5, 15, none⟩ = some (.int .u8 4) ∧ 5 < W.heap.size) :=
  ⟨utf8Tabs_of_readsT (U8Types.of196 Tryd.lays196) ⟨by kernel_rfl, by kernel_rfl, by kernel_rfl, by kernel_rfl, by kernel_rfl, by kernel_rfl, by kernel_rfl⟩ (Lib.laidMet.reads (l := Rows.termSizesRow.laid) hL (.tail _ (.tail _ (.tail _ (.tail _ (.head _)))))) (Lib.laidMet.reads (l := Rows.termSizesRow.laid) hL (.tail _ (.tail _ (.tail _ (.head _))))), tz_of hL⟩
end Go.Proofs.YtgcbaefclkfnoaaDoor
end

/-! The row and the card of TermTexts, out of its plain law. -/
section
set_option linter.unusedVariables false
namespace Go.Proofs.YtgcbaefclkfnoaaDoor
open Go Go.AE Go.Proofs Go.ChangeShapes Go.WideShapes Go.ChangeAt Go.RowKit
open Go.ChangeMaps (open_string shut_string)
namespace termTexts
theorem args {I : Cells} {W : World} {a0 : AV} {v0 : Value} (r0 : Rep I W [] a0 v0) : ArgsRep I W [] [a0] #[v0] := by
  refine ⟨rfl, fun i a h => ?_⟩
  match i, h with
  | 0, h => cases h; exact r0
def Plain : Prop := ∀ a0 : AV, WT T 24 a0.cells → asEl ti24.agg a0.cells = some a0 →
  ∃ n, callN F n 11 [a0] [] = some (.v (.bool true), [])

set_option maxRecDepth 100000 in
theorem lifted (plain : Plain) (os : Os) (started : os.Started) (H : Type) (enc : TypeId × Value → H) :
    ReturnsInHanded {} Tryd.checked os 11 .any (fun w args => (Rows.termTextsSpec.pre enc Tryd.prog Tryd.f11 [] false w args ∧ laidMetH Tryd.prog Rows.termTextsRow.laid w) ∧ sizedMet enc Tryd.prog Tryd.f11 (OpenSpec.ofChange Rows.termTextsSpec) false w args)
      (Rows.termTextsSpec.post enc Tryd.prog Tryd.f11 false true false false) := by
  refine returnsInHanded_of_change_and (C := Tryd.checked) (X := fun w _ => laidMetH Tryd.prog Rows.termTextsRow.laid w) (fun _ _ _ hh h => h.of_heap hh) own started (by kernel_rfl) Tryd.func11
    (ChangeSpec.witness_at (enc := enc) (C := Tryd.checked) (os := os) (X := fun w _ => laidMetH Tryd.prog Rows.termTextsRow.laid w) false (laidWorld os) #[ti24.zero] 8 rfl (by kernel_rfl) (by kernel_rfl) (by kernel_rfl) (by kernel_rfl) (by kernel_rfl) (laid_met os _)) ?_
  intro W base args' ds gs before hval0 hW _ _ hL _
  have hval : ∀ (j : Nat) t v, Tryd.f11.params[j]? = some t → args'[j]? = some v → Value.okWide Tryd.prog W .any base t v := hval0
  have hW' := hW
  obtain ⟨p, q, hA0, hV, rfl, hfz, hnd⟩ := hW
  have hA : DataW.TrodAll enc Tryd.prog W 0 (fun _ => true) true Tryd.f11.params.toList args'.toList ds p := hA0
  rw [Tryd.params11] at hA hval
  obtain ⟨v0, vs0, d0, ds0, p0, q0, hargs, rfl, rfl, h0, r0⟩ := trodAll_cons hA
  obtain ⟨rfl, rfl, rfl⟩ := trodAll_nil r0
  obtain rfl : args' = #[v0] := by cases args'; simp_all
  obtain ⟨rfl, rfl⟩ := trodVars_none hV
  obtain ⟨a0, w0, e0, x0⟩ := trod_arg hT hG (t := 24) (i := ti24) (by decide) rfl (hval 0 24 v0 rfl rfl) h0
  have l0 : ∀ x ∈ p0, x.block < W.heap.size := by obtain ⟨m, hm⟩ := h0; exact DataW.trod_lt m _ _ _ hm
  obtain ⟨n, hn⟩ := plain a0 w0 e0
  refine (law_calls ⟨rfl, tabs_of hL⟩ (args x0) hn).mono fun e W' ⟨he, bel⟩ => ?_
  subst he
  exact ⟨_, rfl, _, _, _, [], _, [], hW', trodAll_mk1 (shut_bool Tryd.underlying4 _),
    (trodAll_cons_mk (Below.trod laidOut (by kernel_rfl) (of_decide_eq_true (by kernel_rfl)) h0 bel l0) trodAll_mk0), rfl, bel.frame _, fun h => by cases h⟩
theorem over (plain : Plain) : Rows.termTextsRow.holds Tryd.pinned (OpenSpec.ofChange Rows.termTextsSpec) :=
  OpenClaim.holds_of_wide 11 Tryd.f11 rfl rfl rfl rfl rfl rfl rfl ⟨rfl, rfl, rfl, rfl, rfl⟩ rfl rfl rfl rfl rfl (by kernel_rfl) Tryd.func11 (by kernel_rfl)
    (of_decide_eq_true (by kernel_rfl)) (by unfold Func.isWrapper; first | (rw [if_pos (by decide +kernel)]; kernel_rfl) | (rw [if_neg (by decide +kernel)]; exact ⟨rfl, rfl⟩))
    (fun os started H enc _ => lifted plain os started H enc)
theorem proved (plain : Plain) : Rows.TermTextsCardSaid :=
  Claim7.holds_tied_plain_at .later [] Rows.termTextsCard.laidKinds true Rows.termTextsCard.stood.harness Rows.termTextsCard.stood.looks
    (over plain) (fun _ h => by cases h) (by kernel_rfl) (fun _ h => by cases h) termTexts_row_tie rfl ⟨rfl, rfl⟩ (by kernel_rfl) rfl
    (fun f fn hf hfn => by
      obtain rfl : f = 11 := Option.some.inj ((show Tryd.prog.funcNamed Rows.termTextsRow.func = some 11 by kernel_rfl).symm.trans hf) |>.symm
      obtain rfl : fn = Tryd.f11 := (Option.some.inj (Tryd.func11.symm.trans hfn)).symm
      refine ⟨by kernel_rfl, fun j t ht => ?_⟩
      rw [Tryd.params11] at ht
      match j, ht with
      | 0, ht => cases ht; exact (show Tryd.prog.wantsStandIn 24 = false by kernel_rfl)
      | _ + 1, ht => simp at ht)
    (by kernel_rfl)
end termTexts
end Go.Proofs.YtgcbaefclkfnoaaDoor
end
