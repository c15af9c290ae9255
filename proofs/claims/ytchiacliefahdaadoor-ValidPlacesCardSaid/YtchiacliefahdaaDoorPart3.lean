/- Texts of this claim, put together. -/
import Derived.Test.YtchiacliefahdaaDoorPart2
import Derived.Test.YtchiacliefahdaaDoorEval3
import Derived.Test.YtchiacliefahdaaDoorPart1
import Derived.Test.YtchiacliefahdaaDoorRows
import Derived.WalkKit
import Derived.ProofKit
import Derived.OpenShut
import Derived.ShutString
import Derived.ChangeOld
import Derived.Below
import Derived.SizedLaws
import Derived.Test.YtchiacliefahdaaDoorTie
import Derived.Test.YtchiacliefahdaaDoorCards
import Derived.Lib.LaidIn
import Derived.Lib.LaidU8T
import Derived.Handed
import Derived.SevenTiedAt
/-! ValidPlaces in plain Lean. -/
section
set_option linter.unusedVariables false
set_option linter.unusedSimpArgs false
namespace Go.AE.YtchiacliefahdaaDoor
open Go Go.AE Go.Proofs.YtchiacliefahdaaDoor

def K6 : List Bool := [false, true, false, true, false, false, false, false, false, false, false, true, true, true, false, false, false, false, false]
def V6 (c : AV) (len i : Int) : List AV := [.junk, .ptr 0 0, .junk, .v (.bool true), .junk, .junk, .junk, .junk, .junk, .junk, .junk, c, .v (.int .i64 len), .v (.int .i64 i), .junk, .junk, .junk, .junk, .junk]
theorem places_loop {K : Nat} {nm : ByteArray} {ar vs : Int} {c3 : AV} {l : List In} {es : List AV} (hs : Sl 5 c3 es) (hes : AllR IsIn es l) (hm : l.length ≤ 2000) (hK : l.length < K) (hgood : ∀ i x, l[i]? = some x → goodI vs l.length i x) (h : List AO) (hb : h[0]? = some (.box [.v (.string nm), .v (.int .i64 ar), .v (.int .i64 vs), c3])) (v : List AV) (hv : clr K6 v = V6 c3 l.length 0) :
    ∃ x14 x6 x7 x15 x16 x17 x18 h', loopN (exec (callW F) K c6_26) K6 K v h = some (.exit 0, [.junk, .ptr 0 0, .junk, .v (.bool true), .junk, .junk, x6, x7, .junk, .junk, .junk, c3, .v (.int .i64 l.length), .v (.int .i64 l.length), x14, x15, x16, x17, x18], h') := by
  obtain ⟨e, v', h', g1, g2, g3⟩ := loop_rule0 (call := callW F) (K := K) (b := c6_26) (keep := K6) (fun i v h' => v = V6 c3 l.length i ∧ h'[0]? = some (.box [.v (.string nm), .v (.int .i64 ar), .v (.int .i64 vs), c3]))
    (fun e v h' => e = .exit 0 ∧ ∃ x14 x6 x7 x15 x16 x17 x18, v = [.junk, .ptr 0 0, .junk, .v (.bool true), .junk, .junk, x6, x7, .junk, .junk, .junk, c3, .v (.int .i64 l.length), .v (.int .i64 l.length), x14, x15, x16, x17, x18]) l.length (m := K) (v := v) (h := h) hK ⟨hv, hb⟩ (by
      rintro i v h' hi ⟨rfl, hb0⟩
      by_cases hil : i < l.length
      · have hlt := lt_t hil
        have hw := wrap_succ hil (by have : maxLen = 9223372036854775807 := rfl; omega)
        have hl1 : IntKind.i64.wrap ((l.length : Int) - 1) = (l.length : Int) - 1 := wrap_i64 (by omega) (by omega)
        obtain ⟨x, hx⟩ : ∃ x, l[i]? = some x := ⟨_, List.getElem?_eq_getElem hil⟩
        obtain ⟨e, he, hin⟩ := hes.get' hx
        have hei := hin.eq
        subst hei
        obtain ⟨hge, hgn⟩ := hgood i x hx
        have q1 := fun h : List AO => hs.ia he h
        have q3 : ∀ h : List AO, evLoad h true 5 (.ip (inV x).cells) = some (inV x) := fun _ => rfl
        have z : (ofVal (.agg #[(.int .i64 0), (.int .i64 0), (.int .i64 0), (.string ⟨#[]⟩), (.int .i64 0)])).cl = some [.v (.int .i64 0), .v (.int .i64 0), .v (.int .i64 0), .v (.string ⟨#[]⟩), .v (.int .i64 0)] := by kernel_rfl
        have st : evStore (h' ++ [.box [.v (.int .i64 0), .v (.int .i64 0), .v (.int .i64 0), .v (.string ⟨#[]⟩), .v (.int .i64 0)]]) 5 (.ptr h'.length 0) (inV x) = some (h' ++ [.box (inC x)]) := st_new (show (inV x).cl = some (inC x) from rfl) (show (inC x).length = 5 from rfl) rfl
        have lo : evLoad (h' ++ [.box (inC x)]) false 1 (.ptr h'.length 0) = some (.v (.int .i64 x.op)) := by rw [ld_new]; rfl
        have lb : evLoad (h' ++ [.box (inC x)]) false 1 (.ptr h'.length 2) = some (.v (.int .i64 x.b)) := by rw [ld_new]; rfl
        have hb1 : (h' ++ [AO.box (inC x)])[0]? = some (.box [.v (.string nm), .v (.int .i64 ar), .v (.int .i64 vs), c3]) := his_get hb0
        have lc3 : evLoad (h' ++ [.box (inC x)]) false 1 (.ptr 0 3) = some c3 := by simp only [evLoad, hb1]; rfl
        have lc2 : evLoad (h' ++ [.box (inC x)]) false 1 (.ptr 0 2) = some (.v (.int .i64 vs)) := by simp only [evLoad, hb1]; rfl
        have nl : ∀ h : List AO, evLen h .slice c3 = some l.length := fun h => by rw [hs.len h, hes.length]
        have eb : ∀ (h : List AO) (a b : Bool), eqNil h .bool (.v (.bool a)) (.v (.bool b)) = some (a == b) := fun _ _ _ => rfl
        have hend : ((i : Int) == (l.length : Int) - 1) = (x.op == 23) := by
          rw [hge]
          by_cases e : i + 1 = l.length
          · have e1 : (i : Int) = (l.length : Int) - 1 := by omega
            have a1 : ((i : Int) == (l.length : Int) - 1) = true := beq_iff_eq.2 e1
            have a2 : (i + 1 == l.length) = true := beq_iff_eq.2 e
            rw [a1, a2]
          · have e1 : ¬ (i : Int) = (l.length : Int) - 1 := by omega
            have a1 : ((i : Int) == (l.length : Int) - 1) = false := beq_eq_false_iff_ne.2 e1
            have a2 : (i + 1 == l.length) = false := beq_eq_false_iff_ne.2 e
            rw [a1, a2]
        have e1 : ∀ a : Bool, (a == a) = true := fun a => by simp
        cases n0 : (x.op == 1) with
        | true =>
          have hnm : namesVar x.op = true := by simp [namesVar, n0]
          obtain ⟨bb1, bb2⟩ := hgn hnm
          have vb1 : decide (x.b < 0) = false := by simpa using bb1
          have vb2 : decide (x.b ≥ vs) = false := by simpa using bb2
          refine ⟨.normal, [.junk, .ptr 0 0, .junk, .v (.bool true), .junk, .junk, .v (.int .i64 i), .ptr h'.length 0, .junk, .junk, .junk, c3, .v (.int .i64 l.length), .v (.int .i64 ((i + 1 : Nat) : Int)), .v (.bool true), .v (.bool false), .v (.int .i64 x.op), .v (.bool true), .v (.bool false)], h' ++ [.box (inC x)], ?_, hil, rfl, his_get hb0⟩
          simp only [V6, c6_26, c6_10, c6_11, c6_12, c6_14, c6_15, c6_16, c6_17, c6_18, c6_19, c6_20, c6_21, c6_22, c6_23, c6_25, hlt, hw, hl1, q1, q3, z, st, lo, lb, lc3, lc2, nl, hend, eb, e1, vb1, vb2, pick_und, n0, run_nil, run_cons, stp_plain, stp_guard, put_some, pass_eq, pick_tt, pick_ff, pick_tf, pick_ft, pick_u, reg_some, thn_normal, thn_exit, thn_ret, cnd_t, cnd_f, blk_normal, blk_ret, blk_exit, x_seq, x_region, x_cond, x_block, x_loop, x_ret, x_exit, x_skip, e_mov, e_pick, pk_t, pk_f, withH_some, e_box, e_load, e_store, stH_some, e_nil, e_bin, e_eqv, eqH_f, eqH_t, e_un, e_fa, e_ia, ia_eq, nat_eq, natV_nat, e_len, lnH_some, e_extract, ex_0, ex_1, e_call0, e_call1, e_call2, e_call3, pc0_eq, pc1_some, pc2_some, pc3_some, fin_some, g_var0, g_vars, g_loc0, g_locs, g_int, g_bool, g_str, g_sl, s_none, s_zero, s_succ, cl_nil, cl_str, cl_bool, cl_slc, cl_own, evFa, evNil, asEl, evBin, intBin, strBin, evUn, len_nil, len_slc, len_str, clr, List.length_nil, List.length_cons, List.getElem?_cons_zero, List.getElem?_cons_succ, Nat.reduceAdd, Nat.zero_add, Nat.add_zero, Nat.reduceLeDiff, Nat.reduceSub, ↓reduceIte, List.drop_succ_cons, List.drop_zero, List.take_succ_cons, List.take_zero, Bool.false_eq_true, List.nil_append, List.cons_append, Bool.not_true, Bool.not_false, cond_true, cond_false, bne, lv_ret, lv_normal, res1, res2, lv2_some, res_var, res_cell, lvf_v, lvf_slc, res1c, lvo1_some, e_mm, mm_max, mm_min, cl_agg, cl_int, g_agg, e_callv1, cv1_fn, e_slice2, e_clrrow, e_callf2, pick_und, cells_agg, Option.map_some, Option.map_none, bx_some]
        | false =>
          cases n1 : (x.op == 2) with
          | true =>
            have hnm : namesVar x.op = true := by simp [namesVar, n0, n1]
            obtain ⟨bb1, bb2⟩ := hgn hnm
            have vb1 : decide (x.b < 0) = false := by simpa using bb1
            have vb2 : decide (x.b ≥ vs) = false := by simpa using bb2
            refine ⟨.normal, [.junk, .ptr 0 0, .junk, .v (.bool true), .junk, .junk, .v (.int .i64 i), .ptr h'.length 0, .junk, .junk, .junk, c3, .v (.int .i64 l.length), .v (.int .i64 ((i + 1 : Nat) : Int)), .v (.bool true), .v (.bool false), .v (.int .i64 x.op), .v (.bool true), .v (.bool false)], h' ++ [.box (inC x)], ?_, hil, rfl, his_get hb0⟩
            simp only [V6, c6_26, c6_10, c6_11, c6_12, c6_14, c6_15, c6_16, c6_17, c6_18, c6_19, c6_20, c6_21, c6_22, c6_23, c6_25, hlt, hw, hl1, q1, q3, z, st, lo, lb, lc3, lc2, nl, hend, eb, e1, vb1, vb2, pick_und, n0, n1, run_nil, run_cons, stp_plain, stp_guard, put_some, pass_eq, pick_tt, pick_ff, pick_tf, pick_ft, pick_u, reg_some, thn_normal, thn_exit, thn_ret, cnd_t, cnd_f, blk_normal, blk_ret, blk_exit, x_seq, x_region, x_cond, x_block, x_loop, x_ret, x_exit, x_skip, e_mov, e_pick, pk_t, pk_f, withH_some, e_box, e_load, e_store, stH_some, e_nil, e_bin, e_eqv, eqH_f, eqH_t, e_un, e_fa, e_ia, ia_eq, nat_eq, natV_nat, e_len, lnH_some, e_extract, ex_0, ex_1, e_call0, e_call1, e_call2, e_call3, pc0_eq, pc1_some, pc2_some, pc3_some, fin_some, g_var0, g_vars, g_loc0, g_locs, g_int, g_bool, g_str, g_sl, s_none, s_zero, s_succ, cl_nil, cl_str, cl_bool, cl_slc, cl_own, evFa, evNil, asEl, evBin, intBin, strBin, evUn, len_nil, len_slc, len_str, clr, List.length_nil, List.length_cons, List.getElem?_cons_zero, List.getElem?_cons_succ, Nat.reduceAdd, Nat.zero_add, Nat.add_zero, Nat.reduceLeDiff, Nat.reduceSub, ↓reduceIte, List.drop_succ_cons, List.drop_zero, List.take_succ_cons, List.take_zero, Bool.false_eq_true, List.nil_append, List.cons_append, Bool.not_true, Bool.not_false, cond_true, cond_false, bne, lv_ret, lv_normal, res1, res2, lv2_some, res_var, res_cell, lvf_v, lvf_slc, res1c, lvo1_some, e_mm, mm_max, mm_min, cl_agg, cl_int, g_agg, e_callv1, cv1_fn, e_slice2, e_clrrow, e_callf2, pick_und, cells_agg, Option.map_some, Option.map_none, bx_some]
          | false =>
            cases n2 : (x.op == 6) with
            | true =>
              have hnm : namesVar x.op = true := by simp [namesVar, n0, n1, n2]
              obtain ⟨bb1, bb2⟩ := hgn hnm
              have vb1 : decide (x.b < 0) = false := by simpa using bb1
              have vb2 : decide (x.b ≥ vs) = false := by simpa using bb2
              refine ⟨.normal, [.junk, .ptr 0 0, .junk, .v (.bool true), .junk, .junk, .v (.int .i64 i), .ptr h'.length 0, .junk, .junk, .junk, c3, .v (.int .i64 l.length), .v (.int .i64 ((i + 1 : Nat) : Int)), .v (.bool true), .v (.bool false), .v (.int .i64 x.op), .v (.bool true), .v (.bool false)], h' ++ [.box (inC x)], ?_, hil, rfl, his_get hb0⟩
              simp only [V6, c6_26, c6_10, c6_11, c6_12, c6_14, c6_15, c6_16, c6_17, c6_18, c6_19, c6_20, c6_21, c6_22, c6_23, c6_25, hlt, hw, hl1, q1, q3, z, st, lo, lb, lc3, lc2, nl, hend, eb, e1, vb1, vb2, pick_und, n0, n1, n2, run_nil, run_cons, stp_plain, stp_guard, put_some, pass_eq, pick_tt, pick_ff, pick_tf, pick_ft, pick_u, reg_some, thn_normal, thn_exit, thn_ret, cnd_t, cnd_f, blk_normal, blk_ret, blk_exit, x_seq, x_region, x_cond, x_block, x_loop, x_ret, x_exit, x_skip, e_mov, e_pick, pk_t, pk_f, withH_some, e_box, e_load, e_store, stH_some, e_nil, e_bin, e_eqv, eqH_f, eqH_t, e_un, e_fa, e_ia, ia_eq, nat_eq, natV_nat, e_len, lnH_some, e_extract, ex_0, ex_1, e_call0, e_call1, e_call2, e_call3, pc0_eq, pc1_some, pc2_some, pc3_some, fin_some, g_var0, g_vars, g_loc0, g_locs, g_int, g_bool, g_str, g_sl, s_none, s_zero, s_succ, cl_nil, cl_str, cl_bool, cl_slc, cl_own, evFa, evNil, asEl, evBin, intBin, strBin, evUn, len_nil, len_slc, len_str, clr, List.length_nil, List.length_cons, List.getElem?_cons_zero, List.getElem?_cons_succ, Nat.reduceAdd, Nat.zero_add, Nat.add_zero, Nat.reduceLeDiff, Nat.reduceSub, ↓reduceIte, List.drop_succ_cons, List.drop_zero, List.take_succ_cons, List.take_zero, Bool.false_eq_true, List.nil_append, List.cons_append, Bool.not_true, Bool.not_false, cond_true, cond_false, bne, lv_ret, lv_normal, res1, res2, lv2_some, res_var, res_cell, lvf_v, lvf_slc, res1c, lvo1_some, e_mm, mm_max, mm_min, cl_agg, cl_int, g_agg, e_callv1, cv1_fn, e_slice2, e_clrrow, e_callf2, pick_und, cells_agg, Option.map_some, Option.map_none, bx_some]
            | false =>
              cases n3 : (x.op == 7) with
              | true =>
                have hnm : namesVar x.op = true := by simp [namesVar, n0, n1, n2, n3]
                obtain ⟨bb1, bb2⟩ := hgn hnm
                have vb1 : decide (x.b < 0) = false := by simpa using bb1
                have vb2 : decide (x.b ≥ vs) = false := by simpa using bb2
                refine ⟨.normal, [.junk, .ptr 0 0, .junk, .v (.bool true), .junk, .junk, .v (.int .i64 i), .ptr h'.length 0, .junk, .junk, .junk, c3, .v (.int .i64 l.length), .v (.int .i64 ((i + 1 : Nat) : Int)), .v (.bool true), .v (.bool false), .v (.int .i64 x.op), .v (.bool true), .v (.bool false)], h' ++ [.box (inC x)], ?_, hil, rfl, his_get hb0⟩
                simp only [V6, c6_26, c6_10, c6_11, c6_12, c6_14, c6_15, c6_16, c6_17, c6_18, c6_19, c6_20, c6_21, c6_22, c6_23, c6_25, hlt, hw, hl1, q1, q3, z, st, lo, lb, lc3, lc2, nl, hend, eb, e1, vb1, vb2, pick_und, n0, n1, n2, n3, run_nil, run_cons, stp_plain, stp_guard, put_some, pass_eq, pick_tt, pick_ff, pick_tf, pick_ft, pick_u, reg_some, thn_normal, thn_exit, thn_ret, cnd_t, cnd_f, blk_normal, blk_ret, blk_exit, x_seq, x_region, x_cond, x_block, x_loop, x_ret, x_exit, x_skip, e_mov, e_pick, pk_t, pk_f, withH_some, e_box, e_load, e_store, stH_some, e_nil, e_bin, e_eqv, eqH_f, eqH_t, e_un, e_fa, e_ia, ia_eq, nat_eq, natV_nat, e_len, lnH_some, e_extract, ex_0, ex_1, e_call0, e_call1, e_call2, e_call3, pc0_eq, pc1_some, pc2_some, pc3_some, fin_some, g_var0, g_vars, g_loc0, g_locs, g_int, g_bool, g_str, g_sl, s_none, s_zero, s_succ, cl_nil, cl_str, cl_bool, cl_slc, cl_own, evFa, evNil, asEl, evBin, intBin, strBin, evUn, len_nil, len_slc, len_str, clr, List.length_nil, List.length_cons, List.getElem?_cons_zero, List.getElem?_cons_succ, Nat.reduceAdd, Nat.zero_add, Nat.add_zero, Nat.reduceLeDiff, Nat.reduceSub, ↓reduceIte, List.drop_succ_cons, List.drop_zero, List.take_succ_cons, List.take_zero, Bool.false_eq_true, List.nil_append, List.cons_append, Bool.not_true, Bool.not_false, cond_true, cond_false, bne, lv_ret, lv_normal, res1, res2, lv2_some, res_var, res_cell, lvf_v, lvf_slc, res1c, lvo1_some, e_mm, mm_max, mm_min, cl_agg, cl_int, g_agg, e_callv1, cv1_fn, e_slice2, e_clrrow, e_callf2, pick_und, cells_agg, Option.map_some, Option.map_none, bx_some]
              | false =>
                cases n4 : (x.op == 11) with
                | true =>
                  have hnm : namesVar x.op = true := by simp [namesVar, n0, n1, n2, n3, n4]
                  obtain ⟨bb1, bb2⟩ := hgn hnm
                  have vb1 : decide (x.b < 0) = false := by simpa using bb1
                  have vb2 : decide (x.b ≥ vs) = false := by simpa using bb2
                  refine ⟨.normal, [.junk, .ptr 0 0, .junk, .v (.bool true), .junk, .junk, .v (.int .i64 i), .ptr h'.length 0, .junk, .junk, .junk, c3, .v (.int .i64 l.length), .v (.int .i64 ((i + 1 : Nat) : Int)), .v (.bool true), .v (.bool false), .v (.int .i64 x.op), .v (.bool true), .v (.bool false)], h' ++ [.box (inC x)], ?_, hil, rfl, his_get hb0⟩
                  simp only [V6, c6_26, c6_10, c6_11, c6_12, c6_14, c6_15, c6_16, c6_17, c6_18, c6_19, c6_20, c6_21, c6_22, c6_23, c6_25, hlt, hw, hl1, q1, q3, z, st, lo, lb, lc3, lc2, nl, hend, eb, e1, vb1, vb2, pick_und, n0, n1, n2, n3, n4, run_nil, run_cons, stp_plain, stp_guard, put_some, pass_eq, pick_tt, pick_ff, pick_tf, pick_ft, pick_u, reg_some, thn_normal, thn_exit, thn_ret, cnd_t, cnd_f, blk_normal, blk_ret, blk_exit, x_seq, x_region, x_cond, x_block, x_loop, x_ret, x_exit, x_skip, e_mov, e_pick, pk_t, pk_f, withH_some, e_box, e_load, e_store, stH_some, e_nil, e_bin, e_eqv, eqH_f, eqH_t, e_un, e_fa, e_ia, ia_eq, nat_eq, natV_nat, e_len, lnH_some, e_extract, ex_0, ex_1, e_call0, e_call1, e_call2, e_call3, pc0_eq, pc1_some, pc2_some, pc3_some, fin_some, g_var0, g_vars, g_loc0, g_locs, g_int, g_bool, g_str, g_sl, s_none, s_zero, s_succ, cl_nil, cl_str, cl_bool, cl_slc, cl_own, evFa, evNil, asEl, evBin, intBin, strBin, evUn, len_nil, len_slc, len_str, clr, List.length_nil, List.length_cons, List.getElem?_cons_zero, List.getElem?_cons_succ, Nat.reduceAdd, Nat.zero_add, Nat.add_zero, Nat.reduceLeDiff, Nat.reduceSub, ↓reduceIte, List.drop_succ_cons, List.drop_zero, List.take_succ_cons, List.take_zero, Bool.false_eq_true, List.nil_append, List.cons_append, Bool.not_true, Bool.not_false, cond_true, cond_false, bne, lv_ret, lv_normal, res1, res2, lv2_some, res_var, res_cell, lvf_v, lvf_slc, res1c, lvo1_some, e_mm, mm_max, mm_min, cl_agg, cl_int, g_agg, e_callv1, cv1_fn, e_slice2, e_clrrow, e_callf2, pick_und, cells_agg, Option.map_some, Option.map_none, bx_some]
                | false =>
                  cases n5 : (x.op == 12) with
                  | true =>
                    have hnm : namesVar x.op = true := by simp [namesVar, n0, n1, n2, n3, n4, n5]
                    obtain ⟨bb1, bb2⟩ := hgn hnm
                    have vb1 : decide (x.b < 0) = false := by simpa using bb1
                    have vb2 : decide (x.b ≥ vs) = false := by simpa using bb2
                    refine ⟨.normal, [.junk, .ptr 0 0, .junk, .v (.bool true), .junk, .junk, .v (.int .i64 i), .ptr h'.length 0, .junk, .junk, .junk, c3, .v (.int .i64 l.length), .v (.int .i64 ((i + 1 : Nat) : Int)), .v (.bool true), .v (.bool false), .v (.int .i64 x.op), .v (.bool true), .v (.bool false)], h' ++ [.box (inC x)], ?_, hil, rfl, his_get hb0⟩
                    simp only [V6, c6_26, c6_10, c6_11, c6_12, c6_14, c6_15, c6_16, c6_17, c6_18, c6_19, c6_20, c6_21, c6_22, c6_23, c6_25, hlt, hw, hl1, q1, q3, z, st, lo, lb, lc3, lc2, nl, hend, eb, e1, vb1, vb2, pick_und, n0, n1, n2, n3, n4, n5, run_nil, run_cons, stp_plain, stp_guard, put_some, pass_eq, pick_tt, pick_ff, pick_tf, pick_ft, pick_u, reg_some, thn_normal, thn_exit, thn_ret, cnd_t, cnd_f, blk_normal, blk_ret, blk_exit, x_seq, x_region, x_cond, x_block, x_loop, x_ret, x_exit, x_skip, e_mov, e_pick, pk_t, pk_f, withH_some, e_box, e_load, e_store, stH_some, e_nil, e_bin, e_eqv, eqH_f, eqH_t, e_un, e_fa, e_ia, ia_eq, nat_eq, natV_nat, e_len, lnH_some, e_extract, ex_0, ex_1, e_call0, e_call1, e_call2, e_call3, pc0_eq, pc1_some, pc2_some, pc3_some, fin_some, g_var0, g_vars, g_loc0, g_locs, g_int, g_bool, g_str, g_sl, s_none, s_zero, s_succ, cl_nil, cl_str, cl_bool, cl_slc, cl_own, evFa, evNil, asEl, evBin, intBin, strBin, evUn, len_nil, len_slc, len_str, clr, List.length_nil, List.length_cons, List.getElem?_cons_zero, List.getElem?_cons_succ, Nat.reduceAdd, Nat.zero_add, Nat.add_zero, Nat.reduceLeDiff, Nat.reduceSub, ↓reduceIte, List.drop_succ_cons, List.drop_zero, List.take_succ_cons, List.take_zero, Bool.false_eq_true, List.nil_append, List.cons_append, Bool.not_true, Bool.not_false, cond_true, cond_false, bne, lv_ret, lv_normal, res1, res2, lv2_some, res_var, res_cell, lvf_v, lvf_slc, res1c, lvo1_some, e_mm, mm_max, mm_min, cl_agg, cl_int, g_agg, e_callv1, cv1_fn, e_slice2, e_clrrow, e_callf2, pick_und, cells_agg, Option.map_some, Option.map_none, bx_some]
                  | false =>
                    cases n6 : (x.op == 16) with
                    | true =>
                      have hnm : namesVar x.op = true := by simp [namesVar, n0, n1, n2, n3, n4, n5, n6]
                      obtain ⟨bb1, bb2⟩ := hgn hnm
                      have vb1 : decide (x.b < 0) = false := by simpa using bb1
                      have vb2 : decide (x.b ≥ vs) = false := by simpa using bb2
                      refine ⟨.normal, [.junk, .ptr 0 0, .junk, .v (.bool true), .junk, .junk, .v (.int .i64 i), .ptr h'.length 0, .junk, .junk, .junk, c3, .v (.int .i64 l.length), .v (.int .i64 ((i + 1 : Nat) : Int)), .v (.bool true), .v (.bool false), .v (.int .i64 x.op), .v (.bool true), .v (.bool false)], h' ++ [.box (inC x)], ?_, hil, rfl, his_get hb0⟩
                      simp only [V6, c6_26, c6_10, c6_11, c6_12, c6_14, c6_15, c6_16, c6_17, c6_18, c6_19, c6_20, c6_21, c6_22, c6_23, c6_25, hlt, hw, hl1, q1, q3, z, st, lo, lb, lc3, lc2, nl, hend, eb, e1, vb1, vb2, pick_und, n0, n1, n2, n3, n4, n5, n6, run_nil, run_cons, stp_plain, stp_guard, put_some, pass_eq, pick_tt, pick_ff, pick_tf, pick_ft, pick_u, reg_some, thn_normal, thn_exit, thn_ret, cnd_t, cnd_f, blk_normal, blk_ret, blk_exit, x_seq, x_region, x_cond, x_block, x_loop, x_ret, x_exit, x_skip, e_mov, e_pick, pk_t, pk_f, withH_some, e_box, e_load, e_store, stH_some, e_nil, e_bin, e_eqv, eqH_f, eqH_t, e_un, e_fa, e_ia, ia_eq, nat_eq, natV_nat, e_len, lnH_some, e_extract, ex_0, ex_1, e_call0, e_call1, e_call2, e_call3, pc0_eq, pc1_some, pc2_some, pc3_some, fin_some, g_var0, g_vars, g_loc0, g_locs, g_int, g_bool, g_str, g_sl, s_none, s_zero, s_succ, cl_nil, cl_str, cl_bool, cl_slc, cl_own, evFa, evNil, asEl, evBin, intBin, strBin, evUn, len_nil, len_slc, len_str, clr, List.length_nil, List.length_cons, List.getElem?_cons_zero, List.getElem?_cons_succ, Nat.reduceAdd, Nat.zero_add, Nat.add_zero, Nat.reduceLeDiff, Nat.reduceSub, ↓reduceIte, List.drop_succ_cons, List.drop_zero, List.take_succ_cons, List.take_zero, Bool.false_eq_true, List.nil_append, List.cons_append, Bool.not_true, Bool.not_false, cond_true, cond_false, bne, lv_ret, lv_normal, res1, res2, lv2_some, res_var, res_cell, lvf_v, lvf_slc, res1c, lvo1_some, e_mm, mm_max, mm_min, cl_agg, cl_int, g_agg, e_callv1, cv1_fn, e_slice2, e_clrrow, e_callf2, pick_und, cells_agg, Option.map_some, Option.map_none, bx_some]
                    | false =>
                      cases n7 : (x.op == 17) with
                      | true =>
                        have hnm : namesVar x.op = true := by simp [namesVar, n0, n1, n2, n3, n4, n5, n6, n7]
                        obtain ⟨bb1, bb2⟩ := hgn hnm
                        have vb1 : decide (x.b < 0) = false := by simpa using bb1
                        have vb2 : decide (x.b ≥ vs) = false := by simpa using bb2
                        refine ⟨.normal, [.junk, .ptr 0 0, .junk, .v (.bool true), .junk, .junk, .v (.int .i64 i), .ptr h'.length 0, .junk, .junk, .junk, c3, .v (.int .i64 l.length), .v (.int .i64 ((i + 1 : Nat) : Int)), .v (.bool true), .v (.bool false), .v (.int .i64 x.op), .v (.bool true), .v (.bool false)], h' ++ [.box (inC x)], ?_, hil, rfl, his_get hb0⟩
                        simp only [V6, c6_26, c6_10, c6_11, c6_12, c6_14, c6_15, c6_16, c6_17, c6_18, c6_19, c6_20, c6_21, c6_22, c6_23, c6_25, hlt, hw, hl1, q1, q3, z, st, lo, lb, lc3, lc2, nl, hend, eb, e1, vb1, vb2, pick_und, n0, n1, n2, n3, n4, n5, n6, n7, run_nil, run_cons, stp_plain, stp_guard, put_some, pass_eq, pick_tt, pick_ff, pick_tf, pick_ft, pick_u, reg_some, thn_normal, thn_exit, thn_ret, cnd_t, cnd_f, blk_normal, blk_ret, blk_exit, x_seq, x_region, x_cond, x_block, x_loop, x_ret, x_exit, x_skip, e_mov, e_pick, pk_t, pk_f, withH_some, e_box, e_load, e_store, stH_some, e_nil, e_bin, e_eqv, eqH_f, eqH_t, e_un, e_fa, e_ia, ia_eq, nat_eq, natV_nat, e_len, lnH_some, e_extract, ex_0, ex_1, e_call0, e_call1, e_call2, e_call3, pc0_eq, pc1_some, pc2_some, pc3_some, fin_some, g_var0, g_vars, g_loc0, g_locs, g_int, g_bool, g_str, g_sl, s_none, s_zero, s_succ, cl_nil, cl_str, cl_bool, cl_slc, cl_own, evFa, evNil, asEl, evBin, intBin, strBin, evUn, len_nil, len_slc, len_str, clr, List.length_nil, List.length_cons, List.getElem?_cons_zero, List.getElem?_cons_succ, Nat.reduceAdd, Nat.zero_add, Nat.add_zero, Nat.reduceLeDiff, Nat.reduceSub, ↓reduceIte, List.drop_succ_cons, List.drop_zero, List.take_succ_cons, List.take_zero, Bool.false_eq_true, List.nil_append, List.cons_append, Bool.not_true, Bool.not_false, cond_true, cond_false, bne, lv_ret, lv_normal, res1, res2, lv2_some, res_var, res_cell, lvf_v, lvf_slc, res1c, lvo1_some, e_mm, mm_max, mm_min, cl_agg, cl_int, g_agg, e_callv1, cv1_fn, e_slice2, e_clrrow, e_callf2, pick_und, cells_agg, Option.map_some, Option.map_none, bx_some]
                      | false =>
                        refine ⟨.normal, [.junk, .ptr 0 0, .junk, .v (.bool true), .junk, .junk, .v (.int .i64 i), .ptr h'.length 0, .junk, .junk, .junk, c3, .v (.int .i64 l.length), .v (.int .i64 ((i + 1 : Nat) : Int)), .v (.bool true), .v (.bool false), .v (.int .i64 x.op), .v (.bool false), .junk], h' ++ [.box (inC x)], ?_, hil, rfl, his_get hb0⟩
                        simp only [V6, c6_26, c6_10, c6_11, c6_12, c6_14, c6_15, c6_16, c6_17, c6_18, c6_19, c6_20, c6_21, c6_22, c6_23, c6_25, hlt, hw, hl1, q1, q3, z, st, lo, lb, lc3, lc2, nl, hend, eb, e1, pick_und, n0, n1, n2, n3, n4, n5, n6, n7, run_nil, run_cons, stp_plain, stp_guard, put_some, pass_eq, pick_tt, pick_ff, pick_tf, pick_ft, pick_u, reg_some, thn_normal, thn_exit, thn_ret, cnd_t, cnd_f, blk_normal, blk_ret, blk_exit, x_seq, x_region, x_cond, x_block, x_loop, x_ret, x_exit, x_skip, e_mov, e_pick, pk_t, pk_f, withH_some, e_box, e_load, e_store, stH_some, e_nil, e_bin, e_eqv, eqH_f, eqH_t, e_un, e_fa, e_ia, ia_eq, nat_eq, natV_nat, e_len, lnH_some, e_extract, ex_0, ex_1, e_call0, e_call1, e_call2, e_call3, pc0_eq, pc1_some, pc2_some, pc3_some, fin_some, g_var0, g_vars, g_loc0, g_locs, g_int, g_bool, g_str, g_sl, s_none, s_zero, s_succ, cl_nil, cl_str, cl_bool, cl_slc, cl_own, evFa, evNil, asEl, evBin, intBin, strBin, evUn, len_nil, len_slc, len_str, clr, List.length_nil, List.length_cons, List.getElem?_cons_zero, List.getElem?_cons_succ, Nat.reduceAdd, Nat.zero_add, Nat.add_zero, Nat.reduceLeDiff, Nat.reduceSub, ↓reduceIte, List.drop_succ_cons, List.drop_zero, List.take_succ_cons, List.take_zero, Bool.false_eq_true, List.nil_append, List.cons_append, Bool.not_true, Bool.not_false, cond_true, cond_false, bne, lv_ret, lv_normal, res1, res2, lv2_some, res_var, res_cell, lvf_v, lvf_slc, res1c, lvo1_some, e_mm, mm_max, mm_min, cl_agg, cl_int, g_agg, e_callv1, cv1_fn, e_slice2, e_clrrow, e_callf2, pick_und, cells_agg, Option.map_some, Option.map_none, bx_some]
      · have hie : i = l.length := by omega
        subst hie
        have hlt := lt_f (n := l.length)
        refine ⟨.exit 0, [.junk, .ptr 0 0, .junk, .v (.bool true), .junk, .junk, .junk, .junk, .junk, .junk, .junk, c3, .v (.int .i64 l.length), .v (.int .i64 l.length), .v (.bool false), .junk, .junk, .junk, .junk], h', ?_, rfl, _, _, _, _, _, _, _, rfl⟩
        simp only [V6, c6_26, c6_10, hlt, run_nil, run_cons, stp_plain, stp_guard, put_some, pass_eq, pick_tt, pick_ff, pick_tf, pick_ft, pick_u, reg_some, thn_normal, thn_exit, thn_ret, cnd_t, cnd_f, blk_normal, blk_ret, blk_exit, x_seq, x_region, x_cond, x_block, x_loop, x_ret, x_exit, x_skip, e_mov, e_pick, pk_t, pk_f, withH_some, e_box, e_load, e_store, stH_some, e_nil, e_bin, e_eqv, eqH_f, eqH_t, e_un, e_fa, e_ia, ia_eq, nat_eq, natV_nat, e_len, lnH_some, e_extract, ex_0, ex_1, e_call0, e_call1, e_call2, e_call3, pc0_eq, pc1_some, pc2_some, pc3_some, fin_some, g_var0, g_vars, g_loc0, g_locs, g_int, g_bool, g_str, g_sl, s_none, s_zero, s_succ, cl_nil, cl_str, cl_bool, cl_slc, cl_own, evFa, evNil, asEl, evBin, intBin, strBin, evUn, len_nil, len_slc, len_str, clr, List.length_nil, List.length_cons, List.getElem?_cons_zero, List.getElem?_cons_succ, Nat.reduceAdd, Nat.zero_add, Nat.add_zero, Nat.reduceLeDiff, Nat.reduceSub, ↓reduceIte, List.drop_succ_cons, List.drop_zero, List.take_succ_cons, List.take_zero, Bool.false_eq_true, List.nil_append, List.cons_append, Bool.not_true, Bool.not_false, cond_true, cond_false, bne, lv_ret, lv_normal, res1, res2, lv2_some, res_var, res_cell, lvf_v, lvf_slc, res1c, lvo1_some, e_mm, mm_max, mm_min, cl_agg, cl_int, g_agg, e_callv1, cv1_fn, e_slice2, e_clrrow, e_callf2, pick_und, cells_agg, Option.map_some, Option.map_none])
  obtain ⟨rfl, x14, x6, x7, x15, x16, x17, x18, rfl⟩ := g3
  exact ⟨x14, x6, x7, x15, x16, x17, x18, h', g1⟩
theorem places_ok {a : AV} {c : Co} (ha : IsCo a c) : callW F 6 [a] [] = some (.v (.bool true), []) := by
  have hlive := live_ok
  have hchk := check_ok ha
  obtain ⟨r, hbig, hbl⟩ := big_ok ha
  have hbad := chk_bad c
  have hgood := @chk_good c
  cases ha with
  | mk nm ar vs c3 l hl =>
  obtain ⟨es, hs, hes, hm⟩ := hl
  have hel := hes.length
  have cl := (show (AV.agg [.v (.string nm), .v (.int .i64 ar), .v (.int .i64 vs), c3]).cl = some [.v (.string nm), .v (.int .i64 ar), .v (.int .i64 vs), c3] by cases hs <;> rfl)
  have sa := (show ∀ h : List AO, (AV.agg [.v (.string nm), .v (.int .i64 ar), .v (.int .i64 vs), c3]).snap1 h = some (.agg [.v (.string nm), .v (.int .i64 ar), .v (.int .i64 vs), c3]) by intro h; cases hs <;> rfl)
  have la : ∀ h, evLoad (.box [.v (.string nm), .v (.int .i64 ar), .v (.int .i64 vs), c3] :: h) true 4 (.ptr 0 0) = some (.agg [.v (.string nm), .v (.int .i64 ar), .v (.int .i64 vs), c3]) := fun _ => rfl
  have l3 : ∀ h, evLoad (.box [.v (.string nm), .v (.int .i64 ar), .v (.int .i64 vs), c3] :: h) false 1 (.ptr 0 3) = some c3 := fun _ => rfl
  have nl : ∀ h : List AO, evLen h .slice c3 = some l.length := fun h => by rw [hs.len h, hel]
  have st6 : start c6 [.agg [.v (.string nm), .v (.int .i64 ar), .v (.int .i64 vs), c3]] = [.agg [.v (.string nm), .v (.int .i64 ar), .v (.int .i64 vs), c3], .v undef, .v undef, .v undef, .v undef, .v undef, .v undef, .v undef, .v undef, .v undef, .v undef, .v undef, .v undef, .v undef, .v undef, .v undef, .v undef, .v undef, .v undef] := rfl
  have hres : c6.res = [.var 2] := rfl
  cases r with
  | true =>
    refine callW_pure (c := c6) rfl rfl 0 ?_
    rw [st6]
    simp only [c6, c6_0, c6_1, c6_2, c6_3, cl, la, sa, hlive, hbig, run_nil, run_cons, stp_plain, stp_guard, put_some, pass_eq, pick_tt, pick_ff, pick_tf, pick_ft, pick_u, reg_some, thn_normal, thn_exit, thn_ret, cnd_t, cnd_f, blk_normal, blk_ret, blk_exit, x_seq, x_region, x_cond, x_block, x_loop, x_ret, x_exit, x_skip, e_mov, e_pick, pk_t, pk_f, withH_some, e_box, e_load, e_store, stH_some, e_nil, e_bin, e_eqv, eqH_f, eqH_t, e_un, e_fa, e_ia, ia_eq, nat_eq, natV_nat, e_len, lnH_some, e_extract, ex_0, ex_1, e_call0, e_call1, e_call2, e_call3, pc0_eq, pc1_some, pc2_some, pc3_some, fin_some, g_var0, g_vars, g_loc0, g_locs, g_int, g_bool, g_str, g_sl, s_none, s_zero, s_succ, cl_nil, cl_str, cl_bool, cl_slc, cl_own, evFa, evNil, asEl, evBin, intBin, strBin, evUn, len_nil, len_slc, len_str, clr, List.length_nil, List.length_cons, List.getElem?_cons_zero, List.getElem?_cons_succ, Nat.reduceAdd, Nat.zero_add, Nat.add_zero, Nat.reduceLeDiff, Nat.reduceSub, ↓reduceIte, List.drop_succ_cons, List.drop_zero, List.take_succ_cons, List.take_zero, Bool.false_eq_true, List.nil_append, List.cons_append, Bool.not_true, Bool.not_false, cond_true, cond_false, bne, lv_ret, lv_normal, res1, res2, lv2_some, res_var, res_cell, lvf_v, lvf_slc, res1c, lvo1_some, e_mm, mm_max, mm_min, cl_agg, cl_int, g_agg, e_callv1, cv1_fn, e_slice2, e_clrrow, e_callf2, pick_und, cells_agg, Option.map_some, Option.map_none, bx_some]
  | false =>
    have hle := hbl rfl
    dsimp only at hle hbad
    generalize chkT ⟨nm, ar, vs, l⟩ = q at hchk hbad hgood
    obtain ⟨n, e⟩ := q
    dsimp only at hchk hbad hgood
    by_cases he : e = 0
    · subst he
      obtain ⟨rfl, hne, hg⟩ := hgood rfl
      have e0 : ((0 : Int) == 0) = true := rfl
      have ln0 : ((l.length : Int) == 0) = false := by
        have : l.length ≠ 0 := by simpa using hne
        simp; exact hne
      obtain ⟨x14, x6, x7, x15, x16, x17, x18, h', hlp⟩ := places_loop (K := l.length + 1) hs hes hle (by omega) hg [.box [.v (.string nm), .v (.int .i64 ar), .v (.int .i64 vs), c3]] rfl [.agg [.v (.string nm), .v (.int .i64 ar), .v (.int .i64 vs), c3], .ptr 0 0, .v (.bool false), .v (.bool true), .v (.int .i64 0), .v (.int .i64 0), .v undef, .v undef, .v (.bool false), .v (.bool false), .v (.bool false), c3, .v (.int .i64 l.length), .v (.int .i64 0), .v undef, .v undef, .v undef, .v undef, .v undef] rfl
      refine callW_pure (c := c6) rfl rfl (l.length + 1) ?_
      rw [st6, hres, show c6.body = (.seq (.region [] [] c6_0) (.seq (.region [] [] c6_1) (.seq (.seq (.region [] [] c6_2) (.cond (.var 8) (.seq (.region [] [] c6_3) .ret) .skip)) (.seq (.region [] [] c6_4) (.seq (.seq (.region [] [] c6_5) (.cond (.var 9) (.seq (.region [] [] c6_6) .ret) .skip)) (.seq (.seq (.region [] [] c6_7) (.cond (.var 10) (.seq (.region [] [] c6_8) .ret) .skip)) (.seq (.seq (.region [] [] c6_9) (.block 0 (.loop K6 [] c6_26))) (.seq (.region [] [] c6_27) .ret)))))))) from rfl]
      generalize c6_26 = bb at hlp ⊢
      simp only [c6_0, c6_1, c6_2, c6_4, c6_5, c6_7, c6_9, c6_27, cl, la, sa, l3, nl, hlive, hbig, hchk, e0, ln0, hlp, pick_und, run_nil, run_cons, stp_plain, stp_guard, put_some, pass_eq, pick_tt, pick_ff, pick_tf, pick_ft, pick_u, reg_some, thn_normal, thn_exit, thn_ret, cnd_t, cnd_f, blk_normal, blk_ret, blk_exit, x_seq, x_region, x_cond, x_block, x_loop, x_ret, x_exit, x_skip, e_mov, e_pick, pk_t, pk_f, withH_some, e_box, e_load, e_store, stH_some, e_nil, e_bin, e_eqv, eqH_f, eqH_t, e_un, e_fa, e_ia, ia_eq, nat_eq, natV_nat, e_len, lnH_some, e_extract, ex_0, ex_1, e_call0, e_call1, e_call2, e_call3, pc0_eq, pc1_some, pc2_some, pc3_some, fin_some, g_var0, g_vars, g_loc0, g_locs, g_int, g_bool, g_str, g_sl, s_none, s_zero, s_succ, cl_nil, cl_str, cl_bool, cl_slc, cl_own, evFa, evNil, asEl, evBin, intBin, strBin, evUn, len_nil, len_slc, len_str, clr, List.length_nil, List.length_cons, List.getElem?_cons_zero, List.getElem?_cons_succ, Nat.reduceAdd, Nat.zero_add, Nat.add_zero, Nat.reduceLeDiff, Nat.reduceSub, ↓reduceIte, List.drop_succ_cons, List.drop_zero, List.take_succ_cons, List.take_zero, Bool.false_eq_true, List.nil_append, List.cons_append, Bool.not_true, Bool.not_false, cond_true, cond_false, bne, lv_ret, lv_normal, res1, res2, lv2_some, res_var, res_cell, lvf_v, lvf_slc, res1c, lvo1_some, e_mm, mm_max, mm_min, cl_agg, cl_int, g_agg, e_callv1, cv1_fn, e_slice2, e_clrrow, e_callf2, pick_und, cells_agg, Option.map_some, Option.map_none, bx_some]
    · rcases hbad with h | ⟨rfl, hb1, hb2⟩
      · exact absurd h he
      · have e1 : ((150 : Int) == 0) = false := rfl
        have e2 : ((150 : Int) == 150) = true := rfl
        have d1 : decide (n ≥ 0) = true := by simpa using hb1
        have d2 : decide (n ≤ (l.length : Int)) = true := by simpa using hb2
        refine callW_pure (c := c6) rfl rfl 0 ?_
        rw [st6]
        simp only [c6, c6_0, c6_1, c6_2, c6_4, c6_5, c6_6, cl, la, sa, l3, nl, hlive, hbig, hchk, e1, e2, d1, d2, run_nil, run_cons, stp_plain, stp_guard, put_some, pass_eq, pick_tt, pick_ff, pick_tf, pick_ft, pick_u, reg_some, thn_normal, thn_exit, thn_ret, cnd_t, cnd_f, blk_normal, blk_ret, blk_exit, x_seq, x_region, x_cond, x_block, x_loop, x_ret, x_exit, x_skip, e_mov, e_pick, pk_t, pk_f, withH_some, e_box, e_load, e_store, stH_some, e_nil, e_bin, e_eqv, eqH_f, eqH_t, e_un, e_fa, e_ia, ia_eq, nat_eq, natV_nat, e_len, lnH_some, e_extract, ex_0, ex_1, e_call0, e_call1, e_call2, e_call3, pc0_eq, pc1_some, pc2_some, pc3_some, fin_some, g_var0, g_vars, g_loc0, g_locs, g_int, g_bool, g_str, g_sl, s_none, s_zero, s_succ, cl_nil, cl_str, cl_bool, cl_slc, cl_own, evFa, evNil, asEl, evBin, intBin, strBin, evUn, len_nil, len_slc, len_str, clr, List.length_nil, List.length_cons, List.getElem?_cons_zero, List.getElem?_cons_succ, Nat.reduceAdd, Nat.zero_add, Nat.add_zero, Nat.reduceLeDiff, Nat.reduceSub, ↓reduceIte, List.drop_succ_cons, List.drop_zero, List.take_succ_cons, List.take_zero, Bool.false_eq_true, List.nil_append, List.cons_append, Bool.not_true, Bool.not_false, cond_true, cond_false, bne, lv_ret, lv_normal, res1, res2, lv2_some, res_var, res_cell, lvf_v, lvf_slc, res1c, lvo1_some, e_mm, mm_max, mm_min, cl_agg, cl_int, g_agg, e_callv1, cv1_fn, e_slice2, e_clrrow, e_callf2, pick_und, cells_agg, Option.map_some, Option.map_none, bx_some]
end Go.AE.YtchiacliefahdaaDoor
end

/-! What comes in, out of its types. -/
section
set_option linter.unusedVariables false
namespace Go.AE.YtchiacliefahdaaDoor
open Go Go.AE Go.Proofs.YtchiacliefahdaaDoor
theorem int3 {cs : List AV} (w : WT T 3 cs) : ∃ n : Int, cs = [.v (.int .i64 n)] := by
  obtain ⟨n, h, _⟩ := wt_int_of (t := 3) (k := .i64) rfl rfl w
  exact ⟨n, h⟩
theorem int2 {cs : List AV} (w : WT T 2 cs) : ∃ n : Int, cs = [.v (.int .i64 n)] := by
  obtain ⟨n, h, _⟩ := wt_int_of (t := 2) (k := .i64) rfl rfl w
  exact ⟨n, h⟩
theorem str9 {cs : List AV} (w : WT T 9 cs) : ∃ s : ByteArray, cs = [.v (.string s)] := by
  obtain ⟨s, h, _⟩ := wt_str_of (t := 9) rfl rfl w
  exact ⟨s, h⟩
theorem instr_in {cs : List AV} (w : WT T 41 cs) : ∃ i, IsIn (.agg cs) i := by
  obtain ⟨a, b, c, d, e, rfl, wa, wb, wc, wd, we⟩ := wt_struct5 (t := 41) rfl rfl w
  obtain ⟨_, rfl⟩ := int3 wa
  obtain ⟨_, rfl⟩ := int3 wb
  obtain ⟨_, rfl⟩ := int3 wc
  obtain ⟨_, rfl⟩ := str9 wd
  obtain ⟨_, rfl⟩ := int2 we
  exact ⟨_, .mk _ _ _ _ _⟩
theorem instrs_in {cs : List AV} (w : WT T 22 cs) : ∃ c l, cs = [c] ∧ IsS 5 IsIn c l := by
  rcases wt_slice_of (t := 22) (e := 41) rfl rfl rfl w with rfl | ⟨l, rfl, hl, hel, has⟩
  · exact ⟨_, [], rfl, [], .nil, .nil, by simp⟩
  · obtain ⟨xs, hxs⟩ := allR_of (R := IsIn) (l := l) (fun el hm => by
      obtain ⟨x, hx⟩ := instr_in (hel el hm)
      have := has el hm
      rw [← agg_cells this] at hx
      exact ⟨x, hx⟩)
    exact ⟨_, xs, rfl, l, .slc _ _ _, hxs, hl⟩
theorem code_in {a : AV} (w : WT T 24 a.cells) (e : asEl ti24.agg a.cells = some a) : ∃ c, IsCo a c := by
  obtain ⟨n, b, c, d, h, wn, wb, wc, wd⟩ := wt_struct4 (t := 24) rfl rfl w
  obtain ⟨_, rfl⟩ := str9 wn
  obtain ⟨_, rfl⟩ := int3 wb
  obtain ⟨_, rfl⟩ := int3 wc
  obtain ⟨q, l, rfl, hl⟩ := instrs_in wd
  rw [agg_cells e, h]
  exact ⟨_, .mk _ _ _ _ _ hl⟩
end Go.AE.YtchiacliefahdaaDoor
end

/-! What all rows of this program need. -/
section
set_option linter.unusedVariables false
namespace Go.Proofs.YtchiacliefahdaaDoor
open Go Go.AE Go.Proofs Go.ChangeShapes Go.WideShapes Go.ChangeAt Go.RowKit
open Go.ChangeMaps (open_string shut_string)

theorem own : ownKnob Tryd.prog.godebug = none := by kernel_rfl
theorem laidOut : laidOutB Tryd.prog = true := by kernel_rfl
theorem mixed : Tryd.prog.follows .mixedOrders = true := by kernel_rfl
def G : List TypeId := [2, 3, 9, 22, 24, 41]
theorem hG : goodB T G = true := by kernel_rfl

/-- What a call comes to that is handed what came in. -/
theorem law_calls {f : FuncId} {args : List AV} {vals : Array Value} {W : World} (hK : K W.heap.size W) (ha : ArgsRep (AllCells W) W [] args vals) {n : Nat} (he : callN F n f args [] = some (.v (.bool true), [])) :
    Calls Tryd.prog f vals W fun e W' => e = .returned (.bool true) ∧ Below W.heap.size W W' := by
  have hI : AE.Inv W.heap.size W (AllCells W) [] W [] := ⟨Below.refl _ _, Nat.le_refl _, rfl, fun id o L h => by simp at h, fun id L h => by simp at h, fun i j Li Lj h => by simp at h, fun b x h => h⟩
  refine ((callN_ok mixed hT hKs hF n W.heap.size W hK).calls f args [] _ _ he (AllCells W) [] W vals hI ha).mono fun e W' h => ?_
  obtain ⟨v, I', σ', rfl, hI', _, hr⟩ := h
  cases hr
  exact ⟨rfl, hI'.below⟩
end Go.Proofs.YtchiacliefahdaaDoor
end

/-! What all rows of this seat need: the world in which the library's two tables lie. -/
section
set_option linter.unusedVariables false
namespace Go.Proofs.YtchiacliefahdaaDoor
open Go Go.AE Go.Proofs Go.RowKit Go.Lib Go.Shelf

/-- a world in which the two variables hold what their initialisers lay -/
noncomputable def laidWorld (os : Os) : World :=
  let w0 := World.holding Tryd.prog os ⟨#[], #[], []⟩
  let put (h : Array Obj) (g : Nat) (cs : Array Value) : Array Obj := h.modify g fun
    | .cells _ t frozen => .cells cs t frozen
    | o => o
  let h1 := put w0.heap (Tryd.laysValid_ren.g 3) (Lib.firstTab.map fun z => Value.int .u8 z).toArray
  let h2 := put h1 (Tryd.laysValid_ren.g 4) ((List.range 16).flatMap fun i => [Value.int .u8 (Lib.accLo i), Value.int .u8 (Lib.accHi i)]).toArray
  { w0 with heap := h2 }
set_option maxRecDepth 1000000 in
theorem laid_met (os : Os) (args : Array Value) : laidMetH Tryd.prog Rows.validPlacesRow.laid ((laidWorld os).forCall (fun _ _ => 0) ⟨#[], args, []⟩).memory :=
  (LaidIn.of_run (l := [("unicode/utf8.acceptRanges", Lib.acceptData), ("unicode/utf8.first", Lib.firstData)]) [0, 1] 8 (by kernel_rfl) (by kernel_rfl) (by kernel_rfl) (by kernel_rfl)).met
set_option maxRecDepth 1000000 in
theorem tabs_of {W : World} (hL : laidMetH Tryd.prog Rows.validPlacesRow.laid W) : Lib.Utf8Tabs (Tryd.laysValid_ren.g 3) (Tryd.laysValid_ren.g 4) W :=
  utf8Tabs_of_readsT (U8Types.of196 Tryd.laysValid) ⟨by kernel_rfl, by kernel_rfl, by kernel_rfl, by kernel_rfl, by kernel_rfl, by kernel_rfl, by kernel_rfl⟩ (Lib.laidMet.reads (l := Rows.validPlacesRow.laid) hL (.tail _ (.head _))) (Lib.laidMet.reads (l := Rows.validPlacesRow.laid) hL (.head _))
end Go.Proofs.YtchiacliefahdaaDoor
end

/-! The row and the card of ValidPlaces, out of its plain law. -/
section
set_option linter.unusedVariables false
namespace Go.Proofs.YtchiacliefahdaaDoor
open Go Go.AE Go.Proofs Go.ChangeShapes Go.WideShapes Go.ChangeAt Go.RowKit
open Go.ChangeMaps (open_string shut_string)
namespace validPlaces
theorem args {I : Cells} {W : World} {a0 : AV} {v0 : Value} (r0 : Rep I W [] a0 v0) : ArgsRep I W [] [a0] #[v0] := by
  refine ⟨rfl, fun i a h => ?_⟩
  match i, h with
  | 0, h => cases h; exact r0
def Plain : Prop := ∀ a0 : AV, WT T 24 a0.cells → asEl ti24.agg a0.cells = some a0 →
  ∃ n, callN F n 6 [a0] [] = some (.v (.bool true), [])

set_option maxRecDepth 100000 in
theorem lifted (plain : Plain) (os : Os) (started : os.Started) (H : Type) (enc : TypeId × Value → H) :
    ReturnsInHanded {} Tryd.checked os 6 .any (fun w args => (Rows.validPlacesSpec.pre enc Tryd.prog Tryd.f6 [] false w args ∧ laidMetH Tryd.prog Rows.validPlacesRow.laid w) ∧ sizedMet enc Tryd.prog Tryd.f6 (OpenSpec.ofChange Rows.validPlacesSpec) false w args)
      (Rows.validPlacesSpec.post enc Tryd.prog Tryd.f6 false true false false) := by
  refine returnsInHanded_of_change_and (C := Tryd.checked) (X := fun w _ => laidMetH Tryd.prog Rows.validPlacesRow.laid w) (fun _ _ _ hh h => h.of_heap hh) own started (by kernel_rfl) Tryd.func6
    (ChangeSpec.witness_at (enc := enc) (C := Tryd.checked) (os := os) (X := fun w _ => laidMetH Tryd.prog Rows.validPlacesRow.laid w) false (laidWorld os) #[ti24.zero] 8 rfl (by kernel_rfl) (by kernel_rfl) (by kernel_rfl) (by kernel_rfl) (by kernel_rfl) (laid_met os _)) ?_
  intro W base args' ds gs before hval0 hW _ _ hL _
  have hval : ∀ (j : Nat) t v, Tryd.f6.params[j]? = some t → args'[j]? = some v → Value.okWide Tryd.prog W .any base t v := hval0
  have hW' := hW
  obtain ⟨p, q, hA0, hV, rfl, hfz, hnd⟩ := hW
  have hA : DataW.TrodAll enc Tryd.prog W 0 (fun _ => true) true Tryd.f6.params.toList args'.toList ds p := hA0
  rw [Tryd.params6] at hA hval
  obtain ⟨v0, vs0, d0, ds0, p0, q0, hargs, rfl, rfl, h0, r0⟩ := trodAll_cons hA
  obtain ⟨rfl, rfl, rfl⟩ := trodAll_nil r0
  obtain rfl : args' = #[v0] := by cases args'; simp_all
  obtain ⟨rfl, rfl⟩ := trodVars_none hV
  obtain ⟨a0, w0, e0, x0⟩ := trod_arg hT hG (t := 24) (i := ti24) (by decide) rfl (hval 0 24 v0 rfl rfl) h0
  have l0 : ∀ x ∈ p0, x.block < W.heap.size := by obtain ⟨m, hm⟩ := h0; exact DataW.trod_lt m _ _ _ hm
  obtain ⟨n, hn⟩ := plain a0 w0 e0
  refine (law_calls ⟨rfl, tabs_of hL⟩ (args x0) hn).mono fun e W' ⟨he, bel⟩ => ?_
  subst he
  exact ⟨_, rfl, _, _, _, [], _, [], hW', trodAll_mk1 (shut_bool Tryd.underlying4 _),
    (trodAll_cons_mk (Below.trod laidOut (by kernel_rfl) (of_decide_eq_true (by kernel_rfl)) h0 bel l0) trodAll_mk0), rfl, bel.frame _, fun h => by cases h⟩
theorem over (plain : Plain) : Rows.validPlacesRow.holds Tryd.pinned (OpenSpec.ofChange Rows.validPlacesSpec) :=
  OpenClaim.holds_of_wide 6 Tryd.f6 rfl rfl rfl rfl rfl rfl rfl ⟨rfl, rfl, rfl, rfl, rfl⟩ rfl rfl rfl rfl rfl (by kernel_rfl) Tryd.func6 (by kernel_rfl)
    (of_decide_eq_true (by kernel_rfl)) (by unfold Func.isWrapper; first | (rw [if_pos (by decide +kernel)]; kernel_rfl) | (rw [if_neg (by decide +kernel)]; exact ⟨rfl, rfl⟩))
    (fun os started H enc _ => lifted plain os started H enc)
theorem proved (plain : Plain) : Rows.ValidPlacesCardSaid :=
  Claim7.holds_tied_plain_at .later [] Rows.validPlacesCard.laidKinds true Rows.validPlacesCard.stood.harness Rows.validPlacesCard.stood.looks
    (over plain) (fun _ h => by cases h) (by kernel_rfl) (fun _ h => by cases h) validPlaces_row_tie rfl ⟨rfl, rfl⟩ (by kernel_rfl) rfl
    (fun f fn hf hfn => by
      obtain rfl : f = 6 := Option.some.inj ((show Tryd.prog.funcNamed Rows.validPlacesRow.func = some 6 by kernel_rfl).symm.trans hf) |>.symm
      obtain rfl : fn = Tryd.f6 := (Option.some.inj (Tryd.func6.symm.trans hfn)).symm
      refine ⟨by kernel_rfl, fun j t ht => ?_⟩
      rw [Tryd.params6] at ht
      match j, ht with
      | 0, ht => cases ht; exact (show Tryd.prog.wantsStandIn 24 = false by kernel_rfl)
      | _ + 1, ht => simp at ht)
    (by kernel_rfl)
end validPlaces
end Go.Proofs.YtchiacliefahdaaDoor
end
