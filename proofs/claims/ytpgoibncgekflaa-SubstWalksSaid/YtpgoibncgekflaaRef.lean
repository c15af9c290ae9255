/- The document's Look. -/
import Derived.Test.YtpgoibncgekflaaOrder
import Derived.Test.YtpgoibncgekflaaAexFold
set_option linter.unusedVariables false
set_option linter.unusedSimpArgs false
namespace Go.AE.Ytpgoibncgekflaa
open Go Go.AE Go.Proofs.Ytpgoibncgekflaa

def zeroC : List AV := [.v (.int .i64 0), .v (.string ⟨#[]⟩), .v (.int .i64 0), .v (.slice none 0 0)]
theorem look14_step {K : Nat} {ex nn : Bool} {es : List AV} {i : Nat} {e : AV} {v : Int} {t : Tm} {n : Int} {j : AV} (he : es[i]? = some e) (hb : IsBd e v t) :
    exec (callW F) K c14_6 [.slc 5 ex nn es, .v (.int .i64 n), .ptr 0 0, .junk, .v (.int .i64 i), .junk, .junk] [.box zeroC] = if v = n then
        some (.ret, [.slc 5 ex nn es, .v (.int .i64 n), .ptr 0 0, .v (.bool true), .v (.int .i64 i), .v (.bool true), .v (.bool true)], [.box (e.cells.drop 1)])
      else some (.normal, [.slc 5 ex nn es, .v (.int .i64 n), .ptr 0 0, .junk, .v (.int .i64 (IntKind.i64.wrap (i - 1))), .v (.bool true), .v (.bool false)], [.box zeroC]) := by
  have hge : (decide ((i : Int) ≥ 0)) = true := by simp
  have q1 : ∀ h, iaV h 5 (.slc 5 ex nn es) (some i) = some (.ip e.cells) := fun h => iaV_slc he
  cases hb with
  | mk v cs t ht =>
  cases ht with
  | mk k s n2 c l hc =>
  by_cases hv : v = n
  · have h1 : (v == n) = true := by simpa using hv
    rw [if_pos hv]
    simp only [zeroC, c14_6, c14_2, c14_3, c14_4, hge, q1, h1, AV.cells, e_bslice1, e_build, bdH_some, bd_nil, bd_cons, bd1, cl_agg, cl_int, toL, List.map_cons, List.map_nil, putAt, List.set_cons_zero, List.set_cons_succ, and_self, Nat.le_refl, evStore, app_get, app_set, g_agg, run_nil, run_cons, stp_plain, stp_guard, put_some, pass_eq, pick_tt, pick_ff, pick_tf, pick_ft, pick_u, reg_some, thn_normal, thn_exit, thn_ret, cnd_t, cnd_f, blk_normal, blk_ret, blk_exit, x_seq, x_region, x_cond, x_block, x_loop, x_ret, x_exit, x_skip, e_mov, e_pick, pk_t, pk_f, withH_some, e_box, bx_some, e_load, e_store, stH_some, e_nil, e_bin, e_eqv, eqH_f, eqH_t, e_un, e_fa, e_ia, ia_eq, nat_eq, natV_nat, e_len, lnH_some, e_extract, ex_0, ex_1, e_call0, e_call1, e_call2, e_call3, pc0_eq, pc1_some, pc2_some, pc3_some, fin_some, g_var0, g_vars, g_loc0, g_locs, g_int, g_bool, g_str, g_sl, s_none, s_zero, s_succ, evFa, evNil, evLoad, asEl, evBin, intBin, strBin, evUn, len_nil, len_slc, len_str, clr, List.length_nil, List.length_cons, List.getElem?_cons_zero, List.getElem?_cons_succ, Nat.reduceAdd, Nat.zero_add, Nat.add_zero, Nat.reduceLeDiff, Nat.reduceSub, ↓reduceIte, List.drop_succ_cons, List.drop_zero, List.take_succ_cons, List.take_zero, Bool.false_eq_true, List.nil_append, List.cons_append, Bool.not_true, Bool.not_false, cond_true, cond_false, bne, lv_ret, lv_normal, res1, res2, lv2_some, res_var, res_cell, lvf_v, lvf_slc]
  · have h1 : (v == n) = false := by simpa using hv
    rw [if_neg hv]
    simp only [zeroC, c14_6, c14_2, c14_3, c14_5, hge, q1, h1, AV.cells, e_bslice1, e_build, bdH_some, bd_nil, bd_cons, bd1, cl_agg, cl_int, toL, List.map_cons, List.map_nil, putAt, List.set_cons_zero, List.set_cons_succ, and_self, Nat.le_refl, evStore, app_get, app_set, g_agg, run_nil, run_cons, stp_plain, stp_guard, put_some, pass_eq, pick_tt, pick_ff, pick_tf, pick_ft, pick_u, reg_some, thn_normal, thn_exit, thn_ret, cnd_t, cnd_f, blk_normal, blk_ret, blk_exit, x_seq, x_region, x_cond, x_block, x_loop, x_ret, x_exit, x_skip, e_mov, e_pick, pk_t, pk_f, withH_some, e_box, bx_some, e_load, e_store, stH_some, e_nil, e_bin, e_eqv, eqH_f, eqH_t, e_un, e_fa, e_ia, ia_eq, nat_eq, natV_nat, e_len, lnH_some, e_extract, ex_0, ex_1, e_call0, e_call1, e_call2, e_call3, pc0_eq, pc1_some, pc2_some, pc3_some, fin_some, g_var0, g_vars, g_loc0, g_locs, g_int, g_bool, g_str, g_sl, s_none, s_zero, s_succ, evFa, evNil, evLoad, asEl, evBin, intBin, strBin, evUn, len_nil, len_slc, len_str, clr, List.length_nil, List.length_cons, List.getElem?_cons_zero, List.getElem?_cons_succ, Nat.reduceAdd, Nat.zero_add, Nat.add_zero, Nat.reduceLeDiff, Nat.reduceSub, ↓reduceIte, List.drop_succ_cons, List.drop_zero, List.take_succ_cons, List.take_zero, Bool.false_eq_true, List.nil_append, List.cons_append, Bool.not_true, Bool.not_false, cond_true, cond_false, bne, lv_ret, lv_normal, res1, res2, lv2_some, res_var, res_cell, lvf_v, lvf_slc]

theorem AllB.get : ∀ {es : List AV} {l : List (Int × Tm)}, AllB es l → ∀ {i : Nat} {e : AV}, es[i]? = some e → ∃ v t, l[i]? = some (v, t) ∧ IsBd e v t
  | _, _, .nil, i, e, h => by simp at h
  | _, _, .cons a v t es ts h hs, i, e, he => by
    cases i with
    | zero => simp at he; subst he; exact ⟨v, t, rfl, h⟩
    | succ i => exact hs.get (by simpa using he)

def K14 : List Bool := [true, true, true, false, true, false, false]
def L14 (b : AV) (n i : Int) : List AV := [b, .v (.int .i64 n), .ptr 0 0, .junk, .v (.int .i64 i), .junk, .junk]

theorem look14_loop {K : Nat} {ex nn : Bool} {es : List AV} {bs : List (Int × Tm)} (hes : AllB es bs) (hm : es.length ≤ maxLen) (n : Int) :
    ∀ (m : Nat), m ≤ es.length → ∀ (vars : List AV), clr K14 vars = L14 (.slc 5 ex nn es) n ((m : Int) - 1) →
      (∃ vs cs, loopN (exec (callW F) K c14_6) K14 (m + 1) vars [.box zeroC] = some (.ret, vs, [.box cs]) ∧ getO vs [] (.var 2) = .ptr 0 0 ∧ getO vs [] (.var 3) = .v (.bool true) ∧ lookA n (es.take m).reverse = .tup [.agg cs, .v (.bool true)] ∧ cs.length = 4) ∨
      (loopN (exec (callW F) K c14_6) K14 (m + 1) vars [.box zeroC] = some (.exit 0, [.slc 5 ex nn es, .v (.int .i64 n), .ptr 0 0, .junk, .v (.int .i64 (-1)), .v (.bool false), .junk], [.box zeroC]) ∧ lookA n (es.take m).reverse = .tup [.agg zeroC, .v (.bool false)]) := by
  intro m
  induction m with
  | zero =>
    intro _ vars hv
    right
    refine ⟨loop_exit ?_, rfl⟩
    rw [hv]
    have hge : decide ((-1 : Int) ≥ 0) = false := by simp
    have h0 : ((0 : Nat) : Int) - 1 = -1 := rfl
    simp only [L14, c14_6, c14_2, h0, hge, run_nil, run_cons, stp_plain, stp_guard, put_some, pass_eq, pick_tt, pick_ff, pick_tf, pick_ft, pick_u, reg_some, thn_normal, thn_exit, thn_ret, cnd_t, cnd_f, blk_normal, blk_ret, blk_exit, x_seq, x_region, x_cond, x_block, x_loop, x_ret, x_exit, x_skip, e_mov, e_pick, pk_t, pk_f, withH_some, e_box, bx_some, e_load, e_store, stH_some, e_nil, e_bin, e_eqv, eqH_f, eqH_t, e_un, e_fa, e_ia, ia_eq, nat_eq, natV_nat, e_len, lnH_some, e_extract, ex_0, ex_1, e_call0, e_call1, e_call2, e_call3, pc0_eq, pc1_some, pc2_some, pc3_some, fin_some, g_var0, g_vars, g_loc0, g_locs, g_int, g_bool, g_str, g_sl, s_none, s_zero, s_succ, evFa, evNil, evLoad, asEl, evBin, intBin, strBin, evUn, len_nil, len_slc, len_str, clr, List.length_nil, List.length_cons, List.getElem?_cons_zero, List.getElem?_cons_succ, Nat.reduceAdd, Nat.zero_add, Nat.add_zero, Nat.reduceLeDiff, Nat.reduceSub, ↓reduceIte, List.drop_succ_cons, List.drop_zero, List.take_succ_cons, List.take_zero, Bool.false_eq_true, List.nil_append, List.cons_append, Bool.not_true, Bool.not_false, cond_true, cond_false, bne, lv_ret, lv_normal, res1, res2, lv2_some, res_var, res_cell, lvf_v, lvf_slc]
  | succ m ih =>
    intro hle vars hv
    obtain ⟨e, he⟩ : ∃ e, es[m]? = some e := ⟨_, List.getElem?_eq_getElem (by omega)⟩
    obtain ⟨v, t, _, hT⟩ := hes.get he
    have st := look14_step (K := K) (ex := ex) (nn := nn) (n := n) (j := .junk) he hT
    have htk : (es.take (m + 1)).reverse = e :: (es.take m).reverse := by
      rw [List.take_add_one, he]; simp
    have e1 : ((m + 1 : Nat) : Int) - 1 = (m : Int) := by omega
    rw [e1] at hv
    by_cases hvn : v = n
    · left
      rw [if_pos hvn] at st
      refine ⟨_, _, loop_ret (by rw [hv]; exact st), rfl, rfl, ?_, ?_⟩
      · rw [htk]
        cases hT with
        | mk v cs t ht => simp [lookA, AV.cells, hvn]
      · cases hT with
        | mk v cs t ht => cases ht with | mk k s n2 c l hc => rfl
    · rw [if_neg hvn] at st
      have hw : IntKind.i64.wrap ((m : Int) - 1) = (m : Int) - 1 := by
        rw [IntWalk.i64_in]
        have : maxLen = 9223372036854775807 := rfl
        omega
      rw [hw] at st
      have hlk : lookA n (es.take (m + 1)).reverse = lookA n (es.take m).reverse := by
        rw [htk]
        cases hT with
        | mk v cs t ht => simp [lookA, hvn]
      rw [hlk, loop_normal (by rw [hv]; exact st)]
      exact ih (by omega) _ rfl

theorem q9z : (ofVal (.agg #[(.int .i64 0), (.string ⟨#[]⟩), (.int .i64 0), (.slice none 0 0)])).cl = some [.v (.int .i64 0), .v (.string ⟨#[]⟩), .v (.int .i64 0), .v (.slice none 0 0)] := by simp [ofVal, AV.cl, Value.oneCell']

theorem look14_ok {ex nn : Bool} {es : List AV} {bs : List (Int × Tm)} (hes : AllB es bs) (hm : es.length ≤ maxLen) (n : Int) : callW F 14 [.slc 5 ex nn es, .v (.int .i64 n)] [] = some (lookA n es.reverse, []) := by
  obtain ⟨cs0, u0, f0, hlf, hu0⟩ := look_form n hes.reverse
  refine callW_pure (c := c14) rfl rfl (es.length + 1) ?_
  have hw : IntKind.i64.wrap ((es.length : Int) - 1) = (es.length : Int) - 1 := by
    rw [IntWalk.i64_in]
    have : maxLen = 9223372036854775807 := rfl
    omega
  have body : exec (callW F) (es.length + 1) c14.body (start c14 [.slc 5 ex nn es, .v (.int .i64 n)]) [] = thn (callW F) (es.length + 1) (.seq (.region [] [] c14_7) .ret) (blk 0 (loopN (exec (callW F) (es.length + 1) c14_6) K14 (es.length + 1) (L14 (.slc 5 ex nn es) n ((es.length : Int) - 1)) [.box zeroC])) := by
    show exec (callW F) (es.length + 1) (.seq (.region [] [] c14_0) (.seq (.seq (.region [] [] c14_1) (.block 0 (.loop K14 [] c14_6))) (.seq (.region [] [] c14_7) .ret))) _ _ = _
    generalize (CC.seq (.region [] [] c14_7) .ret) = rest
    simp only [c14, start, zeroC, List.replicate, c14_0, c14_1, q9z, hw, e_bslice1, e_build, bdH_some, bd_nil, bd_cons, bd1, cl_agg, cl_int, toL, List.map_cons, List.map_nil, putAt, List.set_cons_zero, List.set_cons_succ, and_self, Nat.le_refl, evStore, app_get, app_set, g_agg, run_nil, run_cons, stp_plain, stp_guard, put_some, pass_eq, pick_tt, pick_ff, pick_tf, pick_ft, pick_u, reg_some, thn_normal, thn_exit, thn_ret, cnd_t, cnd_f, blk_normal, blk_ret, blk_exit, x_seq, x_region, x_cond, x_block, x_loop, x_ret, x_exit, x_skip, e_mov, e_pick, pk_t, pk_f, withH_some, e_box, bx_some, e_load, e_store, stH_some, e_nil, e_bin, e_eqv, eqH_f, eqH_t, e_un, e_fa, e_ia, ia_eq, nat_eq, natV_nat, e_len, lnH_some, e_extract, ex_0, ex_1, e_call0, e_call1, e_call2, e_call3, pc0_eq, pc1_some, pc2_some, pc3_some, fin_some, g_var0, g_vars, g_loc0, g_locs, g_int, g_bool, g_str, g_sl, s_none, s_zero, s_succ, evFa, evNil, evLoad, asEl, evBin, intBin, strBin, evUn, len_nil, len_slc, len_str, clr, List.length_nil, List.length_cons, List.getElem?_cons_zero, List.getElem?_cons_succ, Nat.reduceAdd, Nat.zero_add, Nat.add_zero, Nat.reduceLeDiff, Nat.reduceSub, ↓reduceIte, List.drop_succ_cons, List.drop_zero, List.take_succ_cons, List.take_zero, Bool.false_eq_true, List.nil_append, List.cons_append, Bool.not_true, Bool.not_false, cond_true, cond_false, bne, lv_ret, lv_normal, res1, res2, lv2_some, res_var, res_cell, lvf_v, lvf_slc]
    rw [loop_cong (v2 := L14 (.slc 5 ex nn es) n ((es.length : Int) - 1)) (by rfl)]
  rw [body]
  have hres : c14.res = [.cell 2 true 4, .var 3] := rfl
  have key := look14_loop (K := es.length + 1) (ex := ex) (nn := nn) hes hm n es.length (Nat.le_refl _) (L14 (.slc 5 ex nn es) n ((es.length : Int) - 1)) rfl
  rw [List.take_length] at key
  rcases key with ⟨vs, cs, h1, h2, h3, h4, h5⟩ | ⟨h1, h2⟩
  · rw [h1, h4]
    have hcs : cs0 = cs := by rw [hlf] at h4; cases h4; rfl
    subst hcs
    cases hu0 with
    | mk k s n2 c l hc =>
    have lvt : ∀ (h : List AO) (b : Value), lvf h (.tup [.agg [.v (.int .i64 k), .v (.string s), .v (.int .i64 n2), c], .v b]) = some (.tup [.agg [.v (.int .i64 k), .v (.string s), .v (.int .i64 n2), c], .v b], []) := by
      intro h b; cases hc <;> rfl
    simp only [hres, h2, h3, lvt, run_nil, run_cons, stp_plain, stp_guard, put_some, pass_eq, pick_tt, pick_ff, pick_tf, pick_ft, pick_u, reg_some, thn_normal, thn_exit, thn_ret, cnd_t, cnd_f, blk_normal, blk_ret, blk_exit, x_seq, x_region, x_cond, x_block, x_loop, x_ret, x_exit, x_skip, e_mov, e_pick, pk_t, pk_f, withH_some, e_box, bx_some, e_load, e_store, stH_some, e_nil, e_bin, e_eqv, eqH_f, eqH_t, e_un, e_fa, e_ia, ia_eq, nat_eq, natV_nat, e_len, lnH_some, e_extract, ex_0, ex_1, e_call0, e_call1, e_call2, e_call3, pc0_eq, pc1_some, pc2_some, pc3_some, fin_some, g_var0, g_vars, g_loc0, g_locs, g_int, g_bool, g_str, g_sl, s_none, s_zero, s_succ, AV.cl, evFa, evNil, evLoad, asEl, evBin, intBin, strBin, evUn, len_nil, len_slc, len_str, clr, List.length_nil, List.length_cons, List.getElem?_cons_zero, List.getElem?_cons_succ, Nat.reduceAdd, Nat.zero_add, Nat.add_zero, Nat.reduceLeDiff, Nat.reduceSub, ↓reduceIte, List.drop_succ_cons, List.drop_zero, List.take_succ_cons, List.take_zero, Bool.false_eq_true, List.nil_append, List.cons_append, Bool.not_true, Bool.not_false, cond_true, cond_false, bne, lv_ret, lv_normal, res1, res2, lv2_some, res_var, res_cell, lvf_v, lvf_slc]
  · rw [h1, h2]
    have lvt : ∀ (h : List AO) (a b c d e : Value), lvf h (.tup [.agg [.v a, .v b, .v c, .v d], .v e]) = some (.tup [.agg [.v a, .v b, .v c, .v d], .v e], []) := fun _ _ _ _ _ _ => rfl
    simp only [hres, zeroC, c14_7, lvt, e_bslice1, e_build, bdH_some, bd_nil, bd_cons, bd1, cl_agg, cl_int, toL, List.map_cons, List.map_nil, putAt, List.set_cons_zero, List.set_cons_succ, and_self, Nat.le_refl, evStore, app_get, app_set, g_agg, run_nil, run_cons, stp_plain, stp_guard, put_some, pass_eq, pick_tt, pick_ff, pick_tf, pick_ft, pick_u, reg_some, thn_normal, thn_exit, thn_ret, cnd_t, cnd_f, blk_normal, blk_ret, blk_exit, x_seq, x_region, x_cond, x_block, x_loop, x_ret, x_exit, x_skip, e_mov, e_pick, pk_t, pk_f, withH_some, e_box, bx_some, e_load, e_store, stH_some, e_nil, e_bin, e_eqv, eqH_f, eqH_t, e_un, e_fa, e_ia, ia_eq, nat_eq, natV_nat, e_len, lnH_some, e_extract, ex_0, ex_1, e_call0, e_call1, e_call2, e_call3, pc0_eq, pc1_some, pc2_some, pc3_some, fin_some, g_var0, g_vars, g_loc0, g_locs, g_int, g_bool, g_str, g_sl, s_none, s_zero, s_succ, evFa, evNil, evLoad, asEl, evBin, intBin, strBin, evUn, len_nil, len_slc, len_str, clr, List.length_nil, List.length_cons, List.getElem?_cons_zero, List.getElem?_cons_succ, Nat.reduceAdd, Nat.zero_add, Nat.add_zero, Nat.reduceLeDiff, Nat.reduceSub, ↓reduceIte, List.drop_succ_cons, List.drop_zero, List.take_succ_cons, List.take_zero, Bool.false_eq_true, List.nil_append, List.cons_append, Bool.not_true, Bool.not_false, cond_true, cond_false, bne, lv_ret, lv_normal, res1, res2, lv2_some, res_var, res_cell, lvf_v, lvf_slc]

theorem look14_nil (n : Int) : callW F 14 [.v (.slice none 0 0), .v (.int .i64 n)] [] = some (lookA n [], []) := by
  refine callW_pure (c := c14) rfl rfl 1 ?_
  have hw : IntKind.i64.wrap (((0 : Nat) : Int) - 1) = -1 := by rfl
  have hl : ∀ (vars : List AV) (h : List AO), clr K14 vars = L14 (.v (.slice none 0 0)) n (-1) → loopN (exec (callW F) 1 c14_6) K14 1 vars h = some (.exit 0, [.v (.slice none 0 0), .v (.int .i64 n), .ptr 0 0, .junk, .v (.int .i64 (-1)), .v (.bool false), .junk], h) := by
    intro vars h hv
    refine loop_exit (n := 0) ?_
    rw [hv]
    have hge : decide ((-1 : Int) ≥ 0) = false := by simp
    simp only [L14, c14_6, c14_2, hge, run_nil, run_cons, stp_plain, stp_guard, put_some, pass_eq, pick_tt, pick_ff, pick_tf, pick_ft, pick_u, reg_some, thn_normal, thn_exit, thn_ret, cnd_t, cnd_f, blk_normal, blk_ret, blk_exit, x_seq, x_region, x_cond, x_block, x_loop, x_ret, x_exit, x_skip, e_mov, e_pick, pk_t, pk_f, withH_some, e_box, bx_some, e_load, e_store, stH_some, e_nil, e_bin, e_eqv, eqH_f, eqH_t, e_un, e_fa, e_ia, ia_eq, nat_eq, natV_nat, e_len, lnH_some, e_extract, ex_0, ex_1, e_call0, e_call1, e_call2, e_call3, pc0_eq, pc1_some, pc2_some, pc3_some, fin_some, g_var0, g_vars, g_loc0, g_locs, g_int, g_bool, g_str, g_sl, s_none, s_zero, s_succ, evFa, evNil, evLoad, asEl, evBin, intBin, strBin, evUn, len_nil, len_slc, len_str, clr, List.length_nil, List.length_cons, List.getElem?_cons_zero, List.getElem?_cons_succ, Nat.reduceAdd, Nat.zero_add, Nat.add_zero, Nat.reduceLeDiff, Nat.reduceSub, ↓reduceIte, List.drop_succ_cons, List.drop_zero, List.take_succ_cons, List.take_zero, Bool.false_eq_true, List.nil_append, List.cons_append, Bool.not_true, Bool.not_false, cond_true, cond_false, bne, lv_ret, lv_normal, res1, res2, lv2_some, res_var, res_cell, lvf_v, lvf_slc]
  show lv [.cell 2 true 4, .var 3] (exec (callW F) 1 (.seq (.region [] [] c14_0) (.seq (.seq (.region [] [] c14_1) (.block 0 (.loop K14 [] c14_6))) (.seq (.region [] [] c14_7) .ret))) _ _) = _
  simp only [c14, start, List.replicate, c14_0, c14_1, q9z, hw, e_bslice1, e_build, bdH_some, bd_nil, bd_cons, bd1, cl_agg, cl_int, toL, List.map_cons, List.map_nil, putAt, List.set_cons_zero, List.set_cons_succ, and_self, Nat.le_refl, evStore, app_get, app_set, g_agg, run_nil, run_cons, stp_plain, stp_guard, put_some, pass_eq, pick_tt, pick_ff, pick_tf, pick_ft, pick_u, reg_some, thn_normal, thn_exit, thn_ret, cnd_t, cnd_f, blk_normal, blk_ret, blk_exit, x_seq, x_region, x_cond, x_block, x_loop, x_ret, x_exit, x_skip, e_mov, e_pick, pk_t, pk_f, withH_some, e_box, bx_some, e_load, e_store, stH_some, e_nil, e_bin, e_eqv, eqH_f, eqH_t, e_un, e_fa, e_ia, ia_eq, nat_eq, natV_nat, e_len, lnH_some, e_extract, ex_0, ex_1, e_call0, e_call1, e_call2, e_call3, pc0_eq, pc1_some, pc2_some, pc3_some, fin_some, g_var0, g_vars, g_loc0, g_locs, g_int, g_bool, g_str, g_sl, s_none, s_zero, s_succ, evFa, evNil, evLoad, asEl, evBin, intBin, strBin, evUn, len_nil, len_slc, len_str, clr, List.length_nil, List.length_cons, List.getElem?_cons_zero, List.getElem?_cons_succ, Nat.reduceAdd, Nat.zero_add, Nat.add_zero, Nat.reduceLeDiff, Nat.reduceSub, ↓reduceIte, List.drop_succ_cons, List.drop_zero, List.take_succ_cons, List.take_zero, Bool.false_eq_true, List.nil_append, List.cons_append, Bool.not_true, Bool.not_false, cond_true, cond_false, bne, lv_ret, lv_normal, res1, res2, lv2_some, res_var, res_cell, lvf_v, lvf_slc]
  rw [hl _ _ (by rfl)]
  have lvt : ∀ (h : List AO) (a b c d e : Value), lvf h (.tup [.agg [.v a, .v b, .v c, .v d], .v e]) = some (.tup [.agg [.v a, .v b, .v c, .v d], .v e], []) := fun _ _ _ _ _ _ => rfl
  simp only [c14_7, lvt, e_bslice1, e_build, bdH_some, bd_nil, bd_cons, bd1, cl_agg, cl_int, toL, List.map_cons, List.map_nil, putAt, List.set_cons_zero, List.set_cons_succ, and_self, Nat.le_refl, evStore, app_get, app_set, g_agg, run_nil, run_cons, stp_plain, stp_guard, put_some, pass_eq, pick_tt, pick_ff, pick_tf, pick_ft, pick_u, reg_some, thn_normal, thn_exit, thn_ret, cnd_t, cnd_f, blk_normal, blk_ret, blk_exit, x_seq, x_region, x_cond, x_block, x_loop, x_ret, x_exit, x_skip, e_mov, e_pick, pk_t, pk_f, withH_some, e_box, bx_some, e_load, e_store, stH_some, e_nil, e_bin, e_eqv, eqH_f, eqH_t, e_un, e_fa, e_ia, ia_eq, nat_eq, natV_nat, e_len, lnH_some, e_extract, ex_0, ex_1, e_call0, e_call1, e_call2, e_call3, pc0_eq, pc1_some, pc2_some, pc3_some, fin_some, g_var0, g_vars, g_loc0, g_locs, g_int, g_bool, g_str, g_sl, s_none, s_zero, s_succ, evFa, evNil, evLoad, asEl, evBin, intBin, strBin, evUn, len_nil, len_slc, len_str, clr, List.length_nil, List.length_cons, List.getElem?_cons_zero, List.getElem?_cons_succ, Nat.reduceAdd, Nat.zero_add, Nat.add_zero, Nat.reduceLeDiff, Nat.reduceSub, ↓reduceIte, List.drop_succ_cons, List.drop_zero, List.take_succ_cons, List.take_zero, Bool.false_eq_true, List.nil_append, List.cons_append, Bool.not_true, Bool.not_false, cond_true, cond_false, bne, lv_ret, lv_normal, res1, res2, lv2_some, res_var, res_cell, lvf_v, lvf_slc]
  rfl
/-- both Looks, of any slice of bindings -/
theorem looks {b : AV} {bs : List (Int × Tm)} (hb : IsB b bs) (hl : bs.length ≤ 100000) : ∃ es, AllB es bs ∧ (∀ n, callW F 13 [b, .v (.int .i64 n)] [] = some (lookA n es.reverse, [])) ∧ (∀ n, callW F 14 [b, .v (.int .i64 n)] [] = some (lookA n es.reverse, [])) := by
  cases hb with
  | nil => exact ⟨[], .nil, look_call_nil, look14_nil⟩
  | slc ex nn es _ hes hm => exact ⟨es, hes, look_call hes (by have := hes.length; omega) ex nn, look14_ok hes hm⟩
end Go.AE.Ytpgoibncgekflaa
