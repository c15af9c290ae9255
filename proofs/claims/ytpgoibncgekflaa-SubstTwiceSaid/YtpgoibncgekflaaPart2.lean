/- Texts of this claim, put together. -/
import Derived.Test.YtpgoibncgekflaaPart1
import Derived.Test.YtpgoibncgekflaaEval2
/-! The document's Look. -/
section
set_option linter.unusedVariables false
set_option linter.unusedSimpArgs false
namespace Go.AE.Ytpgoibncgekflaa
open Go Go.AE Go.Proofs.Ytpgoibncgekflaa

def zeroC : List AV := [.v (.int .i64 0), .v (.string ⟨#[]⟩), .v (.int .i64 0), .v (.slice none 0 0)]
theorem look14_step {K : Nat} {ex nn : Bool} {es : List AV} {i : Nat} {e : AV} {v : Int} {t : Tm} {n : Int} {j : AV} (he : es[i]? = some e) (hb : IsBd e v t) :
    exec (callW F) K c14_6 [.slc 5 ex nn es, .v (.int .i64 n), .ptr 0 0, .junk, .v (.int .i64 i), .junk, .junk] [.box zeroC] = if v = n then
        some (.ret, [.slc 5 ex nn es, .v (.int .i64 n), .ptr 0 0, .v (.bool true), .v (.int .i64 i), .v (.bool true), .v (.bool true)], [.box (e.cells.drop 1)])
      else some (.normal, [.slc 5 ex nn es, .v (.int .i64 n), .ptr 0 0, .junk, .v (.int .i64 (IntKind.i64.wrap (i - 1))), .v (.bool true), .v (.bool false)], [.box zeroC]) := by
  have hge : (decide ((i : Int) ≥ 0)) = true := by simp
  have q1 : ∀ h, iaV h 5 (.slc 5 ex nn es) (some i) = some (.ip e.cells) := fun h => iaV_slc he
  cases hb with
  | mk v cs t ht =>
  cases ht with
  | mk k s n2 c l hc =>
  by_cases hv : v = n
  · have h1 : (v == n) = true := by simpa using hv
    rw [if_pos hv]
    simp only [zeroC, c14_6, c14_2, c14_3, c14_4, hge, q1, h1, AV.cells, e_bslice1, e_build, bdH_some, bd_nil, bd_cons, bd1, cl_agg, cl_int, toL, List.map_cons, List.map_nil, putAt, List.set_cons_zero, List.set_cons_succ, and_self, Nat.le_refl, evStore, app_get, app_set, g_agg, run_nil, run_cons, stp_plain, stp_guard, put_some, pass_eq, pick_tt, pick_ff, pick_tf, pick_ft, pick_u, reg_some, thn_normal, thn_exit, thn_ret, cnd_t, cnd_f, blk_normal, blk_ret, blk_exit, x_seq, x_region, x_cond, x_block, x_loop, x_ret, x_exit, x_skip, e_mov, e_pick, pk_t, pk_f, withH_some, e_box, bx_some, e_load, e_store, stH_some, e_nil, e_bin, e_eqv, eqH_f, eqH_t, e_un, e_fa, e_ia, ia_eq, nat_eq, natV_nat, e_len, lnH_some, e_extract, ex_0, ex_1, e_call0, e_call1, e_call2, e_call3, pc0_eq, pc1_some, pc2_some, pc3_some, fin_some, g_var0, g_vars, g_loc0, g_locs, g_int, g_bool, g_str, g_sl, s_none, s_zero, s_succ, evFa, evNil, evLoad, asEl, evBin, intBin, strBin, evUn, len_nil, len_slc, len_str, clr, List.length_nil, List.length_cons, List.getElem?_cons_zero, List.getElem?_cons_succ, Nat.reduceAdd, Nat.zero_add, Nat.add_zero, Nat.reduceLeDiff, Nat.reduceSub, ↓reduceIte, List.drop_succ_cons, List.drop_zero, List.take_succ_cons, List.take_zero, Bool.false_eq_true, List.nil_append, List.cons_append, Bool.not_true, Bool.not_false, cond_true, cond_false, bne, lv_ret, lv_normal, res1, res2, lv2_some, res_var, res_cell, lvf_v, lvf_slc]
  · have h1 : (v == n) = false := by simpa using hv
    rw [if_neg hv]
    simp only [zeroC, c14_6, c14_2, c14_3, c14_5, hge, q1, h1, AV.cells, e_bslice1, e_build, bdH_some, bd_nil, bd_cons, bd1, cl_agg, cl_int, toL, List.map_cons, List.map_nil, putAt, List.set_cons_zero, List.set_cons_succ, and_self, Nat.le_refl, evStore, app_get, app_set, g_agg, run_nil, run_cons, stp_plain, stp_guard, put_some, pass_eq, pick_tt, pick_ff, pick_tf, pick_ft, pick_u, reg_some, thn_normal, thn_exit, thn_ret, cnd_t, cnd_f, blk_normal, blk_ret, blk_exit, x_seq, x_region, x_cond, x_block, x_loop, x_ret, x_exit, x_skip, e_mov, e_pick, pk_t, pk_f, withH_some, e_box, bx_some, e_load, e_store, stH_some, e_nil, e_bin, e_eqv, eqH_f, eqH_t, e_un, e_fa, e_ia, ia_eq, nat_eq, natV_nat, e_len, lnH_some, e_extract, ex_0, ex_1, e_call0, e_call1, e_call2, e_call3, pc0_eq, pc1_some, pc2_some, pc3_some, fin_some, g_var0, g_vars, g_loc0, g_locs, g_int, g_bool, g_str, g_sl, s_none, s_zero, s_succ, evFa, evNil, evLoad, asEl, evBin, intBin, strBin, evUn, len_nil, len_slc, len_str, clr, List.length_nil, List.length_cons, List.getElem?_cons_zero, List.getElem?_cons_succ, Nat.reduceAdd, Nat.zero_add, Nat.add_zero, Nat.reduceLeDiff, Nat.reduceSub, ↓reduceIte, List.drop_succ_cons, List.drop_zero, List.take_succ_cons, List.take_zero, Bool.false_eq_true, List.nil_append, List.cons_append, Bool.not_true, Bool.not_false, cond_true, cond_false, bne, lv_ret, lv_normal, res1, res2, lv2_some, res_var, res_cell, lvf_v, lvf_slc]

theorem AllB.get : ∀ {es : List AV} {l : List (Int × Tm)}, AllB es l → ∀ {i : Nat} {e : AV}, es[i]? = some e → ∃ v t, l[i]? = some (v, t) ∧ IsBd e v t
  | _, _, .nil, i, e, h => by simp at h
  | _, _, .cons a v t es ts h hs, i, e, he => by
    cases i with
    | zero => simp at he; subst he; exact ⟨v, t, rfl, h⟩
    | succ i => exact hs.get (by simpa using he)

def K14 : List Bool := [true, true, true, false, true, false, false]
def L14 (b : AV) (n i : Int) : List AV := [b, .v (.int .i64 n), .ptr 0 0, .junk, .v (.int .i64 i), .junk, .junk]

theorem look14_loop {K : Nat} {ex nn : Bool} {es : List AV} {bs : List (Int × Tm)} (hes : AllB es bs) (hm : es.length ≤ maxLen) (n : Int) :
    ∀ (m : Nat), m ≤ es.length → ∀ (vars : List AV), clr K14 vars = L14 (.slc 5 ex nn es) n ((m : Int) - 1) →
      (∃ vs cs, loopN (exec (callW F) K c14_6) K14 (m + 1) vars [.box zeroC] = some (.ret, vs, [.box cs]) ∧ getO vs [] (.var 2) = .ptr 0 0 ∧ getO vs [] (.var 3) = .v (.bool true) ∧ lookA n (es.take m).reverse = .tup [.agg cs, .v (.bool true)] ∧ cs.length = 4) ∨
      (loopN (exec (callW F) K c14_6) K14 (m + 1) vars [.box zeroC] = some (.exit 0, [.slc 5 ex nn es, .v (.int .i64 n), .ptr 0 0, .junk, .v (.int .i64 (-1)), .v (.bool false), .junk], [.box zeroC]) ∧ lookA n (es.take m).reverse = .tup [.agg zeroC, .v (.bool false)]) := by
  intro m
  induction m with
  | zero =>
    intro _ vars hv
    right
    refine ⟨loop_exit ?_, rfl⟩
    rw [hv]
    have hge : decide ((-1 : Int) ≥ 0) = false := by simp
    have h0 : ((0 : Nat) : Int) - 1 = -1 := rfl
    simp only [L14, c14_6, c14_2, h0, hge, run_nil, run_cons, stp_plain, stp_guard, put_some, pass_eq, pick_tt, pick_ff, pick_tf, pick_ft, pick_u, reg_some, thn_normal, thn_exit, thn_ret, cnd_t, cnd_f, blk_normal, blk_ret, blk_exit, x_seq, x_region, x_cond, x_block, x_loop, x_ret, x_exit, x_skip, e_mov, e_pick, pk_t, pk_f, withH_some, e_box, bx_some, e_load, e_store, stH_some, e_nil, e_bin, e_eqv, eqH_f, eqH_t, e_un, e_fa, e_ia, ia_eq, nat_eq, natV_nat, e_len, lnH_some, e_extract, ex_0, ex_1, e_call0, e_call1, e_call2, e_call3, pc0_eq, pc1_some, pc2_some, pc3_some, fin_some, g_var0, g_vars, g_loc0, g_locs, g_int, g_bool, g_str, g_sl, s_none, s_zero, s_succ, evFa, evNil, evLoad, asEl, evBin, intBin, strBin, evUn, len_nil, len_slc, len_str, clr, List.length_nil, List.length_cons, List.getElem?_cons_zero, List.getElem?_cons_succ, Nat.reduceAdd, Nat.zero_add, Nat.add_zero, Nat.reduceLeDiff, Nat.reduceSub, ↓reduceIte, List.drop_succ_cons, List.drop_zero, List.take_succ_cons, List.take_zero, Bool.false_eq_true, List.nil_append, List.cons_append, Bool.not_true, Bool.not_false, cond_true, cond_false, bne, lv_ret, lv_normal, res1, res2, lv2_some, res_var, res_cell, lvf_v, lvf_slc]
  | succ m ih =>
    intro hle vars hv
    obtain ⟨e, he⟩ : ∃ e, es[m]? = some e := ⟨_, List.getElem?_eq_getElem (by omega)⟩
    obtain ⟨v, t, _, hT⟩ := hes.get he
    have st := look14_step (K := K) (ex := ex) (nn := nn) (n := n) (j := .junk) he hT
    have htk : (es.take (m + 1)).reverse = e :: (es.take m).reverse := by
      rw [List.take_add_one, he]; simp
    have e1 : ((m + 1 : Nat) : Int) - 1 = (m : Int) := by omega
    rw [e1] at hv
    by_cases hvn : v = n
    · left
      rw [if_pos hvn] at st
      refine ⟨_, _, loop_ret (by rw [hv]; exact st), rfl, rfl, ?_, ?_⟩
      · rw [htk]
        cases hT with
        | mk v cs t ht => simp [lookA, AV.cells, hvn]
      · cases hT with
        | mk v cs t ht => cases ht with | mk k s n2 c l hc => rfl
    · rw [if_neg hvn] at st
      have hw : IntKind.i64.wrap ((m : Int) - 1) = (m : Int) - 1 := by
        rw [IntWalk.i64_in]
        have : maxLen = 9223372036854775807 := rfl
        omega
      rw [hw] at st
      have hlk : lookA n (es.take (m + 1)).reverse = lookA n (es.take m).reverse := by
        rw [htk]
        cases hT with
        | mk v cs t ht => simp [lookA, hvn]
      rw [hlk, loop_normal (by rw [hv]; exact st)]
      exact ih (by omega) _ rfl

theorem q9z : (ofVal (.agg #[(.int .i64 0), (.string ⟨#[]⟩), (.int .i64 0), (.slice none 0 0)])).cl = some [.v (.int .i64 0), .v (.string ⟨#[]⟩), .v (.int .i64 0), .v (.slice none 0 0)] := by simp [ofVal, AV.cl, Value.oneCell']

theorem look14_ok {ex nn : Bool} {es : List AV} {bs : List (Int × Tm)} (hes : AllB es bs) (hm : es.length ≤ maxLen) (n : Int) : callW F 14 [.slc 5 ex nn es, .v (.int .i64 n)] [] = some (lookA n es.reverse, []) := by
  obtain ⟨cs0, u0, f0, hlf, hu0⟩ := look_form n hes.reverse
  refine callW_pure (c := c14) rfl rfl (es.length + 1) ?_
  have hw : IntKind.i64.wrap ((es.length : Int) - 1) = (es.length : Int) - 1 := by
    rw [IntWalk.i64_in]
    have : maxLen = 9223372036854775807 := rfl
    omega
  have body : exec (callW F) (es.length + 1) c14.body (start c14 [.slc 5 ex nn es, .v (.int .i64 n)]) [] = thn (callW F) (es.length + 1) (.seq (.region [] [] c14_7) .ret) (blk 0 (loopN (exec (callW F) (es.length + 1) c14_6) K14 (es.length + 1) (L14 (.slc 5 ex nn es) n ((es.length : Int) - 1)) [.box zeroC])) := by
    show exec (callW F) (es.length + 1) (.seq (.region [] [] c14_0) (.seq (.seq (.region [] [] c14_1) (.block 0 (.loop K14 [] c14_6))) (.seq (.region [] [] c14_7) .ret))) _ _ = _
    generalize (CC.seq (.region [] [] c14_7) .ret) = rest
    simp only [c14, start, zeroC, List.replicate, c14_0, c14_1, q9z, hw, e_bslice1, e_build, bdH_some, bd_nil, bd_cons, bd1, cl_agg, cl_int, toL, List.map_cons, List.map_nil, putAt, List.set_cons_zero, List.set_cons_succ, and_self, Nat.le_refl, evStore, app_get, app_set, g_agg, run_nil, run_cons, stp_plain, stp_guard, put_some, pass_eq, pick_tt, pick_ff, pick_tf, pick_ft, pick_u, reg_some, thn_normal, thn_exit, thn_ret, cnd_t, cnd_f, blk_normal, blk_ret, blk_exit, x_seq, x_region, x_cond, x_block, x_loop, x_ret, x_exit, x_skip, e_mov, e_pick, pk_t, pk_f, withH_some, e_box, bx_some, e_load, e_store, stH_some, e_nil, e_bin, e_eqv, eqH_f, eqH_t, e_un, e_fa, e_ia, ia_eq, nat_eq, natV_nat, e_len, lnH_some, e_extract, ex_0, ex_1, e_call0, e_call1, e_call2, e_call3, pc0_eq, pc1_some, pc2_some, pc3_some, fin_some, g_var0, g_vars, g_loc0, g_locs, g_int, g_bool, g_str, g_sl, s_none, s_zero, s_succ, evFa, evNil, evLoad, asEl, evBin, intBin, strBin, evUn, len_nil, len_slc, len_str, clr, List.length_nil, List.length_cons, List.getElem?_cons_zero, List.getElem?_cons_succ, Nat.reduceAdd, Nat.zero_add, Nat.add_zero, Nat.reduceLeDiff, Nat.reduceSub, ↓reduceIte, List.drop_succ_cons, List.drop_zero, List.take_succ_cons, List.take_zero, Bool.false_eq_true, List.nil_append, List.cons_append, Bool.not_true, Bool.not_false, cond_true, cond_false, bne, lv_ret, lv_normal, res1, res2, lv2_some, res_var, res_cell, lvf_v, lvf_slc]
    rw [loop_cong (v2 := L14 (.slc 5 ex nn es) n ((es.length : Int) - 1)) (by rfl)]
  rw [body]
  have hres : c14.res = [.cell 2 true 4, .var 3] := rfl
  have key := look14_loop (K := es.length + 1) (ex := ex) (nn := nn) hes hm n es.length (Nat.le_refl _) (L14 (.slc 5 ex nn es) n ((es.length : Int) - 1)) rfl
  rw [List.take_length] at key
  rcases key with ⟨vs, cs, h1, h2, h3, h4, h5⟩ | ⟨h1, h2⟩
  · rw [h1, h4]
    have hcs : cs0 = cs := by rw [hlf] at h4; cases h4; rfl
    subst hcs
    cases hu0 with
    | mk k s n2 c l hc =>
    have lvt : ∀ (h : List AO) (b : Value), lvf h (.tup [.agg [.v (.int .i64 k), .v (.string s), .v (.int .i64 n2), c], .v b]) = some (.tup [.agg [.v (.int .i64 k), .v (.string s), .v (.int .i64 n2), c], .v b], []) := by
      intro h b; cases hc <;> rfl
    simp only [hres, h2, h3, lvt, run_nil, run_cons, stp_plain, stp_guard, put_some, pass_eq, pick_tt, pick_ff, pick_tf, pick_ft, pick_u, reg_some, thn_normal, thn_exit, thn_ret, cnd_t, cnd_f, blk_normal, blk_ret, blk_exit, x_seq, x_region, x_cond, x_block, x_loop, x_ret, x_exit, x_skip, e_mov, e_pick, pk_t, pk_f, withH_some, e_box, bx_some, e_load, e_store, stH_some, e_nil, e_bin, e_eqv, eqH_f, eqH_t, e_un, e_fa, e_ia, ia_eq, nat_eq, natV_nat, e_len, lnH_some, e_extract, ex_0, ex_1, e_call0, e_call1, e_call2, e_call3, pc0_eq, pc1_some, pc2_some, pc3_some, fin_some, g_var0, g_vars, g_loc0, g_locs, g_int, g_bool, g_str, g_sl, s_none, s_zero, s_succ, AV.cl, evFa, evNil, evLoad, asEl, evBin, intBin, strBin, evUn, len_nil, len_slc, len_str, clr, List.length_nil, List.length_cons, List.getElem?_cons_zero, List.getElem?_cons_succ, Nat.reduceAdd, Nat.zero_add, Nat.add_zero, Nat.reduceLeDiff, Nat.reduceSub, ↓reduceIte, List.drop_succ_cons, List.drop_zero, List.take_succ_cons, List.take_zero, Bool.false_eq_true, List.nil_append, List.cons_append, Bool.not_true, Bool.not_false, cond_true, cond_false, bne, lv_ret, lv_normal, res1, res2, lv2_some, res_var, res_cell, lvf_v, lvf_slc]
  · rw [h1, h2]
    have lvt : ∀ (h : List AO) (a b c d e : Value), lvf h (.tup [.agg [.v a, .v b, .v c, .v d], .v e]) = some (.tup [.agg [.v a, .v b, .v c, .v d], .v e], []) := fun _ _ _ _ _ _ => rfl
    simp only [hres, zeroC, c14_7, lvt, e_bslice1, e_build, bdH_some, bd_nil, bd_cons, bd1, cl_agg, cl_int, toL, List.map_cons, List.map_nil, putAt, List.set_cons_zero, List.set_cons_succ, and_self, Nat.le_refl, evStore, app_get, app_set, g_agg, run_nil, run_cons, stp_plain, stp_guard, put_some, pass_eq, pick_tt, pick_ff, pick_tf, pick_ft, pick_u, reg_some, thn_normal, thn_exit, thn_ret, cnd_t, cnd_f, blk_normal, blk_ret, blk_exit, x_seq, x_region, x_cond, x_block, x_loop, x_ret, x_exit, x_skip, e_mov, e_pick, pk_t, pk_f, withH_some, e_box, bx_some, e_load, e_store, stH_some, e_nil, e_bin, e_eqv, eqH_f, eqH_t, e_un, e_fa, e_ia, ia_eq, nat_eq, natV_nat, e_len, lnH_some, e_extract, ex_0, ex_1, e_call0, e_call1, e_call2, e_call3, pc0_eq, pc1_some, pc2_some, pc3_some, fin_some, g_var0, g_vars, g_loc0, g_locs, g_int, g_bool, g_str, g_sl, s_none, s_zero, s_succ, evFa, evNil, evLoad, asEl, evBin, intBin, strBin, evUn, len_nil, len_slc, len_str, clr, List.length_nil, List.length_cons, List.getElem?_cons_zero, List.getElem?_cons_succ, Nat.reduceAdd, Nat.zero_add, Nat.add_zero, Nat.reduceLeDiff, Nat.reduceSub, ↓reduceIte, List.drop_succ_cons, List.drop_zero, List.take_succ_cons, List.take_zero, Bool.false_eq_true, List.nil_append, List.cons_append, Bool.not_true, Bool.not_false, cond_true, cond_false, bne, lv_ret, lv_normal, res1, res2, lv2_some, res_var, res_cell, lvf_v, lvf_slc]

theorem look14_nil (n : Int) : callW F 14 [.v (.slice none 0 0), .v (.int .i64 n)] [] = some (lookA n [], []) := by
  refine callW_pure (c := c14) rfl rfl 1 ?_
  have hw : IntKind.i64.wrap (((0 : Nat) : Int) - 1) = -1 := by rfl
  have hl : ∀ (vars : List AV) (h : List AO), clr K14 vars = L14 (.v (.slice none 0 0)) n (-1) → loopN (exec (callW F) 1 c14_6) K14 1 vars h = some (.exit 0, [.v (.slice none 0 0), .v (.int .i64 n), .ptr 0 0, .junk, .v (.int .i64 (-1)), .v (.bool false), .junk], h) := by
    intro vars h hv
    refine loop_exit (n := 0) ?_
    rw [hv]
    have hge : decide ((-1 : Int) ≥ 0) = false := by simp
    simp only [L14, c14_6, c14_2, hge, run_nil, run_cons, stp_plain, stp_guard, put_some, pass_eq, pick_tt, pick_ff, pick_tf, pick_ft, pick_u, reg_some, thn_normal, thn_exit, thn_ret, cnd_t, cnd_f, blk_normal, blk_ret, blk_exit, x_seq, x_region, x_cond, x_block, x_loop, x_ret, x_exit, x_skip, e_mov, e_pick, pk_t, pk_f, withH_some, e_box, bx_some, e_load, e_store, stH_some, e_nil, e_bin, e_eqv, eqH_f, eqH_t, e_un, e_fa, e_ia, ia_eq, nat_eq, natV_nat, e_len, lnH_some, e_extract, ex_0, ex_1, e_call0, e_call1, e_call2, e_call3, pc0_eq, pc1_some, pc2_some, pc3_some, fin_some, g_var0, g_vars, g_loc0, g_locs, g_int, g_bool, g_str, g_sl, s_none, s_zero, s_succ, evFa, evNil, evLoad, asEl, evBin, intBin, strBin, evUn, len_nil, len_slc, len_str, clr, List.length_nil, List.length_cons, List.getElem?_cons_zero, List.getElem?_cons_succ, Nat.reduceAdd, Nat.zero_add, Nat.add_zero, Nat.reduceLeDiff, Nat.reduceSub, ↓reduceIte, List.drop_succ_cons, List.drop_zero, List.take_succ_cons, List.take_zero, Bool.false_eq_true, List.nil_append, List.cons_append, Bool.not_true, Bool.not_false, cond_true, cond_false, bne, lv_ret, lv_normal, res1, res2, lv2_some, res_var, res_cell, lvf_v, lvf_slc]
  show lv [.cell 2 true 4, .var 3] (exec (callW F) 1 (.seq (.region [] [] c14_0) (.seq (.seq (.region [] [] c14_1) (.block 0 (.loop K14 [] c14_6))) (.seq (.region [] [] c14_7) .ret))) _ _) = _
  simp only [c14, start, List.replicate, c14_0, c14_1, q9z, hw, e_bslice1, e_build, bdH_some, bd_nil, bd_cons, bd1, cl_agg, cl_int, toL, List.map_cons, List.map_nil, putAt, List.set_cons_zero, List.set_cons_succ, and_self, Nat.le_refl, evStore, app_get, app_set, g_agg, run_nil, run_cons, stp_plain, stp_guard, put_some, pass_eq, pick_tt, pick_ff, pick_tf, pick_ft, pick_u, reg_some, thn_normal, thn_exit, thn_ret, cnd_t, cnd_f, blk_normal, blk_ret, blk_exit, x_seq, x_region, x_cond, x_block, x_loop, x_ret, x_exit, x_skip, e_mov, e_pick, pk_t, pk_f, withH_some, e_box, bx_some, e_load, e_store, stH_some, e_nil, e_bin, e_eqv, eqH_f, eqH_t, e_un, e_fa, e_ia, ia_eq, nat_eq, natV_nat, e_len, lnH_some, e_extract, ex_0, ex_1, e_call0, e_call1, e_call2, e_call3, pc0_eq, pc1_some, pc2_some, pc3_some, fin_some, g_var0, g_vars, g_loc0, g_locs, g_int, g_bool, g_str, g_sl, s_none, s_zero, s_succ, evFa, evNil, evLoad, asEl, evBin, intBin, strBin, evUn, len_nil, len_slc, len_str, clr, List.length_nil, List.length_cons, List.getElem?_cons_zero, List.getElem?_cons_succ, Nat.reduceAdd, Nat.zero_add, Nat.add_zero, Nat.reduceLeDiff, Nat.reduceSub, ↓reduceIte, List.drop_succ_cons, List.drop_zero, List.take_succ_cons, List.take_zero, Bool.false_eq_true, List.nil_append, List.cons_append, Bool.not_true, Bool.not_false, cond_true, cond_false, bne, lv_ret, lv_normal, res1, res2, lv2_some, res_var, res_cell, lvf_v, lvf_slc]
  rw [hl _ _ (by rfl)]
  have lvt : ∀ (h : List AO) (a b c d e : Value), lvf h (.tup [.agg [.v a, .v b, .v c, .v d], .v e]) = some (.tup [.agg [.v a, .v b, .v c, .v d], .v e], []) := fun _ _ _ _ _ _ => rfl
  simp only [c14_7, lvt, e_bslice1, e_build, bdH_some, bd_nil, bd_cons, bd1, cl_agg, cl_int, toL, List.map_cons, List.map_nil, putAt, List.set_cons_zero, List.set_cons_succ, and_self, Nat.le_refl, evStore, app_get, app_set, g_agg, run_nil, run_cons, stp_plain, stp_guard, put_some, pass_eq, pick_tt, pick_ff, pick_tf, pick_ft, pick_u, reg_some, thn_normal, thn_exit, thn_ret, cnd_t, cnd_f, blk_normal, blk_ret, blk_exit, x_seq, x_region, x_cond, x_block, x_loop, x_ret, x_exit, x_skip, e_mov, e_pick, pk_t, pk_f, withH_some, e_box, bx_some, e_load, e_store, stH_some, e_nil, e_bin, e_eqv, eqH_f, eqH_t, e_un, e_fa, e_ia, ia_eq, nat_eq, natV_nat, e_len, lnH_some, e_extract, ex_0, ex_1, e_call0, e_call1, e_call2, e_call3, pc0_eq, pc1_some, pc2_some, pc3_some, fin_some, g_var0, g_vars, g_loc0, g_locs, g_int, g_bool, g_str, g_sl, s_none, s_zero, s_succ, evFa, evNil, evLoad, asEl, evBin, intBin, strBin, evUn, len_nil, len_slc, len_str, clr, List.length_nil, List.length_cons, List.getElem?_cons_zero, List.getElem?_cons_succ, Nat.reduceAdd, Nat.zero_add, Nat.add_zero, Nat.reduceLeDiff, Nat.reduceSub, ↓reduceIte, List.drop_succ_cons, List.drop_zero, List.take_succ_cons, List.take_zero, Bool.false_eq_true, List.nil_append, List.cons_append, Bool.not_true, Bool.not_false, cond_true, cond_false, bne, lv_ret, lv_normal, res1, res2, lv2_some, res_var, res_cell, lvf_v, lvf_slc]
  rfl
/-- both Looks, of any slice of bindings -/
theorem looks {b : AV} {bs : List (Int × Tm)} (hb : IsB b bs) (hl : bs.length ≤ 100000) : ∃ es, AllB es bs ∧ (∀ n, callW F 13 [b, .v (.int .i64 n)] [] = some (lookA n es.reverse, [])) ∧ (∀ n, callW F 14 [b, .v (.int .i64 n)] [] = some (lookA n es.reverse, [])) := by
  cases hb with
  | nil => exact ⟨[], .nil, look_call_nil, look14_nil⟩
  | slc ex nn es _ hes hm => exact ⟨es, hes, look_call hes (by have := hes.length; omega) ex nn, look14_ok hes hm⟩
end Go.AE.Ytpgoibncgekflaa
end

/-! Follow, and the document's Walk: both follow bindings as `walkT` tells. -/
section
set_option linter.unusedVariables false
set_option linter.unusedSimpArgs false
namespace Go.AE.Ytpgoibncgekflaa
open Go Go.AE Go.Proofs.Ytpgoibncgekflaa

def lookT : List (Int × Tm) → Int → Option Tm
  | [], _ => none
  | (v, t) :: r, n => if v = n then some t else lookT r n
/-- what a term is bound to -/
def bound (rs : List (Int × Tm)) : Tm → Option Tm
  | .mk k _ n _ => if k = 1 then lookT rs n else none
/-- a term's bindings followed: where it ends, the error, the steps that are left -/
def walkT (rs : List (Int × Tm)) : Nat → Tm → Tm × Int × Nat
  | 0, t => match bound rs t with
    | some _ => (zeroT, 140, 0)
    | none => (t, 0, 0)
  | left + 1, t => match bound rs t with
    | some t' => walkT rs left t'
    | none => (t, 0, left + 1)

theorem isT_zero : IsT (.agg zeroC) zeroT := .mk 0 _ 0 _ [] .nil
theorem look_rel (n : Int) : ∀ {es : List AV} {bs : List (Int × Tm)}, AllB es bs → (lookT bs n = none ∧ lookA n es = .tup [.agg zeroC, .v (.bool false)]) ∨ ∃ t cs, lookT bs n = some t ∧ lookA n es = .tup [.agg cs, .v (.bool true)] ∧ IsT (.agg cs) t
  | _, _, .nil => .inl ⟨rfl, rfl⟩
  | _, _, .cons a v t es ts h hs => by
    cases h with
    | mk v cs t ht =>
      by_cases hv : v = n
      · exact .inr ⟨t, cs, by simp [lookT, hv], by simp [lookA, hv], ht⟩
      · rcases look_rel n hs with ⟨h1, h2⟩ | ⟨t', cs', h1, h2, h3⟩
        · exact .inl ⟨by simp [lookT, hv, h1], by simp [lookA, hv, h2]⟩
        · exact .inr ⟨t', cs', by simp [lookT, hv, h1], by simp [lookA, hv, h2], h3⟩

theorem IsT.bel {a : AV} {t : Tm} (ht : IsT a t) : AO.below 0 (.box a.cells) = true := by
  cases ht with
  | mk k s n c l hc => cases hc <;> rfl
theorem IsT.frz {a : AV} {t : Tm} (ht : IsT a t) (B : Nat) (h : List AO) : a.frz1 B h = some a := by
  cases ht with
  | mk k s n c l hc => cases hc <;> rfl
theorem lvt {a : AV} {t : Tm} (ht : IsT a t) (h : List AO) (x : Value) : lvf h (.tup [a, .v x]) = some (.tup [a, .v x], []) := by
  cases ht with
  | mk k s n c l hc => cases hc <;> rfl
theorem lv1 {a : AV} {t : Tm} (ht : IsT a t) (h : List AO) : lvf h a = some (a, []) := by
  cases ht with
  | mk k s n c l hc => cases hc <;> rfl

/-- a counter in a variable of the caller's -/
structure Ctr (h : List AO) (id off : Nat) (ms : List AV) : Prop where
  lt : id < h.length
  le : off + 1 ≤ ms.length
  bel : h.all (AO.below h.length) = true
  mb : ms.all (AV.below1 h.length) = true

def ctr (h : List AO) (id off : Nat) (ms : List AV) (m : Int) : List AO := h.set id (.box (ms.set off (.v (.int .i64 m))))
section
variable {h : List AO} {id off : Nat} {ms : List AV} {m : Int} {l : List AO}
theorem ctr_len : (ctr h id off ms m).length = h.length := by simp [ctr]
theorem Ctr.load (c : Ctr h id off ms) (m : Int) (l : List AO) : evLoad (ctr h id off ms m ++ l) false 1 (.ptr id off) = some (.v (.int .i64 m)) := by
  have h1 : (ctr h id off ms m ++ l)[id]? = some (.box (ms.set off (.v (.int .i64 m)))) := his_get (set_get c.lt)
  have hlt : off < ms.length := by have := c.le; omega
  have h2 : ((ms.set off (.v (.int .i64 m))).drop off).take 1 = [.v (.int .i64 m)] := by
    rw [List.drop_eq_getElem_cons (by simpa using hlt)]
    simp
  have h3 : off + 1 ≤ (ms.set off (AV.v (.int .i64 m))).length := by simpa using c.le
  simp only [evLoad, h1, if_pos h3, h2, asEl, Bool.false_eq_true, if_false]
theorem Ctr.store (c : Ctr h id off ms) (m n : Int) (l : List AO) : evStore (ctr h id off ms m ++ l) 1 (.ptr id off) (.v (.int .i64 n)) = some (ctr h id off ms n ++ l) := by
  have h1 : (ctr h id off ms m ++ l)[id]? = some (.box (ms.set off (.v (.int .i64 m)))) := his_get (set_get c.lt)
  have h3 : off + 1 ≤ (ms.set off (AV.v (.int .i64 m))).length := by simpa using c.le
  simp only [evStore, h1, cl_int, List.length_cons, List.length_nil, Nat.zero_add, h3, and_self, if_true, putAt]
  rw [his_set (by rw [ctr_len]; exact c.lt)]
  simp [ctr]
theorem Ctr.all (c : Ctr h id off ms) (m : Int) : (ctr h id off ms m).all (AO.below h.length) = true := by
  simp only [List.all_eq_true]
  intro o ho
  rcases List.mem_or_eq_of_mem_set ho with h1 | h1
  · have := c.bel; simp only [List.all_eq_true] at this; exact this o h1
  · subst h1
    simp only [AO.below, List.all_eq_true]
    intro x hx
    rcases List.mem_or_eq_of_mem_set hx with h2 | h2
    · have := c.mb; simp only [List.all_eq_true] at this; exact this x h2
    · subst h2; rfl
theorem c_ld {a : Bool} {sz k o : Nat} : evLoad (ctr h id off ms m ++ l) a sz (.ptr (h.length + k) o) = ldAt l k a sz o := own_ld ctr_len
theorem c_ld0 {a : Bool} {sz o : Nat} : evLoad (ctr h id off ms m ++ l) a sz (.ptr h.length o) = ldAt l 0 a sz o := own_ld0 ctr_len
theorem c_st {sz k o : Nat} {x : AV} : evStore (ctr h id off ms m ++ l) sz (.ptr (h.length + k) o) x = preH (ctr h id off ms m) (stAt l sz k o x) := own_st ctr_len
theorem c_st0 {sz o : Nat} {x : AV} : evStore (ctr h id off ms m ++ l) sz (.ptr h.length o) x = preH (ctr h id off ms m) (stAt l sz 0 o x) := own_st0 ctr_len
theorem c_bx {cs : List AV} : bx (ctr h id off ms m ++ l) (some cs) = some (.ptr (h.length + l.length) 0, ctr h id off ms m ++ (l ++ [.box cs])) := own_bx ctr_len

def K31f : List Bool := [true, false, true, true, true, false, false, false, false, false, false]
def L31f (b : AV) (B id off : Nat) : List AV := [b, .junk, .ptr id off, .ptr B 0, .ptr (B + 1) 0, .junk, .junk, .junk, .junk, .junk, .junk]

theorem snapv (h : List AO) (x : Int) : (AV.v (.int .i64 x)).snap1 h = some (.v (.int .i64 x)) := rfl
theorem ptrs (a b c d : Nat) (e : c = a + b) : AV.ptr c d = AV.ptr (a + b) d := by rw [e]

theorem follow_loop (c : Ctr h id off ms) {K : Nat} {b : AV} {es : List AV} {rs : List (Int × Tm)} (hes : AllB es rs) (hbs : ∀ h : List AO, b.snap1 h = some b) (hlook : ∀ n, callW F 13 [b, .v (.int .i64 n)] [] = some (lookA n es, [])) :
    ∀ (m : Nat), m ≤ 5000 → ∀ (t : Tm) (cs : List AV), IsT (.agg cs) t → ∀ (tail : List AO) (vars : List AV), clr K31f vars = L31f b h.length id off →
    ∃ rc, IsT (.agg rc) (walkT rs m t).1 ∧
      ((∃ o tl x6 x7 x8 x9 x10, loopN (exec (callW F) K c31_9) K31f (m + 1) vars (ctr h id off ms m ++ (.box cs :: .box zeroC :: tail)) = some (.ret, [b, .junk, .ptr id off, .ptr h.length 0, .ptr (h.length + 1) 0, .v (.int .i64 (walkT rs m t).2.1), x6, x7, x8, x9, x10], ctr h id off ms (walkT rs m t).2.2 ++ (o :: .box rc :: tl))) ∨
       ((walkT rs m t).2.1 = 0 ∧ ∃ tl x6 x7 x8 x9 x10, loopN (exec (callW F) K c31_9) K31f (m + 1) vars (ctr h id off ms m ++ (.box cs :: .box zeroC :: tail)) = some (.exit 0, [b, .junk, .ptr id off, .ptr h.length 0, .ptr (h.length + 1) 0, .junk, x6, x7, x8, x9, x10], ctr h id off ms (walkT rs m t).2.2 ++ (.box rc :: .box zeroC :: tl)))) := by
  have stay : ∀ (m : Nat) (t : Tm), bound rs t = none → walkT rs m t = (t, 0, m) := by
    intro m t hb; cases m <;> simp [walkT, hb]
  have none_case : ∀ (m : Nat) (t : Tm) (cs : List AV), IsT (.agg cs) t → bound rs t = none → ∀ (tail : List AO) (vars : List AV), clr K31f vars = L31f b h.length id off →
      ((∃ o tl x6 x7 x8 x9 x10, loopN (exec (callW F) K c31_9) K31f (m + 1) vars (ctr h id off ms m ++ (.box cs :: .box zeroC :: tail)) = some (.ret, [b, .junk, .ptr id off, .ptr h.length 0, .ptr (h.length + 1) 0, .v (.int .i64 0), x6, x7, x8, x9, x10], ctr h id off ms m ++ (o :: .box cs :: tl))) ∨
       (∃ tl x6 x7 x8 x9 x10, loopN (exec (callW F) K c31_9) K31f (m + 1) vars (ctr h id off ms m ++ (.box cs :: .box zeroC :: tail)) = some (.exit 0, [b, .junk, .ptr id off, .ptr h.length 0, .ptr (h.length + 1) 0, .junk, x6, x7, x8, x9, x10], ctr h id off ms m ++ (.box cs :: .box zeroC :: tl)))) := by
    intro m t cs ht hb tail vars hv
    cases ht with
    | mk k s n c' l' hc =>
    by_cases hk : k = 1
    · left
      have h1 : (k == 1) = true := by simpa using hk
      have hl : lookT rs n = none := by simpa [bound, hk] using hb
      have hla := hlook n
      rcases look_rel n hes with ⟨_, h2⟩ | ⟨t', cs', h2, _⟩
      · rw [h2] at hla
        iterate 7 apply Exists.intro
        apply loop_ret
        rw [hv]
        simp only [L31f, zeroC, c31_9, c31_1, c31_2, c31_3, c31_4, h1, hla, hbs, snapv, q9z, c_ld, c_ld0, c_st, c_st0, c_bx, ldAt, stAt, preH_some, List.append_assoc, e_bslice1, e_bslice2, bs1, bs2, e_build, bdH_some, bd_nil, bd_cons, bd1, cl_agg, cl_int, toL, List.map_cons, List.map_nil, putAt, List.set_cons_zero, List.set_cons_succ, and_self, Nat.le_refl, app_get, app_set, g_agg, run_nil, run_cons, stp_plain, stp_guard, put_some, pass_eq, pick_tt, pick_ff, pick_tf, pick_ft, pick_u, reg_some, thn_normal, thn_exit, thn_ret, cnd_t, cnd_f, blk_normal, blk_ret, blk_exit, x_seq, x_region, x_cond, x_block, x_loop, x_ret, x_exit, x_skip, e_mov, e_pick, pk_t, pk_f, withH_some, e_box, e_load, e_store, stH_some, e_nil, e_bin, e_eqv, eqH_f, eqH_t, e_un, e_fa, e_ia, ia_eq, nat_eq, natV_nat, e_len, lnH_some, e_extract, ex_0, ex_1, e_call0, e_call1, e_call2, e_call3, pc0_eq, pc1_some, pc2_some, pc3_some, fin_some, g_var0, g_vars, g_loc0, g_locs, g_int, g_bool, g_str, g_sl, s_none, s_zero, s_succ, cl_nil, cl_str, cl_bool, cl_slc, cl_own, evFa, evNil, asEl, evBin, intBin, strBin, evUn, len_nil, len_slc, len_str, clr, List.length_nil, List.length_cons, List.getElem?_cons_zero, List.getElem?_cons_succ, Nat.reduceAdd, Nat.zero_add, Nat.add_zero, Nat.reduceLeDiff, Nat.reduceSub, ↓reduceIte, List.drop_succ_cons, List.drop_zero, List.take_succ_cons, List.take_zero, Bool.false_eq_true, List.nil_append, List.cons_append, Bool.not_true, Bool.not_false, cond_true, cond_false, bne, lv_ret, lv_normal, res1, res2, lv2_some, res_var, res_cell, lvf_v, lvf_slc, res1c, lvo1_some]
        rfl
      · rw [hl] at h2; cases h2
    · right
      have h1 : (k == 1) = false := by simpa using hk
      iterate 6 apply Exists.intro
      apply loop_exit
      rw [hv]
      simp only [L31f, zeroC, c31_9, c31_1, h1, c_ld, c_ld0, c_st, c_st0, c_bx, ldAt, stAt, preH_some, List.append_assoc, e_bslice1, e_bslice2, bs1, bs2, e_build, bdH_some, bd_nil, bd_cons, bd1, cl_agg, cl_int, toL, List.map_cons, List.map_nil, putAt, List.set_cons_zero, List.set_cons_succ, and_self, Nat.le_refl, app_get, app_set, g_agg, run_nil, run_cons, stp_plain, stp_guard, put_some, pass_eq, pick_tt, pick_ff, pick_tf, pick_ft, pick_u, reg_some, thn_normal, thn_exit, thn_ret, cnd_t, cnd_f, blk_normal, blk_ret, blk_exit, x_seq, x_region, x_cond, x_block, x_loop, x_ret, x_exit, x_skip, e_mov, e_pick, pk_t, pk_f, withH_some, e_box, e_load, e_store, stH_some, e_nil, e_bin, e_eqv, eqH_f, eqH_t, e_un, e_fa, e_ia, ia_eq, nat_eq, natV_nat, e_len, lnH_some, e_extract, ex_0, ex_1, e_call0, e_call1, e_call2, e_call3, pc0_eq, pc1_some, pc2_some, pc3_some, fin_some, g_var0, g_vars, g_loc0, g_locs, g_int, g_bool, g_str, g_sl, s_none, s_zero, s_succ, cl_nil, cl_str, cl_bool, cl_slc, cl_own, evFa, evNil, asEl, evBin, intBin, strBin, evUn, len_nil, len_slc, len_str, clr, List.length_nil, List.length_cons, List.getElem?_cons_zero, List.getElem?_cons_succ, Nat.reduceAdd, Nat.zero_add, Nat.add_zero, Nat.reduceLeDiff, Nat.reduceSub, ↓reduceIte, List.drop_succ_cons, List.drop_zero, List.take_succ_cons, List.take_zero, Bool.false_eq_true, List.nil_append, List.cons_append, Bool.not_true, Bool.not_false, cond_true, cond_false, bne, lv_ret, lv_normal, res1, res2, lv2_some, res_var, res_cell, lvf_v, lvf_slc, res1c, lvo1_some]
      rfl
  have some_case : ∀ (t : Tm) (cs : List AV), IsT (.agg cs) t → ∀ t', bound rs t = some t' → ∃ s n c cs', cs = [.v (.int .i64 1), .v (.string s), .v (.int .i64 n), c] ∧ IsT (.agg cs') t' ∧ callW F 13 [b, .v (.int .i64 n)] [] = some (.tup [.agg cs', .v (.bool true)], []) := by
    intro t cs ht t' hb
    cases ht with
    | mk k s n c' l' hc =>
    by_cases hk : k = 1
    · subst hk
      rcases look_rel n hes with ⟨h2, _⟩ | ⟨t2, cs', h2, h3, h4⟩
      · simp [bound, h2] at hb
      · simp [bound, h2] at hb
        subst hb
        exact ⟨s, n, c', cs', rfl, h4, by rw [hlook n, h3]⟩
    · simp [bound, hk] at hb
  intro m
  induction m with
  | zero =>
    intro _ t cs ht tail vars hv
    cases hb : bound rs t with
    | none =>
      rw [stay 0 t hb]
      refine ⟨cs, ht, ?_⟩
      rcases none_case 0 t cs ht hb tail vars hv with h1 | h1
      · exact .inl h1
      · exact .inr ⟨rfl, h1⟩
    | some t' =>
      obtain ⟨s, n, c', cs', rfl, ht', hla⟩ := some_case t cs ht t' hb
      cases ht' with
      | mk k2 s2 n2 c2 l2 hc2 =>
      have h0 : (((0 : Nat) : Int) == 0) = true := rfl
      have h1 : ((1 : Int) == 1) = true := rfl
      refine ⟨zeroC, by simpa [walkT, hb] using isT_zero, .inl ?_⟩
      simp only [walkT, hb]
      iterate 7 apply Exists.intro
      apply loop_ret
      rw [hv]
      simp only [L31f, zeroC, c31_9, c31_1, c31_2, c31_3, c31_5, c31_6, h0, h1, hla, hbs, snapv, q9z, c.load, c_ld, c_ld0, c_st, c_st0, c_bx, evNil, ldAt, stAt, preH_some, List.append_assoc, e_bslice1, e_bslice2, bs1, bs2, e_build, bdH_some, bd_nil, bd_cons, bd1, cl_agg, cl_int, toL, List.map_cons, List.map_nil, putAt, List.set_cons_zero, List.set_cons_succ, and_self, Nat.le_refl, app_get, app_set, g_agg, run_nil, run_cons, stp_plain, stp_guard, put_some, pass_eq, pick_tt, pick_ff, pick_tf, pick_ft, pick_u, reg_some, thn_normal, thn_exit, thn_ret, cnd_t, cnd_f, blk_normal, blk_ret, blk_exit, x_seq, x_region, x_cond, x_block, x_loop, x_ret, x_exit, x_skip, e_mov, e_pick, pk_t, pk_f, withH_some, e_box, e_load, e_store, stH_some, e_nil, e_bin, e_eqv, eqH_f, eqH_t, e_un, e_fa, e_ia, ia_eq, nat_eq, natV_nat, e_len, lnH_some, e_extract, ex_0, ex_1, e_call0, e_call1, e_call2, e_call3, pc0_eq, pc1_some, pc2_some, pc3_some, fin_some, g_var0, g_vars, g_loc0, g_locs, g_int, g_bool, g_str, g_sl, s_none, s_zero, s_succ, cl_nil, cl_str, cl_bool, cl_slc, cl_own, evFa, evNil, asEl, evBin, intBin, strBin, evUn, len_nil, len_slc, len_str, clr, List.length_nil, List.length_cons, List.getElem?_cons_zero, List.getElem?_cons_succ, Nat.reduceAdd, Nat.zero_add, Nat.add_zero, Nat.reduceLeDiff, Nat.reduceSub, ↓reduceIte, List.drop_succ_cons, List.drop_zero, List.take_succ_cons, List.take_zero, Bool.false_eq_true, List.nil_append, List.cons_append, Bool.not_true, Bool.not_false, cond_true, cond_false, bne, lv_ret, lv_normal, res1, res2, lv2_some, res_var, res_cell, lvf_v, lvf_slc, res1c, lvo1_some]
      rfl
  | succ m ih =>
    intro hm t cs ht tail vars hv
    cases hb : bound rs t with
    | none =>
      rw [stay (m + 1) t hb]
      refine ⟨cs, ht, ?_⟩
      rcases none_case (m + 1) t cs ht hb tail vars hv with h1 | h1
      · exact .inl h1
      · exact .inr ⟨rfl, h1⟩
    | some t' =>
      obtain ⟨s, n, c', cs', rfl, ht', hla⟩ := some_case t cs ht t' hb
      have ht2 := ht'
      have hwalk : walkT rs (m + 1) t = walkT rs m t' := by simp [walkT, hb]
      rw [hwalk]
      cases ht' with
      | mk k2 s2 n2 c2 l2 hc2 =>
      have h0 : (((m + 1 : Nat) : Int) == 0) = false := by simp; omega
      have h1 : ((1 : Int) == 1) = true := rfl
      have hw : IntKind.i64.wrap (((m + 1 : Nat) : Int) - 1) = (m : Int) := by rw [wrap_ok (by omega) (by omega)]; omega
      have st : exec (callW F) K c31_9 (L31f b h.length id off) (ctr h id off ms ((m + 1 : Nat) : Int) ++ (.box [.v (.int .i64 1), .v (.string s), .v (.int .i64 n), c'] :: .box zeroC :: tail)) = some (.normal, [b, .junk, .ptr id off, .ptr h.length 0, .ptr (h.length + 1) 0, .junk, .ptr (h.length + (tail.length + 1 + 1)) 0, .v (.bool true), .v (.bool true), .v (.bool false), .v (.bool false)], ctr h id off ms m ++ (.box [.v (.int .i64 k2), .v (.string s2), .v (.int .i64 n2), c2] :: .box zeroC :: (tail ++ [.box [.v (.int .i64 k2), .v (.string s2), .v (.int .i64 n2), c2]]))) := by
        simp only [L31f, zeroC, c31_9, c31_1, c31_2, c31_3, c31_5, c31_7, c31_8, h0, h1, hw, hla, hbs, snapv, q9z, c.load, c.store, c_ld, c_ld0, c_st, c_st0, c_bx, evNil, ldAt, stAt, preH_some, List.append_assoc, e_bslice1, e_bslice2, bs1, bs2, e_build, bdH_some, bd_nil, bd_cons, bd1, cl_agg, cl_int, toL, List.map_cons, List.map_nil, putAt, List.set_cons_zero, List.set_cons_succ, and_self, Nat.le_refl, app_get, app_set, g_agg, run_nil, run_cons, stp_plain, stp_guard, put_some, pass_eq, pick_tt, pick_ff, pick_tf, pick_ft, pick_u, reg_some, thn_normal, thn_exit, thn_ret, cnd_t, cnd_f, blk_normal, blk_ret, blk_exit, x_seq, x_region, x_cond, x_block, x_loop, x_ret, x_exit, x_skip, e_mov, e_pick, pk_t, pk_f, withH_some, e_box, e_load, e_store, stH_some, e_nil, e_bin, e_eqv, eqH_f, eqH_t, e_un, e_fa, e_ia, ia_eq, nat_eq, natV_nat, e_len, lnH_some, e_extract, ex_0, ex_1, e_call0, e_call1, e_call2, e_call3, pc0_eq, pc1_some, pc2_some, pc3_some, fin_some, g_var0, g_vars, g_loc0, g_locs, g_int, g_bool, g_str, g_sl, s_none, s_zero, s_succ, cl_nil, cl_str, cl_bool, cl_slc, cl_own, evFa, evNil, asEl, evBin, intBin, strBin, evUn, len_nil, len_slc, len_str, clr, List.length_nil, List.length_cons, List.getElem?_cons_zero, List.getElem?_cons_succ, Nat.reduceAdd, Nat.zero_add, Nat.add_zero, Nat.reduceLeDiff, Nat.reduceSub, ↓reduceIte, List.drop_succ_cons, List.drop_zero, List.take_succ_cons, List.take_zero, Bool.false_eq_true, List.nil_append, List.cons_append, Bool.not_true, Bool.not_false, cond_true, cond_false, bne, lv_ret, lv_normal, res1, res2, lv2_some, res_var, res_cell, lvf_v, lvf_slc, res1c, lvo1_some]
      rw [loop_normal (by rw [hv]; exact st)]
      exact ih (by omega) _ _ ht2 _ _ rfl

/-- Follow, with a counter of the caller's -/
theorem follow_ok (c : Ctr h id off ms) {b a : AV} {es : List AV} {rs : List (Int × Tm)} (hes : AllB es rs) (hbs : ∀ h : List AO, b.snap1 h = some b) (hlook : ∀ n, callW F 13 [b, .v (.int .i64 n)] [] = some (lookA n es, []))
    (m : Nat) (hm : m ≤ 5000) {t : Tm} (ht : IsT a t) : ∃ rc, IsT (.agg rc) (walkT rs m t).1 ∧ callW F 31 [b, a, .ptr id off] (ctr h id off ms m) = some (.tup [.agg rc, .v (.int .i64 (walkT rs m t).2.1)], ctr h id off ms (walkT rs m t).2.2) := by
  obtain ⟨cs, rfl⟩ : ∃ cs, a = .agg cs := by cases ht; exact ⟨_, rfl⟩
  obtain ⟨rc, hrc, hl⟩ := follow_loop (K := 5001) c hes hbs hlook m hm t cs ht [] (L31f b h.length id off) rfl
  refine ⟨rc, hrc, ?_⟩
  have hres : c31.res = [.cell 4 true 4, .var 5] := rfl
  have body : exec (callW F) 5001 c31.body (start c31 [b, .agg cs, .ptr id off]) (ctr h id off ms m ++ []) = thn (callW F) 5001 (.seq (.region [] [] c31_10) .ret) (blk 0 (loopN (exec (callW F) 5001 c31_9) K31f 5001 (L31f b h.length id off) (ctr h id off ms m ++ (.box cs :: .box zeroC :: [])))) := by
    show exec (callW F) 5001 (.seq (.region [] [] c31_0) (.seq (.block 0 (.loop K31f [] c31_9)) (.seq (.region [] [] c31_10) .ret))) _ _ = _
    generalize (CC.seq (.region [] [] c31_10) .ret) = rest
    simp only [c31, start, zeroC, List.replicate, c31_0, q9z, c_bx, preH_some, List.append_assoc, e_bslice1, e_bslice2, bs1, bs2, e_build, bdH_some, bd_nil, bd_cons, bd1, cl_agg, cl_int, toL, List.map_cons, List.map_nil, putAt, List.set_cons_zero, List.set_cons_succ, and_self, Nat.le_refl, app_get, app_set, g_agg, run_nil, run_cons, stp_plain, stp_guard, put_some, pass_eq, pick_tt, pick_ff, pick_tf, pick_ft, pick_u, reg_some, thn_normal, thn_exit, thn_ret, cnd_t, cnd_f, blk_normal, blk_ret, blk_exit, x_seq, x_region, x_cond, x_block, x_loop, x_ret, x_exit, x_skip, e_mov, e_pick, pk_t, pk_f, withH_some, e_box, e_load, e_store, stH_some, e_nil, e_bin, e_eqv, eqH_f, eqH_t, e_un, e_fa, e_ia, ia_eq, nat_eq, natV_nat, e_len, lnH_some, e_extract, ex_0, ex_1, e_call0, e_call1, e_call2, e_call3, pc0_eq, pc1_some, pc2_some, pc3_some, fin_some, g_var0, g_vars, g_loc0, g_locs, g_int, g_bool, g_str, g_sl, s_none, s_zero, s_succ, cl_nil, cl_str, cl_bool, cl_slc, cl_own, evFa, evNil, asEl, evBin, intBin, strBin, evUn, len_nil, len_slc, len_str, clr, List.length_nil, List.length_cons, List.getElem?_cons_zero, List.getElem?_cons_succ, Nat.reduceAdd, Nat.zero_add, Nat.add_zero, Nat.reduceLeDiff, Nat.reduceSub, ↓reduceIte, List.drop_succ_cons, List.drop_zero, List.take_succ_cons, List.take_zero, Bool.false_eq_true, List.nil_append, List.cons_append, Bool.not_true, Bool.not_false, cond_true, cond_false, bne, lv_ret, lv_normal, res1, res2, lv2_some, res_var, res_cell, lvf_v, lvf_slc, res1c, lvo1_some]
    rw [loop_cong (v2 := L31f b h.length id off) (by rfl)]
  refine callW_own (c := c31) rfl rfl 5001 ?_
  rw [body, ctr_len]
  rcases hl with ⟨o, tl, x6, x7, x8, x9, x10, h1⟩ | ⟨h0, tl, x6, x7, x8, x9, x10, h1⟩
  · rw [loop_more h1 (by omega)]
    generalize walkT rs m t = w at hrc ⊢
    obtain ⟨w1, w2, w3⟩ := w
    simp only [blk_ret, thn_ret]
    rw [leave_own ctr_len (c.all _), hres, own_res2 (x := .agg rc) (y := .v (.int .i64 w2)) _ _]
    · exact lvo_two (hrc.frz _ _) rfl
    · cases hrc; simp only [res_cell, c_ld, ldAt, e_bslice1, e_bslice2, bs1, bs2, e_build, bdH_some, bd_nil, bd_cons, bd1, cl_agg, cl_int, toL, List.map_cons, List.map_nil, putAt, List.set_cons_zero, List.set_cons_succ, and_self, Nat.le_refl, app_get, app_set, g_agg, run_nil, run_cons, stp_plain, stp_guard, put_some, pass_eq, pick_tt, pick_ff, pick_tf, pick_ft, pick_u, reg_some, thn_normal, thn_exit, thn_ret, cnd_t, cnd_f, blk_normal, blk_ret, blk_exit, x_seq, x_region, x_cond, x_block, x_loop, x_ret, x_exit, x_skip, e_mov, e_pick, pk_t, pk_f, withH_some, e_box, e_load, e_store, stH_some, e_nil, e_bin, e_eqv, eqH_f, eqH_t, e_un, e_fa, e_ia, ia_eq, nat_eq, natV_nat, e_len, lnH_some, e_extract, ex_0, ex_1, e_call0, e_call1, e_call2, e_call3, pc0_eq, pc1_some, pc2_some, pc3_some, fin_some, g_var0, g_vars, g_loc0, g_locs, g_int, g_bool, g_str, g_sl, s_none, s_zero, s_succ, cl_nil, cl_str, cl_bool, cl_slc, cl_own, evFa, evNil, asEl, evBin, intBin, strBin, evUn, len_nil, len_slc, len_str, clr, List.length_nil, List.length_cons, List.getElem?_cons_zero, List.getElem?_cons_succ, Nat.reduceAdd, Nat.zero_add, Nat.add_zero, Nat.reduceLeDiff, Nat.reduceSub, ↓reduceIte, List.drop_succ_cons, List.drop_zero, List.take_succ_cons, List.take_zero, Bool.false_eq_true, List.nil_append, List.cons_append, Bool.not_true, Bool.not_false, cond_true, cond_false, bne, lv_ret, lv_normal, res1, res2, lv2_some, res_var, res_cell, lvf_v, lvf_slc, res1c, lvo1_some]
    · rfl
  · rw [loop_more h1 (by omega)]
    rw [h0]
    generalize walkT rs m t = w at hrc ⊢
    obtain ⟨w1, w2, w3⟩ := w
    cases hrc
    simp only [blk_exit, thn_normal, zeroC, c31_10, c_ld, c_ld0, c_st, c_st0, ldAt, stAt, preH_some, List.append_assoc, e_bslice1, e_bslice2, bs1, bs2, e_build, bdH_some, bd_nil, bd_cons, bd1, cl_agg, cl_int, toL, List.map_cons, List.map_nil, putAt, List.set_cons_zero, List.set_cons_succ, and_self, Nat.le_refl, app_get, app_set, g_agg, run_nil, run_cons, stp_plain, stp_guard, put_some, pass_eq, pick_tt, pick_ff, pick_tf, pick_ft, pick_u, reg_some, thn_normal, thn_exit, thn_ret, cnd_t, cnd_f, blk_normal, blk_ret, blk_exit, x_seq, x_region, x_cond, x_block, x_loop, x_ret, x_exit, x_skip, e_mov, e_pick, pk_t, pk_f, withH_some, e_box, e_load, e_store, stH_some, e_nil, e_bin, e_eqv, eqH_f, eqH_t, e_un, e_fa, e_ia, ia_eq, nat_eq, natV_nat, e_len, lnH_some, e_extract, ex_0, ex_1, e_call0, e_call1, e_call2, e_call3, pc0_eq, pc1_some, pc2_some, pc3_some, fin_some, g_var0, g_vars, g_loc0, g_locs, g_int, g_bool, g_str, g_sl, s_none, s_zero, s_succ, cl_nil, cl_str, cl_bool, cl_slc, cl_own, evFa, evNil, asEl, evBin, intBin, strBin, evUn, len_nil, len_slc, len_str, clr, List.length_nil, List.length_cons, List.getElem?_cons_zero, List.getElem?_cons_succ, Nat.reduceAdd, Nat.zero_add, Nat.add_zero, Nat.reduceLeDiff, Nat.reduceSub, ↓reduceIte, List.drop_succ_cons, List.drop_zero, List.take_succ_cons, List.take_zero, Bool.false_eq_true, List.nil_append, List.cons_append, Bool.not_true, Bool.not_false, cond_true, cond_false, bne, lv_ret, lv_normal, res1, res2, lv2_some, res_var, res_cell, lvf_v, lvf_slc, res1c, lvo1_some]
    rw [leave_own ctr_len (c.all _), hres, own_res2 (x := .agg _) (y := .v (.int .i64 0)) _ _]
    · exact lvo_two (IsT.frz (.mk _ _ _ _ _ (by assumption)) _ _) rfl
    · simp only [res_cell, c_ld, ldAt, e_bslice1, e_bslice2, bs1, bs2, e_build, bdH_some, bd_nil, bd_cons, bd1, cl_agg, cl_int, toL, List.map_cons, List.map_nil, putAt, List.set_cons_zero, List.set_cons_succ, and_self, Nat.le_refl, app_get, app_set, g_agg, run_nil, run_cons, stp_plain, stp_guard, put_some, pass_eq, pick_tt, pick_ff, pick_tf, pick_ft, pick_u, reg_some, thn_normal, thn_exit, thn_ret, cnd_t, cnd_f, blk_normal, blk_ret, blk_exit, x_seq, x_region, x_cond, x_block, x_loop, x_ret, x_exit, x_skip, e_mov, e_pick, pk_t, pk_f, withH_some, e_box, e_load, e_store, stH_some, e_nil, e_bin, e_eqv, eqH_f, eqH_t, e_un, e_fa, e_ia, ia_eq, nat_eq, natV_nat, e_len, lnH_some, e_extract, ex_0, ex_1, e_call0, e_call1, e_call2, e_call3, pc0_eq, pc1_some, pc2_some, pc3_some, fin_some, g_var0, g_vars, g_loc0, g_locs, g_int, g_bool, g_str, g_sl, s_none, s_zero, s_succ, cl_nil, cl_str, cl_bool, cl_slc, cl_own, evFa, evNil, asEl, evBin, intBin, strBin, evUn, len_nil, len_slc, len_str, clr, List.length_nil, List.length_cons, List.getElem?_cons_zero, List.getElem?_cons_succ, Nat.reduceAdd, Nat.zero_add, Nat.add_zero, Nat.reduceLeDiff, Nat.reduceSub, ↓reduceIte, List.drop_succ_cons, List.drop_zero, List.take_succ_cons, List.take_zero, Bool.false_eq_true, List.nil_append, List.cons_append, Bool.not_true, Bool.not_false, cond_true, cond_false, bne, lv_ret, lv_normal, res1, res2, lv2_some, res_var, res_cell, lvf_v, lvf_slc, res1c, lvo1_some]
    · rfl
end
end Go.AE.Ytpgoibncgekflaa
end

/-! Walk, and the document's Walk: both follow bindings as `walkT` tells. -/
section
set_option linter.unusedVariables false
set_option linter.unusedSimpArgs false
namespace Go.AE.Ytpgoibncgekflaa
open Go Go.AE Go.Proofs.Ytpgoibncgekflaa

section
variable {h : List AO} {id off : Nat} {ms : List AV} {m : Int} {l : List AO}
theorem spend_ok (c : Ctr h id off ms) {l : List AO} (hl : l.all (AO.below (h.length + l.length)) = true) (n : Int) (hn : 0 ≤ n ∧ n ≤ 100000) : callW F 47 [.ptr id off] (ctr h id off ms n ++ l) = some (.v (.bool (decide (n + 1 ≤ 2000))), ctr h id off ms (n + 1) ++ l) := by
  refine callW_own (c := c47) rfl rfl 0 ?_
  have hw : IntKind.i64.wrap (n + 1) = n + 1 := wrap_ok (by omega) (by omega)
  have hln : (ctr h id off ms n ++ l).length = (ctr h id off ms (n + 1) ++ l).length := by simp [ctr_len]
  have hall : (ctr h id off ms (n + 1) ++ l).all (AO.below (ctr h id off ms n ++ l).length) = true := by
    rw [List.all_append, Bool.and_eq_true]
    rw [List.length_append, ctr_len]
    exact ⟨all_below_mono (by omega) (c.all _), hl⟩
  have body : exec (callW F) 0 c47.body (start c47 [.ptr id off]) (ctr h id off ms n ++ l ++ []) = some (.ret, [.ptr id off, .v (.bool (decide (n + 1 ≤ 2000)))], (ctr h id off ms (n + 1) ++ l) ++ []) := by
    simp only [c47, start, List.replicate, c47_0, c47_1, c47_2, hw, c.load, c.store, evNil, List.append_nil, e_bslice1, e_bslice2, bs1, bs2, e_build, bdH_some, bd_nil, bd_cons, bd1, cl_agg, cl_int, toL, List.map_cons, List.map_nil, putAt, List.set_cons_zero, List.set_cons_succ, and_self, Nat.le_refl, app_get, app_set, g_agg, run_nil, run_cons, stp_plain, stp_guard, put_some, pass_eq, pick_tt, pick_ff, pick_tf, pick_ft, pick_u, reg_some, thn_normal, thn_exit, thn_ret, cnd_t, cnd_f, blk_normal, blk_ret, blk_exit, x_seq, x_region, x_cond, x_block, x_loop, x_ret, x_exit, x_skip, e_mov, e_pick, pk_t, pk_f, withH_some, e_box, e_load, e_store, stH_some, e_nil, e_bin, e_eqv, eqH_f, eqH_t, e_un, e_fa, e_ia, ia_eq, nat_eq, natV_nat, e_len, lnH_some, e_extract, ex_0, ex_1, e_call0, e_call1, e_call2, e_call3, pc0_eq, pc1_some, pc2_some, pc3_some, fin_some, g_var0, g_vars, g_loc0, g_locs, g_int, g_bool, g_str, g_sl, s_none, s_zero, s_succ, cl_nil, cl_str, cl_bool, cl_slc, cl_own, evFa, evNil, asEl, evBin, intBin, strBin, evUn, len_nil, len_slc, len_str, clr, List.length_nil, List.length_cons, List.getElem?_cons_zero, List.getElem?_cons_succ, Nat.reduceAdd, Nat.zero_add, Nat.add_zero, Nat.reduceLeDiff, Nat.reduceSub, ↓reduceIte, List.drop_succ_cons, List.drop_zero, List.take_succ_cons, List.take_zero, Bool.false_eq_true, List.nil_append, List.cons_append, Bool.not_true, Bool.not_false, cond_true, cond_false, bne, lv_ret, lv_normal, res1, res2, lv2_some, res_var, res_cell, lvf_v, lvf_slc, res1c, lvo1_some]
  rw [body, leave_own hln.symm hall]
  exact lvo_one rfl

def K32 : List Bool := [true, true, false, true, true, false, false, false, false, false, false]
def L32 (b : AV) (B id off : Nat) : List AV := [.ptr id off, b, .junk, .ptr B 0, .ptr (B + 1) 0, .junk, .junk, .junk, .junk, .junk, .junk]

/-- what the document's counter counts -/
def spent (e : Int) (m : Nat) : Int := if e = 0 then 2000 - (m : Int) else 2001
theorem spent0 (m : Nat) : spent 0 m = 2000 - (m : Int) := rfl

theorem meter_loop (c : Ctr h id off ms) {K : Nat} {b : AV} {es : List AV} {rs : List (Int × Tm)} (hes : AllB es rs) (hbs : ∀ h : List AO, b.snap1 h = some b) (hlook : ∀ n, callW F 14 [b, .v (.int .i64 n)] [] = some (lookA n es, [])) :
    ∀ (m : Nat), m ≤ 2000 → ∀ (t : Tm) (cs : List AV), IsT (.agg cs) t → ∀ (tail : List AO) (vars : List AV), tail.all (AO.below 0) = true → clr K32 vars = L32 b h.length id off →
    ∃ rc, IsT (.agg rc) (walkT rs m t).1 ∧
      ((∃ o tl x6 x7 x8 x9 x10, loopN (exec (callW F) K c32_7) K32 (m + 1) vars (ctr h id off ms (2000 - (m : Int)) ++ (.box cs :: .box zeroC :: tail)) = some (.ret, [.ptr id off, b, .junk, .ptr h.length 0, .ptr (h.length + 1) 0, .v (.int .i64 (walkT rs m t).2.1), x6, x7, x8, x9, x10], ctr h id off ms (spent (walkT rs m t).2.1 (walkT rs m t).2.2) ++ (o :: .box rc :: tl))) ∨
       ((walkT rs m t).2.1 = 0 ∧ ∃ tl x6 x7 x8 x9 x10, loopN (exec (callW F) K c32_7) K32 (m + 1) vars (ctr h id off ms (2000 - (m : Int)) ++ (.box cs :: .box zeroC :: tail)) = some (.exit 0, [.ptr id off, b, .junk, .ptr h.length 0, .ptr (h.length + 1) 0, .junk, x6, x7, x8, x9, x10], ctr h id off ms (spent (walkT rs m t).2.1 (walkT rs m t).2.2) ++ (.box rc :: .box zeroC :: tl)))) := by
  have stay : ∀ (m : Nat) (t : Tm), bound rs t = none → walkT rs m t = (t, 0, m) := by
    intro m t hb; cases m <;> simp [walkT, hb]
  have none_case : ∀ (m : Nat) (t : Tm) (cs : List AV), IsT (.agg cs) t → bound rs t = none → ∀ (tail : List AO) (vars : List AV), clr K32 vars = L32 b h.length id off →
       (∃ tl x6 x7 x8 x9 x10, loopN (exec (callW F) K c32_7) K32 (m + 1) vars (ctr h id off ms (2000 - (m : Int)) ++ (.box cs :: .box zeroC :: tail)) = some (.exit 0, [.ptr id off, b, .junk, .ptr h.length 0, .ptr (h.length + 1) 0, .junk, x6, x7, x8, x9, x10], ctr h id off ms (2000 - (m : Int)) ++ (.box cs :: .box zeroC :: tl))) := by
    intro m t cs ht hb tail vars hv
    cases ht with
    | mk k s n c' l' hc =>
    by_cases hk : k = 1
    · have h1 : (k == 1) = true := by simpa using hk
      have hl : lookT rs n = none := by simpa [bound, hk] using hb
      have hla := hlook n
      rcases look_rel n hes with ⟨_, h2⟩ | ⟨t', cs', h2, _⟩
      · rw [h2] at hla
        iterate 6 apply Exists.intro
        apply loop_exit
        rw [hv]
        simp only [L32, zeroC, c32_7, c32_1, c32_2, c32_3, c32_4, h1, hla, hbs, snapv, q9z, c_ld, c_ld0, c_st, c_st0, c_bx, ldAt, stAt, preH_some, List.append_assoc, blk_other (show (0 : Nat) ≠ 1 by decide), e_bslice1, e_bslice2, bs1, bs2, e_build, bdH_some, bd_nil, bd_cons, bd1, cl_agg, cl_int, toL, List.map_cons, List.map_nil, putAt, List.set_cons_zero, List.set_cons_succ, and_self, Nat.le_refl, app_get, app_set, g_agg, run_nil, run_cons, stp_plain, stp_guard, put_some, pass_eq, pick_tt, pick_ff, pick_tf, pick_ft, pick_u, reg_some, thn_normal, thn_exit, thn_ret, cnd_t, cnd_f, blk_normal, blk_ret, blk_exit, x_seq, x_region, x_cond, x_block, x_loop, x_ret, x_exit, x_skip, e_mov, e_pick, pk_t, pk_f, withH_some, e_box, e_load, e_store, stH_some, e_nil, e_bin, e_eqv, eqH_f, eqH_t, e_un, e_fa, e_ia, ia_eq, nat_eq, natV_nat, e_len, lnH_some, e_extract, ex_0, ex_1, e_call0, e_call1, e_call2, e_call3, pc0_eq, pc1_some, pc2_some, pc3_some, fin_some, g_var0, g_vars, g_loc0, g_locs, g_int, g_bool, g_str, g_sl, s_none, s_zero, s_succ, cl_nil, cl_str, cl_bool, cl_slc, cl_own, evFa, evNil, asEl, evBin, intBin, strBin, evUn, len_nil, len_slc, len_str, clr, List.length_nil, List.length_cons, List.getElem?_cons_zero, List.getElem?_cons_succ, Nat.reduceAdd, Nat.zero_add, Nat.add_zero, Nat.reduceLeDiff, Nat.reduceSub, ↓reduceIte, List.drop_succ_cons, List.drop_zero, List.take_succ_cons, List.take_zero, Bool.false_eq_true, List.nil_append, List.cons_append, Bool.not_true, Bool.not_false, cond_true, cond_false, bne, lv_ret, lv_normal, res1, res2, lv2_some, res_var, res_cell, lvf_v, lvf_slc, res1c, lvo1_some]
        rfl
      · rw [hl] at h2; cases h2
    · have h1 : (k == 1) = false := by simpa using hk
      iterate 6 apply Exists.intro
      apply loop_exit
      rw [hv]
      simp only [L32, zeroC, c32_7, c32_1, h1, c_ld, c_ld0, c_st, c_st0, c_bx, ldAt, stAt, preH_some, List.append_assoc, e_bslice1, e_bslice2, bs1, bs2, e_build, bdH_some, bd_nil, bd_cons, bd1, cl_agg, cl_int, toL, List.map_cons, List.map_nil, putAt, List.set_cons_zero, List.set_cons_succ, and_self, Nat.le_refl, app_get, app_set, g_agg, run_nil, run_cons, stp_plain, stp_guard, put_some, pass_eq, pick_tt, pick_ff, pick_tf, pick_ft, pick_u, reg_some, thn_normal, thn_exit, thn_ret, cnd_t, cnd_f, blk_normal, blk_ret, blk_exit, x_seq, x_region, x_cond, x_block, x_loop, x_ret, x_exit, x_skip, e_mov, e_pick, pk_t, pk_f, withH_some, e_box, e_load, e_store, stH_some, e_nil, e_bin, e_eqv, eqH_f, eqH_t, e_un, e_fa, e_ia, ia_eq, nat_eq, natV_nat, e_len, lnH_some, e_extract, ex_0, ex_1, e_call0, e_call1, e_call2, e_call3, pc0_eq, pc1_some, pc2_some, pc3_some, fin_some, g_var0, g_vars, g_loc0, g_locs, g_int, g_bool, g_str, g_sl, s_none, s_zero, s_succ, cl_nil, cl_str, cl_bool, cl_slc, cl_own, evFa, evNil, asEl, evBin, intBin, strBin, evUn, len_nil, len_slc, len_str, clr, List.length_nil, List.length_cons, List.getElem?_cons_zero, List.getElem?_cons_succ, Nat.reduceAdd, Nat.zero_add, Nat.add_zero, Nat.reduceLeDiff, Nat.reduceSub, ↓reduceIte, List.drop_succ_cons, List.drop_zero, List.take_succ_cons, List.take_zero, Bool.false_eq_true, List.nil_append, List.cons_append, Bool.not_true, Bool.not_false, cond_true, cond_false, bne, lv_ret, lv_normal, res1, res2, lv2_some, res_var, res_cell, lvf_v, lvf_slc, res1c, lvo1_some]
      rfl
  have some_case : ∀ (t : Tm) (cs : List AV), IsT (.agg cs) t → ∀ t', bound rs t = some t' → ∃ s n c cs', cs = [.v (.int .i64 1), .v (.string s), .v (.int .i64 n), c] ∧ IsT (.agg cs') t' ∧ callW F 14 [b, .v (.int .i64 n)] [] = some (.tup [.agg cs', .v (.bool true)], []) := by
    intro t cs ht t' hb
    cases ht with
    | mk k s n c' l' hc =>
    by_cases hk : k = 1
    · subst hk
      rcases look_rel n hes with ⟨h2, _⟩ | ⟨t2, cs', h2, h3, h4⟩
      · simp [bound, h2] at hb
      · simp [bound, h2] at hb
        subst hb
        exact ⟨s, n, c', cs', rfl, h4, by rw [hlook n, h3]⟩
    · simp [bound, hk] at hb
  have hB3 : ∀ {a d e : AV} {t1 t2 t3 : Tm} (tail : List AO), IsT a t1 → IsT d t2 → IsT e t3 → tail.all (AO.below 0) = true → (.box a.cells :: .box d.cells :: (tail ++ [.box e.cells]) : List AO).all (AO.below 0) = true := by
    intro a d e t1 t2 t3 tail h1 h2 h3 h4
    have g1 := h1.bel
    have g2 := h2.bel
    have g3 := h3.bel
    simp only [List.all_cons, List.all_append, List.all_nil, g1, g2, g3, h4, Bool.and_true]
  intro m
  induction m with
  | zero =>
    intro _ t cs ht tail vars htl hv
    cases hb : bound rs t with
    | none =>
      rw [stay 0 t hb]
      exact ⟨cs, ht, .inr ⟨rfl, none_case 0 t cs ht hb tail vars hv⟩⟩
    | some t' =>
      obtain ⟨s, n, c', cs', rfl, ht', hla⟩ := some_case t cs ht t' hb
      have hbl := hB3 tail ht isT_zero ht' htl
      have hsp := fun l (hl : l.all (AO.below 0) = true) => spend_ok (l := l) c (all_below_mono (Nat.zero_le _) hl) 2000 ⟨by omega, by omega⟩
      have hsp1 := hsp _ hbl
      have hd : decide ((2000 : Int) + 1 ≤ 2000) = false := by decide
      rw [hd] at hsp1
      have hi : (2000 : Int) - ((0 : Nat) : Int) = 2000 := by omega
      have hs : spent 140 0 = 2000 + 1 := rfl
      cases ht' with
      | mk k2 s2 n2 c2 l2 hc2 =>
      have h1 : ((1 : Int) == 1) = true := rfl
      refine ⟨zeroC, by simpa [walkT, hb] using isT_zero, .inl ?_⟩
      simp only [walkT, hb, hs, hi]
      iterate 7 apply Exists.intro
      apply loop_ret
      rw [hv]
      simp only [AV.cells, zeroC] at hsp1
      simp only [L32, zeroC, c32_7, c32_1, c32_2, c32_3, c32_4, c32_5, h1, hla, hbs, hsp1, e_callh, snapv, q9z, c_ld, c_ld0, c_st, c_st0, c_bx, evNil, ldAt, stAt, preH_some, List.append_assoc, e_bslice1, e_bslice2, bs1, bs2, e_build, bdH_some, bd_nil, bd_cons, bd1, cl_agg, cl_int, toL, List.map_cons, List.map_nil, putAt, List.set_cons_zero, List.set_cons_succ, and_self, Nat.le_refl, app_get, app_set, g_agg, run_nil, run_cons, stp_plain, stp_guard, put_some, pass_eq, pick_tt, pick_ff, pick_tf, pick_ft, pick_u, reg_some, thn_normal, thn_exit, thn_ret, cnd_t, cnd_f, blk_normal, blk_ret, blk_exit, x_seq, x_region, x_cond, x_block, x_loop, x_ret, x_exit, x_skip, e_mov, e_pick, pk_t, pk_f, withH_some, e_box, e_load, e_store, stH_some, e_nil, e_bin, e_eqv, eqH_f, eqH_t, e_un, e_fa, e_ia, ia_eq, nat_eq, natV_nat, e_len, lnH_some, e_extract, ex_0, ex_1, e_call0, e_call1, e_call2, e_call3, pc0_eq, pc1_some, pc2_some, pc3_some, fin_some, g_var0, g_vars, g_loc0, g_locs, g_int, g_bool, g_str, g_sl, s_none, s_zero, s_succ, cl_nil, cl_str, cl_bool, cl_slc, cl_own, evFa, evNil, asEl, evBin, intBin, strBin, evUn, len_nil, len_slc, len_str, clr, List.length_nil, List.length_cons, List.getElem?_cons_zero, List.getElem?_cons_succ, Nat.reduceAdd, Nat.zero_add, Nat.add_zero, Nat.reduceLeDiff, Nat.reduceSub, ↓reduceIte, List.drop_succ_cons, List.drop_zero, List.take_succ_cons, List.take_zero, Bool.false_eq_true, List.nil_append, List.cons_append, Bool.not_true, Bool.not_false, cond_true, cond_false, bne, lv_ret, lv_normal, res1, res2, lv2_some, res_var, res_cell, lvf_v, lvf_slc, res1c, lvo1_some]
      rfl
  | succ m ih =>
    intro hm t cs ht tail vars htl hv
    cases hb : bound rs t with
    | none =>
      rw [stay (m + 1) t hb]
      exact ⟨cs, ht, .inr ⟨rfl, none_case (m + 1) t cs ht hb tail vars hv⟩⟩
    | some t' =>
      obtain ⟨s, n, c', cs', rfl, ht', hla⟩ := some_case t cs ht t' hb
      have hbl := hB3 tail ht isT_zero ht' htl
      have hsp1 := spend_ok (l := _) c (all_below_mono (Nat.zero_le _) hbl) (2000 - ((m + 1 : Nat) : Int)) ⟨by omega, by omega⟩
      have hd : decide ((2000 : Int) - ((m + 1 : Nat) : Int) + 1 ≤ 2000) = true := by simp; omega
      have hi : (2000 : Int) - ((m + 1 : Nat) : Int) + 1 = 2000 - (m : Int) := by omega
      rw [hd, hi] at hsp1
      have ht2 := ht'
      have hwalk : walkT rs (m + 1) t = walkT rs m t' := by simp [walkT, hb]
      rw [hwalk]
      have htl2 : (tail ++ [AO.box cs']).all (AO.below 0) = true := by
        have := ht'.bel
        simp only [AV.cells] at this
        simp only [List.all_append, List.all_cons, List.all_nil, htl, this, Bool.and_true]
      cases ht' with
      | mk k2 s2 n2 c2 l2 hc2 =>
      have h1 : ((1 : Int) == 1) = true := rfl
      have st : exec (callW F) K c32_7 (L32 b h.length id off) (ctr h id off ms (2000 - ((m + 1 : Nat) : Int)) ++ (.box [.v (.int .i64 1), .v (.string s), .v (.int .i64 n), c'] :: .box zeroC :: tail)) = some (.normal, [.ptr id off, b, .junk, .ptr h.length 0, .ptr (h.length + 1) 0, .junk, .ptr (h.length + (tail.length + 1 + 1)) 0, .v (.bool true), .v (.bool true), .v (.bool false), .v (.bool false)], ctr h id off ms (2000 - (m : Int)) ++ (.box [.v (.int .i64 k2), .v (.string s2), .v (.int .i64 n2), c2] :: .box zeroC :: (tail ++ [.box [.v (.int .i64 k2), .v (.string s2), .v (.int .i64 n2), c2]]))) := by
        simp only [AV.cells, zeroC] at hsp1
        simp only [L32, zeroC, c32_7, c32_1, c32_2, c32_3, c32_4, c32_6, h1, hla, hbs, hsp1, e_callh, snapv, q9z, c_ld, c_ld0, c_st, c_st0, c_bx, evNil, ldAt, stAt, preH_some, List.append_assoc, e_bslice1, e_bslice2, bs1, bs2, e_build, bdH_some, bd_nil, bd_cons, bd1, cl_agg, cl_int, toL, List.map_cons, List.map_nil, putAt, List.set_cons_zero, List.set_cons_succ, and_self, Nat.le_refl, app_get, app_set, g_agg, run_nil, run_cons, stp_plain, stp_guard, put_some, pass_eq, pick_tt, pick_ff, pick_tf, pick_ft, pick_u, reg_some, thn_normal, thn_exit, thn_ret, cnd_t, cnd_f, blk_normal, blk_ret, blk_exit, x_seq, x_region, x_cond, x_block, x_loop, x_ret, x_exit, x_skip, e_mov, e_pick, pk_t, pk_f, withH_some, e_box, e_load, e_store, stH_some, e_nil, e_bin, e_eqv, eqH_f, eqH_t, e_un, e_fa, e_ia, ia_eq, nat_eq, natV_nat, e_len, lnH_some, e_extract, ex_0, ex_1, e_call0, e_call1, e_call2, e_call3, pc0_eq, pc1_some, pc2_some, pc3_some, fin_some, g_var0, g_vars, g_loc0, g_locs, g_int, g_bool, g_str, g_sl, s_none, s_zero, s_succ, cl_nil, cl_str, cl_bool, cl_slc, cl_own, evFa, evNil, asEl, evBin, intBin, strBin, evUn, len_nil, len_slc, len_str, clr, List.length_nil, List.length_cons, List.getElem?_cons_zero, List.getElem?_cons_succ, Nat.reduceAdd, Nat.zero_add, Nat.add_zero, Nat.reduceLeDiff, Nat.reduceSub, ↓reduceIte, List.drop_succ_cons, List.drop_zero, List.take_succ_cons, List.take_zero, Bool.false_eq_true, List.nil_append, List.cons_append, Bool.not_true, Bool.not_false, cond_true, cond_false, bne, lv_ret, lv_normal, res1, res2, lv2_some, res_var, res_cell, lvf_v, lvf_slc, res1c, lvo1_some]
      rw [loop_normal (by rw [hv]; exact st)]
      exact ih (by omega) _ _ ht2 _ _ htl2 rfl

theorem meter_ok (c : Ctr h id off ms) {b a : AV} {es : List AV} {rs : List (Int × Tm)} (hes : AllB es rs) (hbs : ∀ h : List AO, b.snap1 h = some b) (hlook : ∀ n, callW F 14 [b, .v (.int .i64 n)] [] = some (lookA n es, []))
    (m : Nat) (hm : m ≤ 2000) {t : Tm} (ht : IsT a t) : ∃ rc, IsT (.agg rc) (walkT rs m t).1 ∧ callW F 32 [.ptr id off, b, a] (ctr h id off ms (2000 - (m : Int))) = some (.tup [.agg rc, .v (.int .i64 (walkT rs m t).2.1)], ctr h id off ms (spent (walkT rs m t).2.1 (walkT rs m t).2.2)) := by
  obtain ⟨cs, rfl⟩ : ∃ cs, a = .agg cs := by cases ht; exact ⟨_, rfl⟩
  obtain ⟨rc, hrc, hl⟩ := meter_loop (K := 5001) c hes hbs hlook m hm t cs ht [] (L32 b h.length id off) rfl rfl
  refine ⟨rc, hrc, ?_⟩
  have hres : c32.res = [.cell 4 true 4, .var 5] := rfl
  have body : exec (callW F) 5001 c32.body (start c32 [.ptr id off, b, .agg cs]) (ctr h id off ms (2000 - (m : Int)) ++ []) = thn (callW F) 5001 (.seq (.region [] [] c32_8) .ret) (blk 0 (loopN (exec (callW F) 5001 c32_7) K32 5001 (L32 b h.length id off) (ctr h id off ms (2000 - (m : Int)) ++ (.box cs :: .box zeroC :: [])))) := by
    show exec (callW F) 5001 (.seq (.region [] [] c32_0) (.seq (.block 0 (.loop K32 [] c32_7)) (.seq (.region [] [] c32_8) .ret))) _ _ = _
    generalize (CC.seq (.region [] [] c32_8) .ret) = rest
    simp only [c32, start, zeroC, List.replicate, c32_0, q9z, c_bx, preH_some, List.append_assoc, e_bslice1, e_bslice2, bs1, bs2, e_build, bdH_some, bd_nil, bd_cons, bd1, cl_agg, cl_int, toL, List.map_cons, List.map_nil, putAt, List.set_cons_zero, List.set_cons_succ, and_self, Nat.le_refl, app_get, app_set, g_agg, run_nil, run_cons, stp_plain, stp_guard, put_some, pass_eq, pick_tt, pick_ff, pick_tf, pick_ft, pick_u, reg_some, thn_normal, thn_exit, thn_ret, cnd_t, cnd_f, blk_normal, blk_ret, blk_exit, x_seq, x_region, x_cond, x_block, x_loop, x_ret, x_exit, x_skip, e_mov, e_pick, pk_t, pk_f, withH_some, e_box, e_load, e_store, stH_some, e_nil, e_bin, e_eqv, eqH_f, eqH_t, e_un, e_fa, e_ia, ia_eq, nat_eq, natV_nat, e_len, lnH_some, e_extract, ex_0, ex_1, e_call0, e_call1, e_call2, e_call3, pc0_eq, pc1_some, pc2_some, pc3_some, fin_some, g_var0, g_vars, g_loc0, g_locs, g_int, g_bool, g_str, g_sl, s_none, s_zero, s_succ, cl_nil, cl_str, cl_bool, cl_slc, cl_own, evFa, evNil, asEl, evBin, intBin, strBin, evUn, len_nil, len_slc, len_str, clr, List.length_nil, List.length_cons, List.getElem?_cons_zero, List.getElem?_cons_succ, Nat.reduceAdd, Nat.zero_add, Nat.add_zero, Nat.reduceLeDiff, Nat.reduceSub, ↓reduceIte, List.drop_succ_cons, List.drop_zero, List.take_succ_cons, List.take_zero, Bool.false_eq_true, List.nil_append, List.cons_append, Bool.not_true, Bool.not_false, cond_true, cond_false, bne, lv_ret, lv_normal, res1, res2, lv2_some, res_var, res_cell, lvf_v, lvf_slc, res1c, lvo1_some]
    rw [loop_cong (v2 := L32 b h.length id off) (by rfl)]
  refine callW_own (c := c32) rfl rfl 5001 ?_
  rw [body, ctr_len]
  rcases hl with ⟨o, tl, x6, x7, x8, x9, x10, h1⟩ | ⟨h0, tl, x6, x7, x8, x9, x10, h1⟩
  · rw [loop_more h1 (by omega)]
    generalize walkT rs m t = w at hrc ⊢
    obtain ⟨w1, w2, w3⟩ := w
    simp only [blk_ret, thn_ret]
    rw [leave_own ctr_len (c.all _), hres, own_res2 (x := .agg rc) (y := .v (.int .i64 w2)) _ _]
    · exact lvo_two (hrc.frz _ _) rfl
    · cases hrc; simp only [res_cell, c_ld, ldAt, e_bslice1, e_bslice2, bs1, bs2, e_build, bdH_some, bd_nil, bd_cons, bd1, cl_agg, cl_int, toL, List.map_cons, List.map_nil, putAt, List.set_cons_zero, List.set_cons_succ, and_self, Nat.le_refl, app_get, app_set, g_agg, run_nil, run_cons, stp_plain, stp_guard, put_some, pass_eq, pick_tt, pick_ff, pick_tf, pick_ft, pick_u, reg_some, thn_normal, thn_exit, thn_ret, cnd_t, cnd_f, blk_normal, blk_ret, blk_exit, x_seq, x_region, x_cond, x_block, x_loop, x_ret, x_exit, x_skip, e_mov, e_pick, pk_t, pk_f, withH_some, e_box, e_load, e_store, stH_some, e_nil, e_bin, e_eqv, eqH_f, eqH_t, e_un, e_fa, e_ia, ia_eq, nat_eq, natV_nat, e_len, lnH_some, e_extract, ex_0, ex_1, e_call0, e_call1, e_call2, e_call3, pc0_eq, pc1_some, pc2_some, pc3_some, fin_some, g_var0, g_vars, g_loc0, g_locs, g_int, g_bool, g_str, g_sl, s_none, s_zero, s_succ, cl_nil, cl_str, cl_bool, cl_slc, cl_own, evFa, evNil, asEl, evBin, intBin, strBin, evUn, len_nil, len_slc, len_str, clr, List.length_nil, List.length_cons, List.getElem?_cons_zero, List.getElem?_cons_succ, Nat.reduceAdd, Nat.zero_add, Nat.add_zero, Nat.reduceLeDiff, Nat.reduceSub, ↓reduceIte, List.drop_succ_cons, List.drop_zero, List.take_succ_cons, List.take_zero, Bool.false_eq_true, List.nil_append, List.cons_append, Bool.not_true, Bool.not_false, cond_true, cond_false, bne, lv_ret, lv_normal, res1, res2, lv2_some, res_var, res_cell, lvf_v, lvf_slc, res1c, lvo1_some]
    · rfl
  · rw [loop_more h1 (by omega)]
    rw [h0]
    generalize walkT rs m t = w at hrc ⊢
    obtain ⟨w1, w2, w3⟩ := w
    cases hrc
    simp only [blk_exit, thn_normal, zeroC, c32_8, c_ld, c_ld0, c_st, c_st0, ldAt, stAt, preH_some, List.append_assoc, e_bslice1, e_bslice2, bs1, bs2, e_build, bdH_some, bd_nil, bd_cons, bd1, cl_agg, cl_int, toL, List.map_cons, List.map_nil, putAt, List.set_cons_zero, List.set_cons_succ, and_self, Nat.le_refl, app_get, app_set, g_agg, run_nil, run_cons, stp_plain, stp_guard, put_some, pass_eq, pick_tt, pick_ff, pick_tf, pick_ft, pick_u, reg_some, thn_normal, thn_exit, thn_ret, cnd_t, cnd_f, blk_normal, blk_ret, blk_exit, x_seq, x_region, x_cond, x_block, x_loop, x_ret, x_exit, x_skip, e_mov, e_pick, pk_t, pk_f, withH_some, e_box, e_load, e_store, stH_some, e_nil, e_bin, e_eqv, eqH_f, eqH_t, e_un, e_fa, e_ia, ia_eq, nat_eq, natV_nat, e_len, lnH_some, e_extract, ex_0, ex_1, e_call0, e_call1, e_call2, e_call3, pc0_eq, pc1_some, pc2_some, pc3_some, fin_some, g_var0, g_vars, g_loc0, g_locs, g_int, g_bool, g_str, g_sl, s_none, s_zero, s_succ, cl_nil, cl_str, cl_bool, cl_slc, cl_own, evFa, evNil, asEl, evBin, intBin, strBin, evUn, len_nil, len_slc, len_str, clr, List.length_nil, List.length_cons, List.getElem?_cons_zero, List.getElem?_cons_succ, Nat.reduceAdd, Nat.zero_add, Nat.add_zero, Nat.reduceLeDiff, Nat.reduceSub, ↓reduceIte, List.drop_succ_cons, List.drop_zero, List.take_succ_cons, List.take_zero, Bool.false_eq_true, List.nil_append, List.cons_append, Bool.not_true, Bool.not_false, cond_true, cond_false, bne, lv_ret, lv_normal, res1, res2, lv2_some, res_var, res_cell, lvf_v, lvf_slc, res1c, lvo1_some]
    rw [leave_own ctr_len (c.all _), hres, own_res2 (x := .agg _) (y := .v (.int .i64 0)) _ _]
    · exact lvo_two (IsT.frz (.mk _ _ _ _ _ (by assumption)) _ _) rfl
    · simp only [res_cell, c_ld, ldAt, e_bslice1, e_bslice2, bs1, bs2, e_build, bdH_some, bd_nil, bd_cons, bd1, cl_agg, cl_int, toL, List.map_cons, List.map_nil, putAt, List.set_cons_zero, List.set_cons_succ, and_self, Nat.le_refl, app_get, app_set, g_agg, run_nil, run_cons, stp_plain, stp_guard, put_some, pass_eq, pick_tt, pick_ff, pick_tf, pick_ft, pick_u, reg_some, thn_normal, thn_exit, thn_ret, cnd_t, cnd_f, blk_normal, blk_ret, blk_exit, x_seq, x_region, x_cond, x_block, x_loop, x_ret, x_exit, x_skip, e_mov, e_pick, pk_t, pk_f, withH_some, e_box, e_load, e_store, stH_some, e_nil, e_bin, e_eqv, eqH_f, eqH_t, e_un, e_fa, e_ia, ia_eq, nat_eq, natV_nat, e_len, lnH_some, e_extract, ex_0, ex_1, e_call0, e_call1, e_call2, e_call3, pc0_eq, pc1_some, pc2_some, pc3_some, fin_some, g_var0, g_vars, g_loc0, g_locs, g_int, g_bool, g_str, g_sl, s_none, s_zero, s_succ, cl_nil, cl_str, cl_bool, cl_slc, cl_own, evFa, evNil, asEl, evBin, intBin, strBin, evUn, len_nil, len_slc, len_str, clr, List.length_nil, List.length_cons, List.getElem?_cons_zero, List.getElem?_cons_succ, Nat.reduceAdd, Nat.zero_add, Nat.add_zero, Nat.reduceLeDiff, Nat.reduceSub, ↓reduceIte, List.drop_succ_cons, List.drop_zero, List.take_succ_cons, List.take_zero, Bool.false_eq_true, List.nil_append, List.cons_append, Bool.not_true, Bool.not_false, cond_true, cond_false, bne, lv_ret, lv_normal, res1, res2, lv2_some, res_var, res_cell, lvf_v, lvf_slc, res1c, lvo1_some]
    · rfl
end

/-- a heap whose last object is the counter -/
theorem ctr_new {h : List AO} (hh : h.all (AO.below h.length) = true) : Ctr (h ++ [.box [.v (.int .i64 0)]]) h.length 0 [.v (.int .i64 0)] := by
  refine ⟨by simp, by simp, ?_, rfl⟩
  rw [List.all_append, Bool.and_eq_true]
  exact ⟨all_below_mono (by simp) hh, rfl⟩
theorem ctr_new_eq {h : List AO} {n m : Int} : ctr (h ++ [.box [.v (.int .i64 n)]]) h.length 0 [.v (.int .i64 n)] m = h ++ [.box [.v (.int .i64 m)]] := by
  simp [ctr]

theorem walks {b : AV} {bs : List (Int × Tm)} (hb : IsB b bs) (hl : bs.length ≤ 100000) {a : AV} {t : Tm} (ht : IsT a t) : ∃ x y, IsT x (walkT bs.reverse 2000 t).1 ∧ IsT y (walkT bs.reverse 2000 t).1 ∧ callW F 11 [b, a] [] = some (.tup [x, .v (.int .i64 (walkT bs.reverse 2000 t).2.1)], []) ∧ callW F 12 [b, a] [] = some (.tup [y, .v (.int .i64 (walkT bs.reverse 2000 t).2.1)], []) := by
  obtain ⟨es, hes, hk1, hk2⟩ := looks hb hl
  have hbs : ∀ h : List AO, b.snap1 h = some b := by
    intro h; cases hb <;> rfl
  have h0 : ([.box a.cells, .box zeroC] : List AO).all (AO.below 2) = true := by
    have := below_mono (Nat.zero_le 2) _ ht.bel
    simp only [List.all_cons, List.all_nil, this, Bool.and_true]; rfl
  have hc := ctr_new (h := [.box a.cells, .box zeroC]) h0
  have hsn : ∀ h : List AO, a.snap1 h = some a := fun h => ht.snap
  obtain ⟨x, hx, h31⟩ := follow_ok hc hes.reverse hbs hk1 2000 (by omega) ht
  obtain ⟨y, hy, h32⟩ := meter_ok hc hes.reverse hbs hk2 2000 (by omega) ht
  rw [ctr_new_eq, ctr_new_eq] at h31 h32
  refine ⟨.agg x, .agg y, hx, hy, ?_, ?_⟩
  · refine callW_pure (c := c11) rfl rfl 0 ?_
    generalize walkT bs.reverse 2000 t = w at hx h31 ⊢
    obtain ⟨w1, w2, w3⟩ := w
    have g1 := lvt hx
    cases hx
    cases ht
    have e1 : ((2000 : Nat) : Int) = 2000 := rfl
    simp only [AV.cells, zeroC, e1, List.cons_append, List.nil_append, List.length_cons, List.length_nil, Nat.zero_add, Nat.reduceAdd] at h31
    simp only [c11, start, List.replicate, c11_0, c11_1, c11_2, q9z, h31, e_callh, g1, e_bslice1, e_bslice2, bs1, bs2, e_build, bdH_some, bd_nil, bd_cons, bd1, cl_agg, cl_int, toL, List.map_cons, List.map_nil, putAt, List.set_cons_zero, List.set_cons_succ, and_self, Nat.le_refl, evStore, app_get, app_set, g_agg, run_nil, run_cons, stp_plain, stp_guard, put_some, pass_eq, pick_tt, pick_ff, pick_tf, pick_ft, pick_u, reg_some, thn_normal, thn_exit, thn_ret, cnd_t, cnd_f, blk_normal, blk_ret, blk_exit, x_seq, x_region, x_cond, x_block, x_loop, x_ret, x_exit, x_skip, e_mov, e_pick, pk_t, pk_f, withH_some, e_box, bx_some, e_load, e_store, stH_some, e_nil, e_bin, e_eqv, eqH_f, eqH_t, e_un, e_fa, e_ia, ia_eq, nat_eq, natV_nat, e_len, lnH_some, e_extract, ex_0, ex_1, e_call0, e_call1, e_call2, e_call3, pc0_eq, pc1_some, pc2_some, pc3_some, fin_some, g_var0, g_vars, g_loc0, g_locs, g_int, g_bool, g_str, g_sl, s_none, s_zero, s_succ, cl_nil, cl_str, cl_bool, cl_slc, cl_own, evFa, evNil, evLoad, asEl, evBin, intBin, strBin, evUn, len_nil, len_slc, len_str, clr, List.length_nil, List.length_cons, List.getElem?_cons_zero, List.getElem?_cons_succ, Nat.reduceAdd, Nat.zero_add, Nat.add_zero, Nat.reduceLeDiff, Nat.reduceSub, ↓reduceIte, List.drop_succ_cons, List.drop_zero, List.take_succ_cons, List.take_zero, Bool.false_eq_true, List.nil_append, List.cons_append, Bool.not_true, Bool.not_false, cond_true, cond_false, bne, lv_ret, lv_normal, res1, res2, lv2_some, res_var, res_cell, lvf_v, lvf_slc, res1c, lvo1_some]
  · refine callW_pure (c := c12) rfl rfl 0 ?_
    generalize walkT bs.reverse 2000 t = w at hy h32 ⊢
    obtain ⟨w1, w2, w3⟩ := w
    have g1 := lvt hy
    cases hy
    cases ht
    have e0 : (2000 : Int) - ((2000 : Nat) : Int) = 0 := rfl
    simp only [AV.cells, zeroC, e0, List.cons_append, List.nil_append, List.length_cons, List.length_nil, Nat.zero_add, Nat.reduceAdd] at h32
    simp only [c12, start, List.replicate, c12_0, c12_1, c12_2, q9z, h32, e_callh, g1, e_bslice1, e_bslice2, bs1, bs2, e_build, bdH_some, bd_nil, bd_cons, bd1, cl_agg, cl_int, toL, List.map_cons, List.map_nil, putAt, List.set_cons_zero, List.set_cons_succ, and_self, Nat.le_refl, evStore, app_get, app_set, g_agg, run_nil, run_cons, stp_plain, stp_guard, put_some, pass_eq, pick_tt, pick_ff, pick_tf, pick_ft, pick_u, reg_some, thn_normal, thn_exit, thn_ret, cnd_t, cnd_f, blk_normal, blk_ret, blk_exit, x_seq, x_region, x_cond, x_block, x_loop, x_ret, x_exit, x_skip, e_mov, e_pick, pk_t, pk_f, withH_some, e_box, bx_some, e_load, e_store, stH_some, e_nil, e_bin, e_eqv, eqH_f, eqH_t, e_un, e_fa, e_ia, ia_eq, nat_eq, natV_nat, e_len, lnH_some, e_extract, ex_0, ex_1, e_call0, e_call1, e_call2, e_call3, pc0_eq, pc1_some, pc2_some, pc3_some, fin_some, g_var0, g_vars, g_loc0, g_locs, g_int, g_bool, g_str, g_sl, s_none, s_zero, s_succ, cl_nil, cl_str, cl_bool, cl_slc, cl_own, evFa, evNil, evLoad, asEl, evBin, intBin, strBin, evUn, len_nil, len_slc, len_str, clr, List.length_nil, List.length_cons, List.getElem?_cons_zero, List.getElem?_cons_succ, Nat.reduceAdd, Nat.zero_add, Nat.add_zero, Nat.reduceLeDiff, Nat.reduceSub, ↓reduceIte, List.drop_succ_cons, List.drop_zero, List.take_succ_cons, List.take_zero, Bool.false_eq_true, List.nil_append, List.cons_append, Bool.not_true, Bool.not_false, cond_true, cond_false, bne, lv_ret, lv_normal, res1, res2, lv2_some, res_var, res_cell, lvf_v, lvf_slc, res1c, lvo1_some]
end Go.AE.Ytpgoibncgekflaa
end

/-! Fresh, of the program and of the document: both shift the numbers of all Vars. -/
section
set_option linter.unusedVariables false
set_option linter.unusedSimpArgs false
namespace Go.AE.Ytpgoibncgekflaa
open Go Go.AE Go.Proofs.Ytpgoibncgekflaa

mutual
def shiftT (by' : Int) : Tm → Tm
  | .mk k s n l => .mk k s (if k = 1 then IntKind.i64.wrap (n + by') else n) (shiftL by' l)
def shiftL (by' : Int) : List Tm → List Tm
  | [] => []
  | t :: l => shiftT by' t :: shiftL by' l
end
mutual
def size : Tm → Nat
  | .mk _ _ _ l => 1 + sizeL l
def sizeL : List Tm → Nat
  | [] => 0
  | t :: l => size t + sizeL l
end
theorem size_pos (t : Tm) : 1 ≤ size t := by cases t; simp only [size]; omega
theorem sizeL_len : ∀ l : List Tm, l.length ≤ sizeL l
  | [] => Nat.le_refl _
  | t :: l => by
    have := sizeL_len l
    have := size_pos t
    simp only [sizeL, List.length_cons]; omega
theorem size_mem : ∀ {l : List Tm} {t : Tm}, t ∈ l → size t ≤ sizeL l
  | u :: l, t, h => by
    simp only [sizeL]
    rcases List.mem_cons.1 h with rfl | h
    · omega
    · have := size_mem h; omega
theorem shiftL_len (by' : Int) : ∀ l : List Tm, (shiftL by' l).length = l.length
  | [] => rfl
  | t :: l => by simp [shiftL, shiftL_len by' l]

theorem IsL.sl {c : AV} {l : List Tm} (h : IsL c l) : ∃ es, Sl 4 c es ∧ All2 es l ∧ es.length ≤ maxLen := by
  cases h with
  | nil => exact ⟨[], .nil, .nil, by simp⟩
  | slc ex nn es l h hb => exact ⟨es, .slc ex nn es, h, hb⟩
theorem Sl.isL {c : AV} {es : List AV} {l : List Tm} (h : Sl 4 c es) (ha : All2 es l) (hb : es.length ≤ maxLen) : IsL c l := by
  cases h with
  | nil => cases ha; exact .nil
  | slc ex nn es => exact .slc ex nn es l ha hb
theorem All2.app : ∀ {es es' : List AV} {l l' : List Tm}, All2 es l → All2 es' l' → All2 (es ++ es') (l ++ l')
  | _, _, _, _, .nil, h => h
  | _, _, _, _, .cons a t es ts h hs, h' => .cons a t _ _ h (hs.app h')
theorem All2.one {a : AV} {t : Tm} (h : IsT a t) : All2 [a] [t] := .cons a t [] [] h .nil
theorem small_max {n : Nat} (h : n ≤ 100000) : n ≤ maxLen := by have : maxLen = 9223372036854775807 := rfl; omega

/-- a round's copy of an element: made, filled, read -/
theorem IsT.st {e : AV} {t : Tm} (ht : IsT e t) (h : List AO) (cs : List AV) (hl : cs.length = 4) : evStore (h ++ [.box cs]) 4 (.ptr h.length 0) e = some (h ++ [.box e.cells]) := st_new ht.cl.1 ht.cl.2 hl
theorem IsT.ld {e : AV} {t : Tm} (ht : IsT e t) (h : List AO) : evLoad (h ++ [.box e.cells]) true 4 (.ptr h.length 0) = some e := by
  rw [ld_new, if_pos (by rw [ht.cl.2]; omega), List.drop_zero]; exact ht.asEl

/-! ### The document's -/
def K35 : List Bool := [false, true, true, true, true, false, false, true, true, true, false]
def L35 (x : Int) (acc c : AV) (len i : Int) : List AV := [.junk, .v (.int .i64 x), .ptr 0 0, .ptr 1 0, acc, .junk, .junk, c, .v (.int .i64 len), .v (.int .i64 i), .junk]

theorem shift_loop {K : Nat} {c : AV} {es : List AV} (hs : Sl 4 c es) (hm : es.length ≤ 100000) (x : Int) :
    ∀ (l : List Tm) (i : Nat) (acc : AV) (ds : List AV) (dl : List Tm) (h : List AO) (vars : List AV), i + l.length = es.length → ds.length = i → All2 (es.drop i) l → All2 ds dl → (∀ t ∈ l, ∀ (e : AV), IsT e t → ∃ r, IsT r (shiftT x t) ∧ callW F 35 [e, .v (.int .i64 x)] [] = some (r, [])) →
      Acc 4 h acc ds → clr K35 vars = L35 x acc c es.length i →
      ∃ acc' ds' h' x5 x6 x10, loopN (exec (callW F) K c35_9) K35 (l.length + 1) vars h = some (.exit 0, [.junk, .v (.int .i64 x), .ptr 0 0, .ptr 1 0, acc', x5, x6, c, .v (.int .i64 es.length), .v (.int .i64 es.length), x10], h') ∧ Acc 4 h' acc' ds' ∧ All2 ds' (dl ++ shiftL x l) ∧ ds'.length = es.length ∧ Keeps h h' := by
  intro l
  induction l with
  | nil =>
    intro i acc ds dl h vars hi hds _ hall _ ha hv
    have hil : i = es.length := by simpa using hi
    subst hil
    have hlt : decide ((es.length : Int) < (es.length : Int)) = false := by simp
    refine ⟨acc, ds, h, .junk, .junk, .v (.bool false), loop_exit ?_, ha, by simpa [shiftL] using hall, hds, .refl h⟩
    rw [hv]
    simp only [L35, c35_9, c35_5, hlt, e_bslice1, e_bslice2, bs1, bs2, e_build, bdH_some, bd_nil, bd_cons, bd1, cl_agg, cl_int, toL, List.map_cons, List.map_nil, putAt, List.set_cons_zero, List.set_cons_succ, and_self, Nat.le_refl, app_get, app_set, g_agg, run_nil, run_cons, stp_plain, stp_guard, put_some, pass_eq, pick_tt, pick_ff, pick_tf, pick_ft, pick_u, reg_some, thn_normal, thn_exit, thn_ret, cnd_t, cnd_f, blk_normal, blk_ret, blk_exit, x_seq, x_region, x_cond, x_block, x_loop, x_ret, x_exit, x_skip, e_mov, e_pick, pk_t, pk_f, withH_some, e_box, bx_some, e_load, e_store, stH_some, e_nil, e_bin, e_eqv, eqH_f, eqH_t, e_un, e_fa, e_ia, ia_eq, nat_eq, natV_nat, e_len, lnH_some, e_extract, ex_0, ex_1, e_call0, e_call1, e_call2, e_call3, pc0_eq, pc1_some, pc2_some, pc3_some, fin_some, g_var0, g_vars, g_loc0, g_locs, g_int, g_bool, g_str, g_sl, s_none, s_zero, s_succ, cl_nil, cl_str, cl_bool, cl_slc, cl_own, evFa, evNil, asEl, evBin, intBin, strBin, evUn, len_nil, len_slc, len_str, clr, List.length_nil, List.length_cons, List.getElem?_cons_zero, List.getElem?_cons_succ, Nat.reduceAdd, Nat.zero_add, Nat.add_zero, Nat.reduceLeDiff, Nat.reduceSub, ↓reduceIte, List.drop_succ_cons, List.drop_zero, List.take_succ_cons, List.take_zero, Bool.false_eq_true, List.nil_append, List.cons_append, Bool.not_true, Bool.not_false, cond_true, cond_false, bne, lv_ret, lv_normal, res1, res2, lv2_some, res_var, res_cell, lvf_v, lvf_slc, res1c, lvo1_some]
  | cons t l ih =>
    intro i acc ds dl h vars hi hds hes hall hcall ha hv
    have hil : i < es.length := by simp at hi; omega
    have he : es[i]? = some (es[i]'hil) := List.getElem?_eq_getElem _
    have hd : es.drop i = es[i] :: es.drop (i + 1) := List.drop_eq_getElem_cons hil
    rw [hd] at hes
    cases hes with
    | cons _ _ _ _ hT hs' =>
    obtain ⟨r, hr, hc⟩ := hcall t (by simp) _ hT
    obtain ⟨acc', h2, h3, h4, h5⟩ := (ha.app (.box (es[i]).cells)).add (x := .slc 4 true true [r]) (ys := [r]) (bytes := 56) elems_one (by
      have : room = 140737488355328 := rfl
      simp only [fits, List.length_cons, List.length_nil, decide_eq_true_eq]; omega)
    have hlt : (decide ((i : Int) < (es.length : Int))) = true := by simp; omega
    have q1 := hs.ia he
    have q3 : ∀ h : List AO, evLoad h true 4 (.ip (es[i]).cells) = some es[i] := fun h => hT.load
    have q5 : ∀ h : List AO, (es[i]).snap1 h = some es[i] := fun h => hT.snap
    have q6 : ∀ h : List AO, r.snap1 h = some r := fun h => hr.snap
    have q7 : r.cl = some r.cells := hr.cl.1
    have q8 : r.cells.length = 4 := hr.cl.2
    have st : exec (callW F) K c35_9 (L35 x acc c es.length i) h = some (.normal, [.junk, .v (.int .i64 x), .ptr 0 0, .ptr 1 0, acc', .ptr h.length 0, .junk, c, .v (.int .i64 es.length), .v (.int .i64 ((i + 1 : Nat) : Int)), .v (.bool true)], h2) := by
      have hz : ([.v (.int .i64 0), .v (.string ⟨#[]⟩), .v (.int .i64 0), .v (.slice none 0 0)] : List AV).length = 4 := rfl
      simp only [L35, c35_9, c35_5, c35_6, c35_7, c35_8, hlt, wrap_succ hil (small_max hm), q1, q3, q5, q6, q7, q8, hc, h3, hT.st _ _ hz, hT.ld, snapv, q9z, e_append, bs1_some q7 q8, e_bslice1, e_bslice2, bs1, bs2, e_build, bdH_some, bd_nil, bd_cons, bd1, cl_agg, cl_int, toL, List.map_cons, List.map_nil, putAt, List.set_cons_zero, List.set_cons_succ, and_self, Nat.le_refl, app_get, app_set, g_agg, run_nil, run_cons, stp_plain, stp_guard, put_some, pass_eq, pick_tt, pick_ff, pick_tf, pick_ft, pick_u, reg_some, thn_normal, thn_exit, thn_ret, cnd_t, cnd_f, blk_normal, blk_ret, blk_exit, x_seq, x_region, x_cond, x_block, x_loop, x_ret, x_exit, x_skip, e_mov, e_pick, pk_t, pk_f, withH_some, e_box, bx_some, e_load, e_store, stH_some, e_nil, e_bin, e_eqv, eqH_f, eqH_t, e_un, e_fa, e_ia, ia_eq, nat_eq, natV_nat, e_len, lnH_some, e_extract, ex_0, ex_1, e_call0, e_call1, e_call2, e_call3, pc0_eq, pc1_some, pc2_some, pc3_some, fin_some, g_var0, g_vars, g_loc0, g_locs, g_int, g_bool, g_str, g_sl, s_none, s_zero, s_succ, cl_nil, cl_str, cl_bool, cl_slc, cl_own, evFa, evNil, asEl, evBin, intBin, strBin, evUn, len_nil, len_slc, len_str, clr, List.length_nil, List.length_cons, List.getElem?_cons_zero, List.getElem?_cons_succ, Nat.reduceAdd, Nat.zero_add, Nat.add_zero, Nat.reduceLeDiff, Nat.reduceSub, ↓reduceIte, List.drop_succ_cons, List.drop_zero, List.take_succ_cons, List.take_zero, Bool.false_eq_true, List.nil_append, List.cons_append, Bool.not_true, Bool.not_false, cond_true, cond_false, bne, lv_ret, lv_normal, res1, res2, lv2_some, res_var, res_cell, lvf_v, lvf_slc, res1c, lvo1_some]
    rw [show (t :: l).length + 1 = (l.length + 1) + 1 from rfl, loop_normal (by rw [hv]; exact st)]
    obtain ⟨acc'', ds', h', x5, x6, x10, g1, g2, g3, g4, g5⟩ := ih (i + 1) acc' (ds ++ [r]) (dl ++ [shiftT x t]) h2 [.junk, .v (.int .i64 x), .ptr 0 0, .ptr 1 0, acc', .ptr h.length 0, .junk, c, .v (.int .i64 es.length), .v (.int .i64 ((i + 1 : Nat) : Int)), .v (.bool true)] (by simp at hi; omega) (by simp [hds]) hs' (hall.app (.one hr)) (fun t ht => hcall t (by simp [ht])) h4 rfl
    refine ⟨acc'', ds', h', x5, x6, x10, g1, g2, ?_, g4, ((Keeps.app _ _).trans h5).trans g5⟩
    rw [shiftL]
    simpa using g3

theorem shift35 (x : Int) : ∀ (N : Nat) (t : Tm) (a : AV), SizeOf.sizeOf t < N → size t ≤ 100000 → IsT a t → ∃ r, IsT r (shiftT x t) ∧ callW F 35 [a, .v (.int .i64 x)] [] = some (r, []) := by
  intro N
  induction N with
  | zero => intro t a h; omega
  | succ N ih =>
    intro t a hN hsz ha
    cases ha with
    | mk k s n c l hc =>
    have h5 := Tm.mk.sizeOf_spec k s n l
    simp only [size] at hsz
    have hll := sizeL_len l
    have hcall : ∀ t ∈ l, ∀ (e : AV), IsT e t → ∃ r, IsT r (shiftT x t) ∧ callW F 35 [e, .v (.int .i64 x)] [] = some (r, []) := by
      intro t ht e hT
      have h6 := List.sizeOf_lt_of_mem ht
      have h7 := size_mem ht
      exact ih t e (by omega) (by omega) hT
    obtain ⟨es, hs, hes, hm⟩ := hc.sl
    have e1 := hes.length
    have key : ∀ n' : Int, ∃ acc' ds' h' x5 x6 x10, loopN (exec (callW F) (l.length + 1) c35_9) K35 (l.length + 1) (L35 x (.v (.slice none 0 0)) c es.length 0) [.box [.v (.int .i64 k), .v (.string s), .v (.int .i64 n'), c], .box zeroC] = some (.exit 0, [.junk, .v (.int .i64 x), .ptr 0 0, .ptr 1 0, acc', x5, x6, c, .v (.int .i64 es.length), .v (.int .i64 es.length), x10], h') ∧ Acc 4 h' acc' ds' ∧ All2 ds' (shiftL x l) ∧ ds'.length = es.length ∧ Keeps [.box [.v (.int .i64 k), .v (.string s), .v (.int .i64 n'), c], .box zeroC] h' := by
      intro n'
      exact shift_loop (K := l.length + 1) hs (by omega) x l 0 (.v (.slice none 0 0)) [] [] _ (L35 x (.v (.slice none 0 0)) c es.length 0) (by omega) rfl (by simpa using hes) .nil hcall .nil rfl
    have last : ∀ (n' : Int) (acc' x5 x6 x10 : AV) (ds' : List AV) (h' : List AO), Acc 4 h' acc' ds' → All2 ds' (shiftL x l) → ds'.length = es.length → Keeps [.box [.v (.int .i64 k), .v (.string s), .v (.int .i64 n'), c], .box zeroC] h' →
        ∃ r, IsT r (.mk k s n' (shiftL x l)) ∧ lv [.cell 3 true 4] (exec (callW F) (l.length + 1) (.seq (.region [] [] c35_10) (.seq (.region [] [] c35_11) .ret)) [.junk, .v (.int .i64 x), .ptr 0 0, .ptr 1 0, acc', x5, x6, c, .v (.int .i64 es.length), .v (.int .i64 es.length), x10] h') = some (r, []) := by
      intro n' acc' x5 x6 x10 ds' h' ha hall hlen hk
      have b0 := hk.2 0 _ rfl
      have b1 := hk.2 1 _ rfl
      have hlt0 : 0 < h'.length := (List.getElem?_eq_some_iff.1 b0).1
      have hlt1 : 1 < h'.length := (List.getElem?_eq_some_iff.1 b1).1
      have s1 := bx_st (n := 1) (o := 3) (xs := [acc']) (x := acc') b0 ha.cl rfl (by simp)
      simp only [putAt, List.set_cons_succ, List.set_cons_zero] at s1
      have b0' : (h'.set 0 (.box [.v (.int .i64 k), .v (.string s), .v (.int .i64 n'), acc']))[0]? = some (.box [.v (.int .i64 k), .v (.string s), .v (.int .i64 n'), acc']) := by simp [hlt0]
      have b1' : (h'.set 0 (.box [.v (.int .i64 k), .v (.string s), .v (.int .i64 n'), acc']))[1]? = some (.box zeroC) := by simp [b1]
      have s2 := bx_st (n := 4) (o := 0) (x := .agg [.v (.int .i64 k), .v (.string s), .v (.int .i64 n'), acc']) b1' cl_agg rfl (by simp [zeroC])
      simp only [putAt, zeroC, List.set_cons_succ, List.set_cons_zero, Nat.zero_add, Nat.reduceAdd] at s2
      have b1'' : ((h'.set 0 (.box [.v (.int .i64 k), .v (.string s), .v (.int .i64 n'), acc'])).set 1 (.box [.v (.int .i64 k), .v (.string s), .v (.int .i64 n'), acc']))[1]? = some (.box [.v (.int .i64 k), .v (.string s), .v (.int .i64 n'), acc']) := by simp [hlt1]
      have l1 := bx_ld b0' (a := true) (n := 4) (o := 0)
      have l2 := bx_ld b1'' (a := true) (n := 4) (o := 0)
      have ha' : Acc 4 ((h'.set 0 (.box [.v (.int .i64 k), .v (.string s), .v (.int .i64 n'), acc'])).set 1 (.box [.v (.int .i64 k), .v (.string s), .v (.int .i64 n'), acc'])) acc' ds' := by
        cases ha with
        | nil => exact .nil
        | own id ver k es hr hk hne =>
          refine .own id ver k ds' ?_ hk hne
          have n0 : 0 ≠ id := fun e => by subst e; rw [b0] at hr; cases hr
          have n1 : 1 ≠ id := fun e => by subst e; rw [b1] at hr; cases hr
          rw [List.getElem?_set_ne n1, List.getElem?_set_ne n0]; exact hr
      obtain ⟨c', f1, f2⟩ := ha'.frz0
      refine ⟨.agg [.v (.int .i64 k), .v (.string s), .v (.int .i64 n'), c'], .mk k s n' c' _ (Sl.isL f2 hall (by omega)), ?_⟩
      have lf : lvf ((h'.set 0 (.box [.v (.int .i64 k), .v (.string s), .v (.int .i64 n'), acc'])).set 1 (.box [.v (.int .i64 k), .v (.string s), .v (.int .i64 n'), acc'])) (.agg [.v (.int .i64 k), .v (.string s), .v (.int .i64 n'), acc']) = some (.agg [.v (.int .i64 k), .v (.string s), .v (.int .i64 n'), c'], []) := by
        have fz : ∀ (x : Value) (h : List AO), (AV.v x).frz0 0 h = some (.v x) := fun _ _ => rfl
        simp [lvf, AV.frz2, AV.frz1, fz, f1]
      simp only [c35_10, c35_11, s1, s2, l1, l2, lf, e_bslice1, e_bslice2, bs1, bs2, e_build, bdH_some, bd_nil, bd_cons, bd1, cl_agg, cl_int, toL, List.map_cons, List.map_nil, putAt, List.set_cons_zero, List.set_cons_succ, and_self, Nat.le_refl, app_get, app_set, g_agg, run_nil, run_cons, stp_plain, stp_guard, put_some, pass_eq, pick_tt, pick_ff, pick_tf, pick_ft, pick_u, reg_some, thn_normal, thn_exit, thn_ret, cnd_t, cnd_f, blk_normal, blk_ret, blk_exit, x_seq, x_region, x_cond, x_block, x_loop, x_ret, x_exit, x_skip, e_mov, e_pick, pk_t, pk_f, withH_some, e_box, bx_some, e_load, e_store, stH_some, e_nil, e_bin, e_eqv, eqH_f, eqH_t, e_un, e_fa, e_ia, ia_eq, nat_eq, natV_nat, e_len, lnH_some, e_extract, ex_0, ex_1, e_call0, e_call1, e_call2, e_call3, pc0_eq, pc1_some, pc2_some, pc3_some, fin_some, g_var0, g_vars, g_loc0, g_locs, g_int, g_bool, g_str, g_sl, s_none, s_zero, s_succ, cl_nil, cl_str, cl_bool, cl_slc, cl_own, evFa, evNil, asEl, evBin, intBin, strBin, evUn, len_nil, len_slc, len_str, clr, List.length_nil, List.length_cons, List.getElem?_cons_zero, List.getElem?_cons_succ, Nat.reduceAdd, Nat.zero_add, Nat.add_zero, Nat.reduceLeDiff, Nat.reduceSub, ↓reduceIte, List.drop_succ_cons, List.drop_zero, List.take_succ_cons, List.take_zero, Bool.false_eq_true, List.nil_append, List.cons_append, Bool.not_true, Bool.not_false, cond_true, cond_false, bne, lv_ret, lv_normal, res1, res2, lv2_some, res_var, res_cell, lvf_v, lvf_slc, res1c, lvo1_some]
    by_cases hk : k = 1
    · have h1 : (k == 1) = true := by simpa using hk
      obtain ⟨acc', ds', h', x5, x6, x10, g1, g2, g3, g4, g5⟩ := key (IntKind.i64.wrap (n + x))
      obtain ⟨r, hr, hlv⟩ := last _ acc' x5 x6 x10 ds' h' g2 g3 g4 g5
      refine ⟨r, by rw [shiftT, if_pos hk]; exact hr, callW_pure (c := c35) rfl rfl (l.length + 1) ?_⟩
      rw [← hlv]
      show lv [.cell 3 true 4] (exec (callW F) (l.length + 1) (.seq (.region [] [] c35_0) (.seq (.seq (.region [] [] c35_1) (.cond (.var 6) (.region [] [] c35_2) .skip)) (.seq (.region [] [] c35_3) (.seq (.seq (.region [] [] c35_4) (.block 0 (.loop K35 [] c35_9))) (.seq (.region [] [] c35_10) (.seq (.region [] [] c35_11) .ret)))))) _ _) = _
      generalize (CC.seq (.region [] [] c35_10) (.seq (.region [] [] c35_11) .ret)) = rest
      simp only [zeroC] at g1
      simp only [c35, start, List.replicate, c35_0, c35_1, c35_2, c35_3, c35_4, h1, hs.len, q9z, evStore, e_bslice1, e_bslice2, bs1, bs2, e_build, bdH_some, bd_nil, bd_cons, bd1, cl_agg, cl_int, toL, List.map_cons, List.map_nil, putAt, List.set_cons_zero, List.set_cons_succ, and_self, Nat.le_refl, evStore, app_get, app_set, g_agg, run_nil, run_cons, stp_plain, stp_guard, put_some, pass_eq, pick_tt, pick_ff, pick_tf, pick_ft, pick_u, reg_some, thn_normal, thn_exit, thn_ret, cnd_t, cnd_f, blk_normal, blk_ret, blk_exit, x_seq, x_region, x_cond, x_block, x_loop, x_ret, x_exit, x_skip, e_mov, e_pick, pk_t, pk_f, withH_some, e_box, bx_some, e_load, e_store, stH_some, e_nil, e_bin, e_eqv, eqH_f, eqH_t, e_un, e_fa, e_ia, ia_eq, nat_eq, natV_nat, e_len, lnH_some, e_extract, ex_0, ex_1, e_call0, e_call1, e_call2, e_call3, pc0_eq, pc1_some, pc2_some, pc3_some, fin_some, g_var0, g_vars, g_loc0, g_locs, g_int, g_bool, g_str, g_sl, s_none, s_zero, s_succ, cl_nil, cl_str, cl_bool, cl_slc, cl_own, evFa, evNil, evLoad, asEl, evBin, intBin, strBin, evUn, len_nil, len_slc, len_str, clr, List.length_nil, List.length_cons, List.getElem?_cons_zero, List.getElem?_cons_succ, Nat.reduceAdd, Nat.zero_add, Nat.add_zero, Nat.reduceLeDiff, Nat.reduceSub, ↓reduceIte, List.drop_succ_cons, List.drop_zero, List.take_succ_cons, List.take_zero, Bool.false_eq_true, List.nil_append, List.cons_append, Bool.not_true, Bool.not_false, cond_true, cond_false, bne, lv_ret, lv_normal, res1, res2, lv2_some, res_var, res_cell, lvf_v, lvf_slc, res1c, lvo1_some]
      rw [loop_cong (v2 := L35 x (.v (.slice none 0 0)) c es.length 0) (by rfl), g1]
      simp only [blk_exit, thn_normal]
    · have h1 : (k == 1) = false := by simpa using hk
      obtain ⟨acc', ds', h', x5, x6, x10, g1, g2, g3, g4, g5⟩ := key n
      obtain ⟨r, hr, hlv⟩ := last _ acc' x5 x6 x10 ds' h' g2 g3 g4 g5
      refine ⟨r, by rw [shiftT, if_neg hk]; exact hr, callW_pure (c := c35) rfl rfl (l.length + 1) ?_⟩
      rw [← hlv]
      show lv [.cell 3 true 4] (exec (callW F) (l.length + 1) (.seq (.region [] [] c35_0) (.seq (.seq (.region [] [] c35_1) (.cond (.var 6) (.region [] [] c35_2) .skip)) (.seq (.region [] [] c35_3) (.seq (.seq (.region [] [] c35_4) (.block 0 (.loop K35 [] c35_9))) (.seq (.region [] [] c35_10) (.seq (.region [] [] c35_11) .ret)))))) _ _) = _
      generalize (CC.seq (.region [] [] c35_10) (.seq (.region [] [] c35_11) .ret)) = rest
      simp only [zeroC] at g1
      simp only [c35, start, List.replicate, c35_0, c35_1, c35_3, c35_4, h1, hs.len, q9z, evStore, e_bslice1, e_bslice2, bs1, bs2, e_build, bdH_some, bd_nil, bd_cons, bd1, cl_agg, cl_int, toL, List.map_cons, List.map_nil, putAt, List.set_cons_zero, List.set_cons_succ, and_self, Nat.le_refl, evStore, app_get, app_set, g_agg, run_nil, run_cons, stp_plain, stp_guard, put_some, pass_eq, pick_tt, pick_ff, pick_tf, pick_ft, pick_u, reg_some, thn_normal, thn_exit, thn_ret, cnd_t, cnd_f, blk_normal, blk_ret, blk_exit, x_seq, x_region, x_cond, x_block, x_loop, x_ret, x_exit, x_skip, e_mov, e_pick, pk_t, pk_f, withH_some, e_box, bx_some, e_load, e_store, stH_some, e_nil, e_bin, e_eqv, eqH_f, eqH_t, e_un, e_fa, e_ia, ia_eq, nat_eq, natV_nat, e_len, lnH_some, e_extract, ex_0, ex_1, e_call0, e_call1, e_call2, e_call3, pc0_eq, pc1_some, pc2_some, pc3_some, fin_some, g_var0, g_vars, g_loc0, g_locs, g_int, g_bool, g_str, g_sl, s_none, s_zero, s_succ, cl_nil, cl_str, cl_bool, cl_slc, cl_own, evFa, evNil, evLoad, asEl, evBin, intBin, strBin, evUn, len_nil, len_slc, len_str, clr, List.length_nil, List.length_cons, List.getElem?_cons_zero, List.getElem?_cons_succ, Nat.reduceAdd, Nat.zero_add, Nat.add_zero, Nat.reduceLeDiff, Nat.reduceSub, ↓reduceIte, List.drop_succ_cons, List.drop_zero, List.take_succ_cons, List.take_zero, Bool.false_eq_true, List.nil_append, List.cons_append, Bool.not_true, Bool.not_false, cond_true, cond_false, bne, lv_ret, lv_normal, res1, res2, lv2_some, res_var, res_cell, lvf_v, lvf_slc, res1c, lvo1_some]
      rw [loop_cong (v2 := L35 x (.v (.slice none 0 0)) c es.length 0) (by rfl), g1]
      simp only [blk_exit, thn_normal]

theorem shift17 (x : Int) {t : Tm} {a : AV} (hsz : size t ≤ 100000) (ha : IsT a t) : ∃ r, IsT r (shiftT x t) ∧ callW F 17 [a, .v (.int .i64 x)] [] = some (r, []) := by
  obtain ⟨r, hr, hc⟩ := shift35 x _ t a (Nat.lt_succ_self _) hsz ha
  refine ⟨r, hr, callW_pure (c := c17) rfl rfl 0 ?_⟩
  have g := lv1 hr
  have q5 : ∀ h : List AO, a.snap1 h = some a := fun h => ha.snap
  generalize shiftT x t = u at hr
  cases hr
  cases ha
  simp only [c17, start, List.replicate, c17_0, c17_1, q5, hc, g, snapv, q9z, e_bslice1, e_bslice2, bs1, bs2, e_build, bdH_some, bd_nil, bd_cons, bd1, cl_agg, cl_int, toL, List.map_cons, List.map_nil, putAt, List.set_cons_zero, List.set_cons_succ, and_self, Nat.le_refl, evStore, app_get, app_set, g_agg, run_nil, run_cons, stp_plain, stp_guard, put_some, pass_eq, pick_tt, pick_ff, pick_tf, pick_ft, pick_u, reg_some, thn_normal, thn_exit, thn_ret, cnd_t, cnd_f, blk_normal, blk_ret, blk_exit, x_seq, x_region, x_cond, x_block, x_loop, x_ret, x_exit, x_skip, e_mov, e_pick, pk_t, pk_f, withH_some, e_box, bx_some, e_load, e_store, stH_some, e_nil, e_bin, e_eqv, eqH_f, eqH_t, e_un, e_fa, e_ia, ia_eq, nat_eq, natV_nat, e_len, lnH_some, e_extract, ex_0, ex_1, e_call0, e_call1, e_call2, e_call3, pc0_eq, pc1_some, pc2_some, pc3_some, fin_some, g_var0, g_vars, g_loc0, g_locs, g_int, g_bool, g_str, g_sl, s_none, s_zero, s_succ, cl_nil, cl_str, cl_bool, cl_slc, cl_own, evFa, evNil, evLoad, asEl, evBin, intBin, strBin, evUn, len_nil, len_slc, len_str, clr, List.length_nil, List.length_cons, List.getElem?_cons_zero, List.getElem?_cons_succ, Nat.reduceAdd, Nat.zero_add, Nat.add_zero, Nat.reduceLeDiff, Nat.reduceSub, ↓reduceIte, List.drop_succ_cons, List.drop_zero, List.take_succ_cons, List.take_zero, Bool.false_eq_true, List.nil_append, List.cons_append, Bool.not_true, Bool.not_false, cond_true, cond_false, bne, lv_ret, lv_normal, res1, res2, lv2_some, res_var, res_cell, lvf_v, lvf_slc, res1c, lvo1_some]
end Go.AE.Ytpgoibncgekflaa
end

/-! Fresh of the program: it shifts the numbers of all Vars. -/
section
set_option linter.unusedVariables false
set_option linter.unusedSimpArgs false
namespace Go.AE.Ytpgoibncgekflaa
open Go Go.AE Go.Proofs.Ytpgoibncgekflaa

theorem turn_ok {H : List AO} {id : Nat} {x : Int} (hid : H[id]? = some (.box [.v (.int .i64 x)])) (hb : H.all (AO.below H.length) = true) (n : Int) : callW F 50 [.v (.int .i64 n), .ptr id 0] H = some (.v (.int .i64 (IntKind.i64.wrap (n + x))), H) := by
  refine callW_own (c := c50) rfl rfl 0 ?_
  have l1 := bx_ld (h := H ++ []) (id := id) (by rw [List.append_nil]; exact hid) (a := false) (n := 1) (o := 0)
  have body : exec (callW F) 0 c50.body (start c50 [.v (.int .i64 n), .ptr id 0]) (H ++ []) = some (.ret, [.v (.int .i64 n), .ptr id 0, .v (.int .i64 (IntKind.i64.wrap (n + x)))], H ++ []) := by
    simp only [c50, start, List.replicate, c50_0, c50_1, l1, e_bslice1, e_bslice2, bs1, bs2, e_build, bdH_some, bd_nil, bd_cons, bd1, cl_agg, cl_int, toL, List.map_cons, List.map_nil, putAt, List.set_cons_zero, List.set_cons_succ, and_self, Nat.le_refl, app_get, app_set, g_agg, run_nil, run_cons, stp_plain, stp_guard, put_some, pass_eq, pick_tt, pick_ff, pick_tf, pick_ft, pick_u, reg_some, thn_normal, thn_exit, thn_ret, cnd_t, cnd_f, blk_normal, blk_ret, blk_exit, x_seq, x_region, x_cond, x_block, x_loop, x_ret, x_exit, x_skip, e_mov, e_pick, pk_t, pk_f, withH_some, e_box, e_load, e_store, stH_some, e_nil, e_bin, e_eqv, eqH_f, eqH_t, e_un, e_fa, e_ia, ia_eq, nat_eq, natV_nat, e_len, lnH_some, e_extract, ex_0, ex_1, e_call0, e_call1, e_call2, e_call3, pc0_eq, pc1_some, pc2_some, pc3_some, fin_some, g_var0, g_vars, g_loc0, g_locs, g_int, g_bool, g_str, g_sl, s_none, s_zero, s_succ, cl_nil, cl_str, cl_bool, cl_slc, cl_own, evFa, evNil, asEl, evBin, intBin, strBin, evUn, len_nil, len_slc, len_str, clr, List.length_nil, List.length_cons, List.getElem?_cons_zero, List.getElem?_cons_succ, Nat.reduceAdd, Nat.zero_add, Nat.add_zero, Nat.reduceLeDiff, Nat.reduceSub, ↓reduceIte, List.drop_succ_cons, List.drop_zero, List.take_succ_cons, List.take_zero, Bool.false_eq_true, List.nil_append, List.cons_append, Bool.not_true, Bool.not_false, cond_true, cond_false, bne, lv_ret, lv_normal, res1, res2, lv2_some, res_var, res_cell, lvf_v, lvf_slc, res1c, lvo1_some]
  rw [body, leave_own rfl hb]
  exact lvo_one rfl

theorem e_mkfn {call : CallF} {vars env : List AV} {h : List AO} {f : Fn} {first cap : List Opd} : evOp call vars env h (.mkfn f first cap) = some (.fn f (first.map (getO vars env)) (cap.map (getO vars env)), h) := rfl
def cv (call : CallF) (h : List AO) (xs : List AV) : AV → Option (AV × List AO)
  | .fn (.func f) first cap => call f (first ++ xs ++ cap) h
  | _ => none
theorem e_callv {call : CallF} {vars env : List AV} {h : List AO} {x : Opd} {args : List Opd} : evOp call vars env h (.callv x args) = cv call h (args.map (getO vars env)) (getO vars env x) := by
  simp only [evOp, cv]
  rfl
theorem cv_fn {call : CallF} {h : List AO} {f : FuncId} {xs first cap : List AV} : cv call h xs (.fn (.func f) first cap) = call f (first ++ xs ++ cap) h := rfl

section
variable {H : List AO} {l : List AO}
theorem h_ld {a : Bool} {sz k o : Nat} : evLoad (H ++ l) a sz (.ptr (H.length + k) o) = ldAt l k a sz o := own_ld rfl
theorem h_ld0 {a : Bool} {sz o : Nat} : evLoad (H ++ l) a sz (.ptr H.length o) = ldAt l 0 a sz o := own_ld0 rfl
theorem h_st {sz k o : Nat} {x : AV} : evStore (H ++ l) sz (.ptr (H.length + k) o) x = preH H (stAt l sz k o x) := own_st rfl
theorem h_st0 {sz o : Nat} {x : AV} : evStore (H ++ l) sz (.ptr H.length o) x = preH H (stAt l sz 0 o x) := own_st0 rfl
theorem h_bx {cs : List AV} : bx (H ++ l) (some cs) = some (.ptr (H.length + l.length) 0, H ++ (l ++ [.box cs])) := own_bx rfl

def K49 : List Bool := [false, true, true, true, true, false, false, false, false, true, true, true, false]
def fnV (id : Nat) : AV := .fn (.func 50) [] [.ptr id 0]
def L49 (id B n : Nat) (c : AV) (i : Int) : List AV := [.junk, fnV id, .ptr B 0, .ptr (B + 1) 0, .own 4 (B + 2) 0 0 n, .junk, .junk, .junk, .junk, c, .v (.int .i64 n), .v (.int .i64 i), .junk]

theorem zeroEl4 : zeroEl [(.int .i64 0), (.string ⟨#[]⟩), (.int .i64 0), (.slice none 0 0)] = .agg zeroC := rfl
theorem IsT.eta {a : AV} {t : Tm} (ht : IsT a t) : AV.agg a.cells = a := by
  cases ht; rfl
theorem IsT.cellB {a : AV} {t : Tm} (ht : IsT a t) : a.cells.all AV.isCell = true := by
  cases ht with
  | mk k s n c l hc => cases hc <;> rfl
theorem app_set_one {x : AO} {l : List AO} {k : Nat} (h : k < l.length) {y : AO} : (l ++ [x]).set k y = l.set k y ++ [x] := List.set_append_left _ _ h

theorem each_loop {K : Nat} {id : Nat} {c : AV} {es : List AV} {cs0 cs1 : List AV} (hs : Sl 4 c es) (hm : es.length ≤ 100000) (x : Int) (hid : H[id]? = some (.box [.v (.int .i64 x)])) (hb : H.all (AO.below H.length) = true) (hb0 : (AO.box cs0).below 0 = true) (hb1 : (AO.box cs1).below 0 = true) :
    ∀ (l : List Tm) (i : Nat) (ds : List AV) (dl : List Tm) (tail : List AO) (vars : List AV), i + l.length = es.length → ds.length = i → All2 (es.drop i) l → All2 ds dl → tail.all (AO.below 0) = true →
      (∀ t ∈ l, ∀ (e : AV) (H' : List AO), IsT e t → H'[id]? = some (.box [.v (.int .i64 x)]) → H'.all (AO.below H'.length) = true → ∃ r, IsT r (shiftT x t) ∧ callW F 49 [e, fnV id] H' = some (r, H')) →
      clr K49 vars = L49 id H.length es.length c i →
      ∃ ds' tail' x5 x6 x7 x8 x12, loopN (exec (callW F) K c49_12) K49 (l.length + 1) vars (H ++ (.box cs0 :: .box cs1 :: .row 4 0 (ds ++ List.replicate l.length (.agg zeroC)) 0 :: tail)) = some (.exit 0, [.junk, fnV id, .ptr H.length 0, .ptr (H.length + 1) 0, .own 4 (H.length + 2) 0 0 es.length, x5, x6, x7, x8, c, .v (.int .i64 es.length), .v (.int .i64 es.length), x12], H ++ (.box cs0 :: .box cs1 :: .row 4 0 ds' 0 :: tail')) ∧ All2 ds' (dl ++ shiftL x l) ∧ ds'.length = es.length := by
  intro l
  induction l with
  | nil =>
    intro i ds dl tail vars hi hds _ hall htl _ hv
    have hil : i = es.length := by simpa using hi
    subst hil
    have hlt : decide ((es.length : Int) < (es.length : Int)) = false := by simp
    refine ⟨ds, tail, .junk, .junk, .junk, .junk, .v (.bool false), loop_exit ?_, by simpa [shiftL] using hall, hds⟩
    rw [hv]
    simp only [L49, c49_12, c49_8, hlt, List.replicate, List.append_nil, e_bslice1, e_bslice2, bs1, bs2, e_build, bdH_some, bd_nil, bd_cons, bd1, cl_agg, cl_int, toL, List.map_cons, List.map_nil, putAt, List.set_cons_zero, List.set_cons_succ, and_self, Nat.le_refl, app_get, app_set, g_agg, run_nil, run_cons, stp_plain, stp_guard, put_some, pass_eq, pick_tt, pick_ff, pick_tf, pick_ft, pick_u, reg_some, thn_normal, thn_exit, thn_ret, cnd_t, cnd_f, blk_normal, blk_ret, blk_exit, x_seq, x_region, x_cond, x_block, x_loop, x_ret, x_exit, x_skip, e_mov, e_pick, pk_t, pk_f, withH_some, e_box, e_load, e_store, stH_some, e_nil, e_bin, e_eqv, eqH_f, eqH_t, e_un, e_fa, e_ia, ia_eq, nat_eq, natV_nat, e_len, lnH_some, e_extract, ex_0, ex_1, e_call0, e_call1, e_call2, e_call3, pc0_eq, pc1_some, pc2_some, pc3_some, fin_some, g_var0, g_vars, g_loc0, g_locs, g_int, g_bool, g_str, g_sl, s_none, s_zero, s_succ, cl_nil, cl_str, cl_bool, cl_slc, cl_own, evFa, evNil, asEl, evBin, intBin, strBin, evUn, len_nil, len_slc, len_str, clr, List.length_nil, List.length_cons, List.getElem?_cons_zero, List.getElem?_cons_succ, Nat.reduceAdd, Nat.zero_add, Nat.add_zero, Nat.reduceLeDiff, Nat.reduceSub, ↓reduceIte, List.drop_succ_cons, List.drop_zero, List.take_succ_cons, List.take_zero, Bool.false_eq_true, List.nil_append, List.cons_append, Bool.not_true, Bool.not_false, cond_true, cond_false, bne, lv_ret, lv_normal, res1, res2, lv2_some, res_var, res_cell, lvf_v, lvf_slc, res1c, lvo1_some]
  | cons t l ih =>
    intro i ds dl tail vars hi hds hes hall htl hcall hv
    have hil : i < es.length := by simp at hi; omega
    have he : es[i]? = some (es[i]'hil) := List.getElem?_eq_getElem _
    have hd : es.drop i = es[i] :: es.drop (i + 1) := List.drop_eq_getElem_cons hil
    rw [hd] at hes
    generalize es[i]'hil = e at hes he
    cases hes with
    | cons _ _ _ _ hT hs' =>
    have hlt : (decide ((i : Int) < (es.length : Int))) = true := by simp; omega
    have hlen : (ds ++ List.replicate (t :: l).length (AV.agg zeroC)).length = es.length := by simp at hi ⊢; omega
    have tl2 : (tail ++ [AO.box e.cells]).all (AO.below 0) = true := by
      have := hT.bel
      simp only [List.all_append, List.all_cons, List.all_nil, htl, this, Bool.and_true]
    have hbl : (H ++ (.box cs0 :: .box cs1 :: .row 4 0 (ds ++ List.replicate (t :: l).length (.agg zeroC)) 0 :: (tail ++ [AO.box e.cells])) : List AO).all (AO.below (H ++ (.box cs0 :: .box cs1 :: .row 4 0 (ds ++ List.replicate (t :: l).length (.agg zeroC)) 0 :: (tail ++ [AO.box e.cells])) : List AO).length) = true := by
      rw [List.all_append, Bool.and_eq_true]
      refine ⟨all_below_mono (by simp) hb, all_below_mono (Nat.zero_le _) ?_⟩
      have hr : ∀ L : List AV, (AO.row 4 0 L 0).below 0 = true := fun _ => rfl
      simp only [List.all_cons, hb0, hb1, hr, tl2, Bool.and_true]
    obtain ⟨r, hr, hc⟩ := hcall t (by simp) _ _ hT (his_get hid) hbl
    have q1 := hs.ia he
    have q3 : ∀ h : List AO, evLoad h true 4 (.ip e.cells) = some e := fun h => hT.load
    have q4 : e.cl = some e.cells := hT.cl.1
    have q4b : e.cells.length = 4 := hT.cl.2
    have q5 := hT.asEl
    -- the row
    have row : ∀ tl : List AO, (AO.box cs0 :: .box cs1 :: .row 4 0 (ds ++ List.replicate (t :: l).length (.agg zeroC)) 0 :: tl : List AO)[2]? = some (.row 4 0 (ds ++ List.replicate (t :: l).length (.agg zeroC)) 0) := fun _ => rfl
    have q7 := own_ia (sz := 4) (H := H) rfl (row (tail ++ [AO.box e.cells])) (n := es.length) (by omega) hil
    have hel : (ds ++ List.replicate (t :: l).length (AV.agg zeroC))[i]? = some (.agg zeroC) := by
      rw [List.getElem?_append_right (by omega)]
      simp [hds, List.replicate]
    have q8 := own_est (sz := 4) (H := H) rfl (row (tail ++ [AO.box e.cells])) hel rfl (x := r) (hr.snap) hr.cl.1 hr.cl.2 hr.cellB
    have hset : (ds ++ List.replicate (t :: l).length (AV.agg zeroC)).set i (AV.agg r.cells) = (ds ++ [r]) ++ List.replicate l.length (AV.agg zeroC) := by
      rw [List.set_append_right _ _ (by omega)]
      have : AV.agg r.cells = r := hr.eta
      rw [this]
      simp [hds, List.replicate]
    rw [hset] at q8
    simp only [List.set_cons_succ, List.set_cons_zero] at q8
    have st : ∀ R R2, R = ds ++ List.replicate (t :: l).length (AV.agg zeroC) → R2 = (ds ++ [r]) ++ List.replicate l.length (AV.agg zeroC) → exec (callW F) K c49_12 (L49 id H.length es.length c i) (H ++ (.box cs0 :: .box cs1 :: .row 4 0 R 0 :: tail)) = some (.normal, [.junk, fnV id, .ptr H.length 0, .ptr (H.length + 1) 0, .own 4 (H.length + 2) 0 0 es.length, .v (.int .i64 i), .ptr (H.length + (tail.length + 1 + 1 + 1)) 0, .junk, .junk, c, .v (.int .i64 es.length), .v (.int .i64 ((i + 1 : Nat) : Int)), .v (.bool true)], H ++ (.box cs0 :: .box cs1 :: .row 4 0 R2 0 :: (tail ++ [AO.box e.cells]))) := by
      intro R R2 hR hR2
      rw [← hR] at hc q7 q8
      rw [← hR2] at q8
      have hst : ∀ (q : AV), evStore (H ++ (.box cs0 :: .box cs1 :: .row 4 0 R 0 :: (tail ++ [AO.box zeroC]))) 4 (.ptr (H.length + (tail.length + 1 + 1 + 1)) 0) e = some (H ++ (.box cs0 :: .box cs1 :: .row 4 0 R 0 :: (tail ++ [AO.box e.cells]))) := by
        intro q
        have hg := hT
        cases hg with
        | mk k s n c2 l2 hc2 =>
        simp only [h_st, stAt, zeroC, AV.cells, e_bslice1, e_bslice2, bs1, bs2, e_build, bdH_some, bd_nil, bd_cons, bd1, cl_agg, cl_int, toL, List.map_cons, List.map_nil, putAt, List.set_cons_zero, List.set_cons_succ, and_self, Nat.le_refl, app_get, app_set, g_agg, run_nil, run_cons, stp_plain, stp_guard, put_some, pass_eq, pick_tt, pick_ff, pick_tf, pick_ft, pick_u, reg_some, thn_normal, thn_exit, thn_ret, cnd_t, cnd_f, blk_normal, blk_ret, blk_exit, x_seq, x_region, x_cond, x_block, x_loop, x_ret, x_exit, x_skip, e_mov, e_pick, pk_t, pk_f, withH_some, e_box, e_load, e_store, stH_some, e_nil, e_bin, e_eqv, eqH_f, eqH_t, e_un, e_fa, e_ia, ia_eq, nat_eq, natV_nat, e_len, lnH_some, e_extract, ex_0, ex_1, e_call0, e_call1, e_call2, e_call3, pc0_eq, pc1_some, pc2_some, pc3_some, fin_some, g_var0, g_vars, g_loc0, g_locs, g_int, g_bool, g_str, g_sl, s_none, s_zero, s_succ, cl_nil, cl_str, cl_bool, cl_slc, cl_own, evFa, evNil, asEl, evBin, intBin, strBin, evUn, len_nil, len_slc, len_str, clr, List.length_nil, List.length_cons, List.getElem?_cons_zero, List.getElem?_cons_succ, Nat.reduceAdd, Nat.zero_add, Nat.add_zero, Nat.reduceLeDiff, Nat.reduceSub, ↓reduceIte, List.drop_succ_cons, List.drop_zero, List.take_succ_cons, List.take_zero, Bool.false_eq_true, List.nil_append, List.cons_append, Bool.not_true, Bool.not_false, cond_true, cond_false, bne, lv_ret, lv_normal, res1, res2, lv2_some, res_var, res_cell, lvf_v, lvf_slc, res1c, lvo1_some]
        rfl
      have hld : evLoad (H ++ (.box cs0 :: .box cs1 :: .row 4 0 R 0 :: (tail ++ [AO.box e.cells]))) true 4 (.ptr (H.length + (tail.length + 1 + 1 + 1)) 0) = some e := by
        rw [h_ld]
        simp only [ldAt, List.getElem?_cons_succ, app_get, q4b, List.drop_zero, q5]
        rfl
      have hst' := hst .junk
      simp only [zeroC] at hst'
      simp only [L49, zeroC, c49_12, c49_8, c49_9, c49_10, c49_11, hlt, wrap_succ hil (small_max hm), q1, q3, q7, q8, hc, hst', hld, e_callh, q9z, h_bx, e_bslice1, e_bslice2, bs1, bs2, e_build, bdH_some, bd_nil, bd_cons, bd1, cl_agg, cl_int, toL, List.map_cons, List.map_nil, putAt, List.set_cons_zero, List.set_cons_succ, and_self, Nat.le_refl, app_get, app_set, g_agg, run_nil, run_cons, stp_plain, stp_guard, put_some, pass_eq, pick_tt, pick_ff, pick_tf, pick_ft, pick_u, reg_some, thn_normal, thn_exit, thn_ret, cnd_t, cnd_f, blk_normal, blk_ret, blk_exit, x_seq, x_region, x_cond, x_block, x_loop, x_ret, x_exit, x_skip, e_mov, e_pick, pk_t, pk_f, withH_some, e_box, e_load, e_store, stH_some, e_nil, e_bin, e_eqv, eqH_f, eqH_t, e_un, e_fa, e_ia, ia_eq, nat_eq, natV_nat, e_len, lnH_some, e_extract, ex_0, ex_1, e_call0, e_call1, e_call2, e_call3, pc0_eq, pc1_some, pc2_some, pc3_some, fin_some, g_var0, g_vars, g_loc0, g_locs, g_int, g_bool, g_str, g_sl, s_none, s_zero, s_succ, cl_nil, cl_str, cl_bool, cl_slc, cl_own, evFa, evNil, asEl, evBin, intBin, strBin, evUn, len_nil, len_slc, len_str, clr, List.length_nil, List.length_cons, List.getElem?_cons_zero, List.getElem?_cons_succ, Nat.reduceAdd, Nat.zero_add, Nat.add_zero, Nat.reduceLeDiff, Nat.reduceSub, ↓reduceIte, List.drop_succ_cons, List.drop_zero, List.take_succ_cons, List.take_zero, Bool.false_eq_true, List.nil_append, List.cons_append, Bool.not_true, Bool.not_false, cond_true, cond_false, bne, lv_ret, lv_normal, res1, res2, lv2_some, res_var, res_cell, lvf_v, lvf_slc, res1c, lvo1_some]
    rw [show (t :: l).length + 1 = (l.length + 1) + 1 from rfl, loop_normal (by rw [hv]; exact st _ _ rfl rfl)]
    obtain ⟨ds', tail', x5, x6, x7, x8, x12, g1, g2, g3⟩ := ih (i + 1) (ds ++ [r]) (dl ++ [shiftT x t]) (tail ++ [AO.box e.cells]) [.junk, fnV id, .ptr H.length 0, .ptr (H.length + 1) 0, .own 4 (H.length + 2) 0 0 es.length, .v (.int .i64 i), .ptr (H.length + (tail.length + 1 + 1 + 1)) 0, .junk, .junk, c, .v (.int .i64 es.length), .v (.int .i64 ((i + 1 : Nat) : Int)), .v (.bool true)] (by simp at hi; omega) (by simp [hds]) hs' (hall.app (.one hr)) tl2 (fun t ht => hcall t (by simp [ht])) rfl
    refine ⟨ds', tail', x5, x6, x7, x8, x12, g1, ?_, g3⟩
    rw [shiftL]
    simpa using g2

theorem start49 (a b : AV) : start c49 [a, b] = [a, b, .v undef, .v undef, .v undef, .v undef, .v undef, .v undef, .v undef, .v undef, .v undef, .v undef, .v undef] := rfl
theorem each49 (x : Int) (id : Nat) : ∀ (N : Nat) (t : Tm) (a : AV) (H : List AO), SizeOf.sizeOf t < N → size t ≤ 100000 → IsT a t → H[id]? = some (.box [.v (.int .i64 x)]) → H.all (AO.below H.length) = true → ∃ r, IsT r (shiftT x t) ∧ callW F 49 [a, fnV id] H = some (r, H) := by
  intro N
  induction N with
  | zero => intro t a H h; omega
  | succ N ih =>
    intro t a H hN hsz ha hid hb
    have hbela := ha.bel
    cases ha with
    | mk k s n c l hc =>
    have h5 := Tm.mk.sizeOf_spec k s n l
    simp only [size] at hsz
    have hll := sizeL_len l
    have hcall : ∀ t ∈ l, ∀ (e : AV) (H' : List AO), IsT e t → H'[id]? = some (.box [.v (.int .i64 x)]) → H'.all (AO.below H'.length) = true → ∃ r, IsT r (shiftT x t) ∧ callW F 49 [e, fnV id] H' = some (r, H') := by
      intro t ht e H' hT
      have h6 := List.sizeOf_lt_of_mem ht
      have h7 := size_mem ht
      exact ih t e H' (by omega) (by omega) hT
    obtain ⟨es, hs, hes, hm⟩ := hc.sl
    have e1 := hes.length
    -- behind the number
    have rest : ∀ (n' : Int) (y : AV) (m : Bool), ∃ r, IsT r (.mk k s n' (shiftL x l)) ∧ leave H.length c49 (exec (callW F) (l.length + 1) (.seq (.seq (.region [] [] c49_3) (.cond (.var 8) (.seq (.region [] [] c49_4) (.seq (.region [] [] c49_5) .ret)) .skip)) (.seq (.region [] [] c49_6) (.seq (.seq (.region [] [] c49_7) (.block 0 (.loop K49 [] c49_12))) (.seq (.region [] [] c49_13) (.seq (.region [] [] c49_14) .ret)))))
        [y, fnV id, .ptr H.length 0, .ptr (H.length + 1) 0, .v undef, .v undef, .v undef, .v (.bool m), .v undef, .v undef, .v undef, .v undef, .v undef] (H ++ [.box [.v (.int .i64 k), .v (.string s), .v (.int .i64 n'), c], .box zeroC])) = some (r, H) := by
      intro n' y m
      have hres : c49.res = [.cell 3 true 4] := rfl
      rcases Nat.eq_zero_or_pos l.length with h0 | h0
      · have hl0 : l = [] := List.length_eq_zero_iff.1 h0
        subst hl0
        have he0 : es = [] := List.length_eq_zero_iff.1 (by simpa using e1)
        subst he0
        have h1 : (((0 : Nat) : Int) == 0) = true := rfl
        refine ⟨.agg [.v (.int .i64 k), .v (.string s), .v (.int .i64 n'), .v (.slice none 0 0)], by rw [shiftL]; exact .mk _ _ _ _ _ .nil, ?_⟩
        simp only [zeroC, c49_3, c49_4, c49_5, h1, hs.len, h_ld, h_ld0, h_st, h_st0, h_bx, ldAt, stAt, preH_some, List.append_assoc, e_bslice1, e_bslice2, bs1, bs2, e_build, bdH_some, bd_nil, bd_cons, bd1, cl_agg, cl_int, toL, List.map_cons, List.map_nil, putAt, List.set_cons_zero, List.set_cons_succ, and_self, Nat.le_refl, app_get, app_set, g_agg, run_nil, run_cons, stp_plain, stp_guard, put_some, pass_eq, pick_tt, pick_ff, pick_tf, pick_ft, pick_u, reg_some, thn_normal, thn_exit, thn_ret, cnd_t, cnd_f, blk_normal, blk_ret, blk_exit, x_seq, x_region, x_cond, x_block, x_loop, x_ret, x_exit, x_skip, e_mov, e_pick, pk_t, pk_f, withH_some, e_box, e_load, e_store, stH_some, e_nil, e_bin, e_eqv, eqH_f, eqH_t, e_un, e_fa, e_ia, ia_eq, nat_eq, natV_nat, e_len, lnH_some, e_extract, ex_0, ex_1, e_call0, e_call1, e_call2, e_call3, pc0_eq, pc1_some, pc2_some, pc3_some, fin_some, g_var0, g_vars, g_loc0, g_locs, g_int, g_bool, g_str, g_sl, s_none, s_zero, s_succ, cl_nil, cl_str, cl_bool, cl_slc, cl_own, evFa, evNil, asEl, evBin, intBin, strBin, evUn, len_nil, len_slc, len_str, clr, List.length_nil, List.length_cons, List.getElem?_cons_zero, List.getElem?_cons_succ, Nat.reduceAdd, Nat.zero_add, Nat.add_zero, Nat.reduceLeDiff, Nat.reduceSub, ↓reduceIte, List.drop_succ_cons, List.drop_zero, List.take_succ_cons, List.take_zero, Bool.false_eq_true, List.nil_append, List.cons_append, Bool.not_true, Bool.not_false, cond_true, cond_false, bne, lv_ret, lv_normal, res1, res2, lv2_some, res_var, res_cell, lvf_v, lvf_slc, res1c, lvo1_some]
        rw [leave_own rfl hb, hres, own_res1 (x := .agg [.v (.int .i64 k), .v (.string s), .v (.int .i64 n'), .v (.slice none 0 0)]) _]
        · exact lvo_one rfl
        · simp only [res_cell, h_ld, ldAt, e_bslice1, e_bslice2, bs1, bs2, e_build, bdH_some, bd_nil, bd_cons, bd1, cl_agg, cl_int, toL, List.map_cons, List.map_nil, putAt, List.set_cons_zero, List.set_cons_succ, and_self, Nat.le_refl, app_get, app_set, g_agg, run_nil, run_cons, stp_plain, stp_guard, put_some, pass_eq, pick_tt, pick_ff, pick_tf, pick_ft, pick_u, reg_some, thn_normal, thn_exit, thn_ret, cnd_t, cnd_f, blk_normal, blk_ret, blk_exit, x_seq, x_region, x_cond, x_block, x_loop, x_ret, x_exit, x_skip, e_mov, e_pick, pk_t, pk_f, withH_some, e_box, e_load, e_store, stH_some, e_nil, e_bin, e_eqv, eqH_f, eqH_t, e_un, e_fa, e_ia, ia_eq, nat_eq, natV_nat, e_len, lnH_some, e_extract, ex_0, ex_1, e_call0, e_call1, e_call2, e_call3, pc0_eq, pc1_some, pc2_some, pc3_some, fin_some, g_var0, g_vars, g_loc0, g_locs, g_int, g_bool, g_str, g_sl, s_none, s_zero, s_succ, cl_nil, cl_str, cl_bool, cl_slc, cl_own, evFa, evNil, asEl, evBin, intBin, strBin, evUn, len_nil, len_slc, len_str, clr, List.length_nil, List.length_cons, List.getElem?_cons_zero, List.getElem?_cons_succ, Nat.reduceAdd, Nat.zero_add, Nat.add_zero, Nat.reduceLeDiff, Nat.reduceSub, ↓reduceIte, List.drop_succ_cons, List.drop_zero, List.take_succ_cons, List.take_zero, Bool.false_eq_true, List.nil_append, List.cons_append, Bool.not_true, Bool.not_false, cond_true, cond_false, bne, lv_ret, lv_normal, res1, res2, lv2_some, res_var, res_cell, lvf_v, lvf_slc, res1c, lvo1_some]
      · have h1 : ((es.length : Int) == 0) = false := by rw [beq_eq_false_iff_ne]; omega
        obtain ⟨ds', tail', x5, x6, x7, x8, x12, g1, g2, g3⟩ := each_loop (H := H) (K := l.length + 1) (id := id) (cs0 := [.v (.int .i64 k), .v (.string s), .v (.int .i64 n'), c]) (cs1 := zeroC) hs (by omega) x hid hb (by
            have : ∀ n', IsT (.agg [.v (.int .i64 k), .v (.string s), .v (.int .i64 n'), c]) (.mk k s n' l) := fun n' => .mk k s n' c l hc
            exact (this n').bel) rfl l 0 [] [] [] (L49 id H.length es.length c (0 : Nat)) (by omega) rfl (by simpa using hes) .nil rfl hcall rfl
        have hrow : (List.replicate es.length (AV.agg zeroC)) = [] ++ List.replicate l.length (AV.agg zeroC) := by rw [e1]; rfl
        have mk := mkS_own (sz := 4) (H := H) (l := [.box [.v (.int .i64 k), .v (.string s), .v (.int .i64 n'), c], .box zeroC]) (B := H.length) rfl (bytes := 56) (zero := [(.int .i64 0), (.string ⟨#[]⟩), (.int .i64 0), (.slice none 0 0)]) (n := es.length) (by have : maxLen = 9223372036854775807 := rfl; omega) (by omega)
        rw [zeroEl4, hrow] at mk
        generalize hR : ([] ++ List.replicate l.length (AV.agg zeroC)) = R at mk g1
        have hz2 : ∀ c' : AV, (AV.own 4 (H.length + 2) 0 0 es.length).cl = some [.own 4 (H.length + 2) 0 0 es.length] := fun _ => rfl
        have hds : ∀ h0 : List AO, (H ++ (.box [.v (.int .i64 k), .v (.string s), .v (.int .i64 n'), .own 4 (H.length + 2) 0 0 es.length] :: .box [.v (.int .i64 k), .v (.string s), .v (.int .i64 n'), .own 4 (H.length + 2) 0 0 es.length] :: .row 4 0 ds' 0 :: tail'))[H.length + 2]? = some (.row 4 0 ds' 0) := fun _ => obj_get rfl
        refine ⟨.agg [.v (.int .i64 k), .v (.string s), .v (.int .i64 n'), .slc 4 false false ds'], .mk _ _ _ _ _ (.slc _ _ _ _ (by simpa using g2) (by omega)), ?_⟩
        generalize hrest : (CC.seq (.region [] [] c49_13) (.seq (.region [] [] c49_14) .ret)) = rest
        simp only [zeroC] at mk g1
        simp only [zeroC, c49_3, c49_6, c49_7, h1, hs.len, mk, e_mkslice, h_ld, h_ld0, h_st, h_st0, h_bx, ldAt, stAt, preH_some, List.append_assoc, e_bslice1, e_bslice2, bs1, bs2, e_build, bdH_some, bd_nil, bd_cons, bd1, cl_agg, cl_int, toL, List.map_cons, List.map_nil, putAt, List.set_cons_zero, List.set_cons_succ, and_self, Nat.le_refl, app_get, app_set, g_agg, run_nil, run_cons, stp_plain, stp_guard, put_some, pass_eq, pick_tt, pick_ff, pick_tf, pick_ft, pick_u, reg_some, thn_normal, thn_exit, thn_ret, cnd_t, cnd_f, blk_normal, blk_ret, blk_exit, x_seq, x_region, x_cond, x_block, x_loop, x_ret, x_exit, x_skip, e_mov, e_pick, pk_t, pk_f, withH_some, e_box, e_load, e_store, stH_some, e_nil, e_bin, e_eqv, eqH_f, eqH_t, e_un, e_fa, e_ia, ia_eq, nat_eq, natV_nat, e_len, lnH_some, e_extract, ex_0, ex_1, e_call0, e_call1, e_call2, e_call3, pc0_eq, pc1_some, pc2_some, pc3_some, fin_some, g_var0, g_vars, g_loc0, g_locs, g_int, g_bool, g_str, g_sl, s_none, s_zero, s_succ, cl_nil, cl_str, cl_bool, cl_slc, cl_own, evFa, evNil, asEl, evBin, intBin, strBin, evUn, len_nil, len_slc, len_str, clr, List.length_nil, List.length_cons, List.getElem?_cons_zero, List.getElem?_cons_succ, Nat.reduceAdd, Nat.zero_add, Nat.add_zero, Nat.reduceLeDiff, Nat.reduceSub, ↓reduceIte, List.drop_succ_cons, List.drop_zero, List.take_succ_cons, List.take_zero, Bool.false_eq_true, List.nil_append, List.cons_append, Bool.not_true, Bool.not_false, cond_true, cond_false, bne, lv_ret, lv_normal, res1, res2, lv2_some, res_var, res_cell, lvf_v, lvf_slc, res1c, lvo1_some]
        rw [loop_cong (v2 := L49 id H.length es.length c ((0 : Nat) : Int)) (by rfl), g1, ← hrest]
        simp only [c49_13, c49_14, hz2 .junk, h_ld, h_ld0, h_st, h_st0, h_bx, ldAt, stAt, preH_some, List.append_assoc, e_bslice1, e_bslice2, bs1, bs2, e_build, bdH_some, bd_nil, bd_cons, bd1, cl_agg, cl_int, toL, List.map_cons, List.map_nil, putAt, List.set_cons_zero, List.set_cons_succ, and_self, Nat.le_refl, app_get, app_set, g_agg, run_nil, run_cons, stp_plain, stp_guard, put_some, pass_eq, pick_tt, pick_ff, pick_tf, pick_ft, pick_u, reg_some, thn_normal, thn_exit, thn_ret, cnd_t, cnd_f, blk_normal, blk_ret, blk_exit, x_seq, x_region, x_cond, x_block, x_loop, x_ret, x_exit, x_skip, e_mov, e_pick, pk_t, pk_f, withH_some, e_box, e_load, e_store, stH_some, e_nil, e_bin, e_eqv, eqH_f, eqH_t, e_un, e_fa, e_ia, ia_eq, nat_eq, natV_nat, e_len, lnH_some, e_extract, ex_0, ex_1, e_call0, e_call1, e_call2, e_call3, pc0_eq, pc1_some, pc2_some, pc3_some, fin_some, g_var0, g_vars, g_loc0, g_locs, g_int, g_bool, g_str, g_sl, s_none, s_zero, s_succ, cl_nil, cl_str, cl_bool, cl_slc, cl_own, evFa, evNil, asEl, evBin, intBin, strBin, evUn, len_nil, len_slc, len_str, clr, List.length_nil, List.length_cons, List.getElem?_cons_zero, List.getElem?_cons_succ, Nat.reduceAdd, Nat.zero_add, Nat.add_zero, Nat.reduceLeDiff, Nat.reduceSub, ↓reduceIte, List.drop_succ_cons, List.drop_zero, List.take_succ_cons, List.take_zero, Bool.false_eq_true, List.nil_append, List.cons_append, Bool.not_true, Bool.not_false, cond_true, cond_false, bne, lv_ret, lv_normal, res1, res2, lv2_some, res_var, res_cell, lvf_v, lvf_slc, res1c, lvo1_some]
        rw [leave_own rfl hb, hres, own_res1 (x := .agg [.v (.int .i64 k), .v (.string s), .v (.int .i64 n'), .own 4 (H.length + 2) 0 0 es.length]) _]
        · refine lvo_one ?_
          have hn : ¬ (H.length + 2 < H.length) := by omega
          simp [AV.frz2, AV.frz1, AV.frz0, hn, rowAt, hds [], g3]
          rw [← g3]; simp
        · simp only [res_cell, h_ld, ldAt, e_bslice1, e_bslice2, bs1, bs2, e_build, bdH_some, bd_nil, bd_cons, bd1, cl_agg, cl_int, toL, List.map_cons, List.map_nil, putAt, List.set_cons_zero, List.set_cons_succ, and_self, Nat.le_refl, app_get, app_set, g_agg, run_nil, run_cons, stp_plain, stp_guard, put_some, pass_eq, pick_tt, pick_ff, pick_tf, pick_ft, pick_u, reg_some, thn_normal, thn_exit, thn_ret, cnd_t, cnd_f, blk_normal, blk_ret, blk_exit, x_seq, x_region, x_cond, x_block, x_loop, x_ret, x_exit, x_skip, e_mov, e_pick, pk_t, pk_f, withH_some, e_box, e_load, e_store, stH_some, e_nil, e_bin, e_eqv, eqH_f, eqH_t, e_un, e_fa, e_ia, ia_eq, nat_eq, natV_nat, e_len, lnH_some, e_extract, ex_0, ex_1, e_call0, e_call1, e_call2, e_call3, pc0_eq, pc1_some, pc2_some, pc3_some, fin_some, g_var0, g_vars, g_loc0, g_locs, g_int, g_bool, g_str, g_sl, s_none, s_zero, s_succ, cl_nil, cl_str, cl_bool, cl_slc, cl_own, evFa, evNil, asEl, evBin, intBin, strBin, evUn, len_nil, len_slc, len_str, clr, List.length_nil, List.length_cons, List.getElem?_cons_zero, List.getElem?_cons_succ, Nat.reduceAdd, Nat.zero_add, Nat.add_zero, Nat.reduceLeDiff, Nat.reduceSub, ↓reduceIte, List.drop_succ_cons, List.drop_zero, List.take_succ_cons, List.take_zero, Bool.false_eq_true, List.nil_append, List.cons_append, Bool.not_true, Bool.not_false, cond_true, cond_false, bne, lv_ret, lv_normal, res1, res2, lv2_some, res_var, res_cell, lvf_v, lvf_slc, res1c, lvo1_some]
    have hstart : ∀ (r : AV) , leave H.length c49 (exec (callW F) (l.length + 1) (.seq (.region [] [] c49_0) (.seq (.seq (.region [] [] c49_1) (.cond (.var 7) (.region [] [] c49_2) .skip)) (.seq (.seq (.region [] [] c49_3) (.cond (.var 8) (.seq (.region [] [] c49_4) (.seq (.region [] [] c49_5) .ret)) .skip)) (.seq (.region [] [] c49_6) (.seq (.seq (.region [] [] c49_7) (.block 0 (.loop K49 [] c49_12))) (.seq (.region [] [] c49_13) (.seq (.region [] [] c49_14) .ret))))))) (start c49 [.agg [.v (.int .i64 k), .v (.string s), .v (.int .i64 n), c], fnV id]) (H ++ [])) = some (r, H) → callW F 49 [.agg [.v (.int .i64 k), .v (.string s), .v (.int .i64 n), c], fnV id] H = some (r, H) :=
      fun r hr => callW_own (c := c49) rfl rfl (l.length + 1) hr
    by_cases hk : k = 1
    · have h1 : (k == 1) = true := by simpa using hk
      obtain ⟨r, hr, hlv⟩ := rest (IntKind.i64.wrap (n + x)) (.agg [.v (.int .i64 k), .v (.string s), .v (.int .i64 n), c]) true
      refine ⟨r, by rw [shiftT, if_pos hk]; exact hr, hstart r ?_⟩
      rw [← hlv]
      generalize (CC.seq (.seq (.region [] [] c49_3) (.cond (.var 8) (.seq (.region [] [] c49_4) (.seq (.region [] [] c49_5) .ret)) .skip)) (.seq (.region [] [] c49_6) (.seq (.seq (.region [] [] c49_7) (.block 0 (.loop K49 [] c49_12))) (.seq (.region [] [] c49_13) (.seq (.region [] [] c49_14) .ret))))) = rest'
      have hb2 : (H ++ [.box [.v (.int .i64 k), .v (.string s), .v (.int .i64 n), c], .box zeroC] : List AO).all (AO.below (H ++ [.box [.v (.int .i64 k), .v (.string s), .v (.int .i64 n), c], .box zeroC] : List AO).length) = true := by
        rw [List.all_append, Bool.and_eq_true]
        refine ⟨all_below_mono (by simp) hb, all_below_mono (Nat.zero_le _) ?_⟩
        have hz : (AO.box zeroC).below 0 = true := rfl
        simp only [AV.cells] at hbela
        simp only [List.all_cons, List.all_nil, hbela, hz, Bool.and_true]
      have ht := turn_ok (x := x) (his_get hid) hb2 n
      simp only [zeroC] at ht
      simp only [start49, fnV, zeroC, c49_0, c49_1, c49_2, h1, ht, q9z, e_callv, cv_fn, h_ld, h_ld0, h_st, h_st0, h_bx, ldAt, stAt, preH_some, List.append_assoc, e_bslice1, e_bslice2, bs1, bs2, e_build, bdH_some, bd_nil, bd_cons, bd1, cl_agg, cl_int, toL, List.map_cons, List.map_nil, putAt, List.set_cons_zero, List.set_cons_succ, and_self, Nat.le_refl, app_get, app_set, g_agg, run_nil, run_cons, stp_plain, stp_guard, put_some, pass_eq, pick_tt, pick_ff, pick_tf, pick_ft, pick_u, reg_some, thn_normal, thn_exit, thn_ret, cnd_t, cnd_f, blk_normal, blk_ret, blk_exit, x_seq, x_region, x_cond, x_block, x_loop, x_ret, x_exit, x_skip, e_mov, e_pick, pk_t, pk_f, withH_some, e_box, e_load, e_store, stH_some, e_nil, e_bin, e_eqv, eqH_f, eqH_t, e_un, e_fa, e_ia, ia_eq, nat_eq, natV_nat, e_len, lnH_some, e_extract, ex_0, ex_1, e_call0, e_call1, e_call2, e_call3, pc0_eq, pc1_some, pc2_some, pc3_some, fin_some, g_var0, g_vars, g_loc0, g_locs, g_int, g_bool, g_str, g_sl, s_none, s_zero, s_succ, cl_nil, cl_str, cl_bool, cl_slc, cl_own, evFa, evNil, asEl, evBin, intBin, strBin, evUn, len_nil, len_slc, len_str, clr, List.length_nil, List.length_cons, List.getElem?_cons_zero, List.getElem?_cons_succ, Nat.reduceAdd, Nat.zero_add, Nat.add_zero, Nat.reduceLeDiff, Nat.reduceSub, ↓reduceIte, List.drop_succ_cons, List.drop_zero, List.take_succ_cons, List.take_zero, Bool.false_eq_true, List.nil_append, List.cons_append, Bool.not_true, Bool.not_false, cond_true, cond_false, bne, lv_ret, lv_normal, res1, res2, lv2_some, res_var, res_cell, lvf_v, lvf_slc, res1c, lvo1_some]
    · have h1 : (k == 1) = false := by simpa using hk
      obtain ⟨r, hr, hlv⟩ := rest n (.agg [.v (.int .i64 k), .v (.string s), .v (.int .i64 n), c]) false
      refine ⟨r, by rw [shiftT, if_neg hk]; exact hr, hstart r ?_⟩
      rw [← hlv]
      generalize (CC.seq (.seq (.region [] [] c49_3) (.cond (.var 8) (.seq (.region [] [] c49_4) (.seq (.region [] [] c49_5) .ret)) .skip)) (.seq (.region [] [] c49_6) (.seq (.seq (.region [] [] c49_7) (.block 0 (.loop K49 [] c49_12))) (.seq (.region [] [] c49_13) (.seq (.region [] [] c49_14) .ret))))) = rest'
      simp only [start49, fnV, zeroC, c49_0, c49_1, h1, q9z, h_ld, h_ld0, h_st, h_st0, h_bx, ldAt, stAt, preH_some, List.append_assoc, e_bslice1, e_bslice2, bs1, bs2, e_build, bdH_some, bd_nil, bd_cons, bd1, cl_agg, cl_int, toL, List.map_cons, List.map_nil, putAt, List.set_cons_zero, List.set_cons_succ, and_self, Nat.le_refl, app_get, app_set, g_agg, run_nil, run_cons, stp_plain, stp_guard, put_some, pass_eq, pick_tt, pick_ff, pick_tf, pick_ft, pick_u, reg_some, thn_normal, thn_exit, thn_ret, cnd_t, cnd_f, blk_normal, blk_ret, blk_exit, x_seq, x_region, x_cond, x_block, x_loop, x_ret, x_exit, x_skip, e_mov, e_pick, pk_t, pk_f, withH_some, e_box, e_load, e_store, stH_some, e_nil, e_bin, e_eqv, eqH_f, eqH_t, e_un, e_fa, e_ia, ia_eq, nat_eq, natV_nat, e_len, lnH_some, e_extract, ex_0, ex_1, e_call0, e_call1, e_call2, e_call3, pc0_eq, pc1_some, pc2_some, pc3_some, fin_some, g_var0, g_vars, g_loc0, g_locs, g_int, g_bool, g_str, g_sl, s_none, s_zero, s_succ, cl_nil, cl_str, cl_bool, cl_slc, cl_own, evFa, evNil, asEl, evBin, intBin, strBin, evUn, len_nil, len_slc, len_str, clr, List.length_nil, List.length_cons, List.getElem?_cons_zero, List.getElem?_cons_succ, Nat.reduceAdd, Nat.zero_add, Nat.add_zero, Nat.reduceLeDiff, Nat.reduceSub, ↓reduceIte, List.drop_succ_cons, List.drop_zero, List.take_succ_cons, List.take_zero, Bool.false_eq_true, List.nil_append, List.cons_append, Bool.not_true, Bool.not_false, cond_true, cond_false, bne, lv_ret, lv_normal, res1, res2, lv2_some, res_var, res_cell, lvf_v, lvf_slc, res1c, lvo1_some]

theorem shift34 (x : Int) {t : Tm} {a : AV} (hsz : size t ≤ 100000) (ha : IsT a t) : ∃ r, IsT r (shiftT x t) ∧ callW F 34 [a, .v (.int .i64 x)] [] = some (r, []) := by
  have hb : ([.box a.cells, .box [.v (.int .i64 x)], .box zeroC] : List AO).all (AO.below 3) = true := by
    have := below_mono (Nat.zero_le 3) _ ha.bel
    simp only [List.all_cons, List.all_nil, this, Bool.and_true]; rfl
  obtain ⟨r, hr, hc⟩ := each49 x 1 _ t a [.box a.cells, .box [.v (.int .i64 x)], .box zeroC] (Nat.lt_succ_self _) hsz ha rfl hb
  refine ⟨r, hr, callW_pure (c := c34) rfl rfl 0 ?_⟩
  have g := lv1 hr
  generalize shiftT x t = u at hr
  cases hr
  cases ha
  simp only [AV.cells, zeroC, fnV] at hc
  simp only [c34, start, List.replicate, c34_0, c34_1, hc, g, e_mkfn, e_callh, q9z, e_bslice1, e_bslice2, bs1, bs2, e_build, bdH_some, bd_nil, bd_cons, bd1, cl_agg, cl_int, toL, List.map_cons, List.map_nil, putAt, List.set_cons_zero, List.set_cons_succ, and_self, Nat.le_refl, evStore, app_get, app_set, g_agg, run_nil, run_cons, stp_plain, stp_guard, put_some, pass_eq, pick_tt, pick_ff, pick_tf, pick_ft, pick_u, reg_some, thn_normal, thn_exit, thn_ret, cnd_t, cnd_f, blk_normal, blk_ret, blk_exit, x_seq, x_region, x_cond, x_block, x_loop, x_ret, x_exit, x_skip, e_mov, e_pick, pk_t, pk_f, withH_some, e_box, bx_some, e_load, e_store, stH_some, e_nil, e_bin, e_eqv, eqH_f, eqH_t, e_un, e_fa, e_ia, ia_eq, nat_eq, natV_nat, e_len, lnH_some, e_extract, ex_0, ex_1, e_call0, e_call1, e_call2, e_call3, pc0_eq, pc1_some, pc2_some, pc3_some, fin_some, g_var0, g_vars, g_loc0, g_locs, g_int, g_bool, g_str, g_sl, s_none, s_zero, s_succ, cl_nil, cl_str, cl_bool, cl_slc, cl_own, evFa, evNil, evLoad, asEl, evBin, intBin, strBin, evUn, len_nil, len_slc, len_str, clr, List.length_nil, List.length_cons, List.getElem?_cons_zero, List.getElem?_cons_succ, Nat.reduceAdd, Nat.zero_add, Nat.add_zero, Nat.reduceLeDiff, Nat.reduceSub, ↓reduceIte, List.drop_succ_cons, List.drop_zero, List.take_succ_cons, List.take_zero, Bool.false_eq_true, List.nil_append, List.cons_append, Bool.not_true, Bool.not_false, cond_true, cond_false, bne, lv_ret, lv_normal, res1, res2, lv2_some, res_var, res_cell, lvf_v, lvf_slc, res1c, lvo1_some]
theorem shift16 (x : Int) {t : Tm} {a : AV} (hsz : size t ≤ 100000) (ha : IsT a t) : ∃ r, IsT r (shiftT x t) ∧ callW F 16 [a, .v (.int .i64 x)] [] = some (r, []) := by
  obtain ⟨r, hr, hc⟩ := shift34 x hsz ha
  refine ⟨r, hr, callW_pure (c := c16) rfl rfl 0 ?_⟩
  have g := lv1 hr
  have q5 : ∀ h : List AO, a.snap1 h = some a := fun h => ha.snap
  generalize shiftT x t = u at hr
  cases hr
  cases ha
  simp only [c16, start, List.replicate, c16_0, c16_1, q5, hc, g, snapv, q9z, e_bslice1, e_bslice2, bs1, bs2, e_build, bdH_some, bd_nil, bd_cons, bd1, cl_agg, cl_int, toL, List.map_cons, List.map_nil, putAt, List.set_cons_zero, List.set_cons_succ, and_self, Nat.le_refl, evStore, app_get, app_set, g_agg, run_nil, run_cons, stp_plain, stp_guard, put_some, pass_eq, pick_tt, pick_ff, pick_tf, pick_ft, pick_u, reg_some, thn_normal, thn_exit, thn_ret, cnd_t, cnd_f, blk_normal, blk_ret, blk_exit, x_seq, x_region, x_cond, x_block, x_loop, x_ret, x_exit, x_skip, e_mov, e_pick, pk_t, pk_f, withH_some, e_box, bx_some, e_load, e_store, stH_some, e_nil, e_bin, e_eqv, eqH_f, eqH_t, e_un, e_fa, e_ia, ia_eq, nat_eq, natV_nat, e_len, lnH_some, e_extract, ex_0, ex_1, e_call0, e_call1, e_call2, e_call3, pc0_eq, pc1_some, pc2_some, pc3_some, fin_some, g_var0, g_vars, g_loc0, g_locs, g_int, g_bool, g_str, g_sl, s_none, s_zero, s_succ, cl_nil, cl_str, cl_bool, cl_slc, cl_own, evFa, evNil, evLoad, asEl, evBin, intBin, strBin, evUn, len_nil, len_slc, len_str, clr, List.length_nil, List.length_cons, List.getElem?_cons_zero, List.getElem?_cons_succ, Nat.reduceAdd, Nat.zero_add, Nat.add_zero, Nat.reduceLeDiff, Nat.reduceSub, ↓reduceIte, List.drop_succ_cons, List.drop_zero, List.take_succ_cons, List.take_zero, Bool.false_eq_true, List.nil_append, List.cons_append, Bool.not_true, Bool.not_false, cond_true, cond_false, bne, lv_ret, lv_normal, res1, res2, lv2_some, res_var, res_cell, lvf_v, lvf_slc, res1c, lvo1_some]
end
end Go.AE.Ytpgoibncgekflaa
end

/-! Meet; a counter behind other objects. -/
section
set_option linter.unusedVariables false
set_option linter.unusedSimpArgs false
namespace Go.AE.Ytpgoibncgekflaa
open Go Go.AE Go.Proofs.Ytpgoibncgekflaa

section
variable {h : List AO} {id off : Nat} {ms : List AV} {m : Int} {l : List AO}
theorem ctr_app (hlt : id < h.length) : ctr (h ++ l) id off ms m = ctr h id off ms m ++ l := by
  simp only [ctr]
  exact his_set hlt
theorem Ctr.app (c : Ctr h id off ms) (hl : l.all (AO.below (h.length + l.length)) = true) : Ctr (h ++ l) id off ms := by
  refine ⟨by have := c.lt; simp; omega, c.le, ?_, ?_⟩
  · rw [List.all_append, Bool.and_eq_true, List.length_append]
    exact ⟨all_below_mono (by omega) c.bel, hl⟩
  · have := c.mb
    simp only [List.all_eq_true] at this ⊢
    exact fun x hx => below1_mono (by simp) x (this x hx)
theorem Ctr.app0 (c : Ctr h id off ms) (hl : l.all (AO.below 0) = true) : Ctr (h ++ l) id off ms := c.app (all_below_mono (Nat.zero_le _) hl)

/-- a term met: one step, then its bindings followed -/
def meetT (rs : List (Int × Tm)) : Nat → Tm → Tm × Int × Nat
  | 0, _ => (zeroT, 140, 0)
  | m + 1, t => walkT rs m t

theorem meet_ok (c : Ctr h id off ms) {b a : AV} {es : List AV} {rs : List (Int × Tm)} (hes : AllB es rs) (hbs : ∀ h : List AO, b.snap1 h = some b) (hlook : ∀ n, callW F 13 [b, .v (.int .i64 n)] [] = some (lookA n es, []))
    (m : Nat) (hm : m ≤ 5000) {t : Tm} (ht : IsT a t) : ∃ rc, IsT (.agg rc) (meetT rs m t).1 ∧ callW F 51 [b, a, .ptr id off] (ctr h id off ms m) = some (.tup [.agg rc, .v (.int .i64 (meetT rs m t).2.1)], ctr h id off ms (meetT rs m t).2.2) := by
  have hres : c51.res = [.cell 4 true 4, .var 5] := rfl
  have hbel := ht.bel
  have hl : ([.box a.cells, .box zeroC] : List AO).all (AO.below 0) = true := by
    have hz : (AO.box zeroC).below 0 = true := rfl
    simp only [List.all_cons, List.all_nil, hbel, hz, Bool.and_true]
  cases m with
  | zero =>
    refine ⟨zeroC, isT_zero, callW_own (c := c51) rfl rfl 0 ?_⟩
    have h0 : (((0 : Nat) : Int) == 0) = true := rfl
    have body : exec (callW F) 0 c51.body (start c51 [b, a, .ptr id off]) (ctr h id off ms ((0 : Nat) : Int) ++ []) = some (.ret, [b, a, .ptr id off, .ptr h.length 0, .ptr (h.length + 1) 0, .v (.int .i64 140), .v (.bool true)], ctr h id off ms ((0 : Nat) : Int) ++ [.box a.cells, .box zeroC]) := by
      cases ht
      simp only [c51, start, zeroC, List.replicate, c51_0, c51_1, c51_2, h0, q9z, AV.cells, c.load, evNil, c_ld, c_ld0, c_st, c_st0, c_bx, ldAt, stAt, preH_some, List.append_assoc, e_bslice1, e_bslice2, bs1, bs2, e_build, bdH_some, bd_nil, bd_cons, bd1, cl_agg, cl_int, toL, List.map_cons, List.map_nil, putAt, List.set_cons_zero, List.set_cons_succ, and_self, Nat.le_refl, app_get, app_set, g_agg, run_nil, run_cons, stp_plain, stp_guard, put_some, pass_eq, pick_tt, pick_ff, pick_tf, pick_ft, pick_u, reg_some, thn_normal, thn_exit, thn_ret, cnd_t, cnd_f, blk_normal, blk_ret, blk_exit, x_seq, x_region, x_cond, x_block, x_loop, x_ret, x_exit, x_skip, e_mov, e_pick, pk_t, pk_f, withH_some, e_box, e_load, e_store, stH_some, e_nil, e_bin, e_eqv, eqH_f, eqH_t, e_un, e_fa, e_ia, ia_eq, nat_eq, natV_nat, e_len, lnH_some, e_extract, ex_0, ex_1, e_call0, e_call1, e_call2, e_call3, pc0_eq, pc1_some, pc2_some, pc3_some, fin_some, g_var0, g_vars, g_loc0, g_locs, g_int, g_bool, g_str, g_sl, s_none, s_zero, s_succ, cl_nil, cl_str, cl_bool, cl_slc, cl_own, evFa, evNil, asEl, evBin, intBin, strBin, evUn, len_nil, len_slc, len_str, clr, List.length_nil, List.length_cons, List.getElem?_cons_zero, List.getElem?_cons_succ, Nat.reduceAdd, Nat.zero_add, Nat.add_zero, Nat.reduceLeDiff, Nat.reduceSub, ↓reduceIte, List.drop_succ_cons, List.drop_zero, List.take_succ_cons, List.take_zero, Bool.false_eq_true, List.nil_append, List.cons_append, Bool.not_true, Bool.not_false, cond_true, cond_false, bne, lv_ret, lv_normal, res1, res2, lv2_some, res_var, res_cell, lvf_v, lvf_slc, res1c, lvo1_some]
    rw [body, ctr_len, leave_own ctr_len (c.all _), hres, own_res2 (x := .agg zeroC) (y := .v (.int .i64 140)) _ _]
    · exact lvo_two (isT_zero.frz _ _) rfl
    · simp only [res_cell, c_ld, ldAt, zeroC, e_bslice1, e_bslice2, bs1, bs2, e_build, bdH_some, bd_nil, bd_cons, bd1, cl_agg, cl_int, toL, List.map_cons, List.map_nil, putAt, List.set_cons_zero, List.set_cons_succ, and_self, Nat.le_refl, app_get, app_set, g_agg, run_nil, run_cons, stp_plain, stp_guard, put_some, pass_eq, pick_tt, pick_ff, pick_tf, pick_ft, pick_u, reg_some, thn_normal, thn_exit, thn_ret, cnd_t, cnd_f, blk_normal, blk_ret, blk_exit, x_seq, x_region, x_cond, x_block, x_loop, x_ret, x_exit, x_skip, e_mov, e_pick, pk_t, pk_f, withH_some, e_box, e_load, e_store, stH_some, e_nil, e_bin, e_eqv, eqH_f, eqH_t, e_un, e_fa, e_ia, ia_eq, nat_eq, natV_nat, e_len, lnH_some, e_extract, ex_0, ex_1, e_call0, e_call1, e_call2, e_call3, pc0_eq, pc1_some, pc2_some, pc3_some, fin_some, g_var0, g_vars, g_loc0, g_locs, g_int, g_bool, g_str, g_sl, s_none, s_zero, s_succ, cl_nil, cl_str, cl_bool, cl_slc, cl_own, evFa, evNil, asEl, evBin, intBin, strBin, evUn, len_nil, len_slc, len_str, clr, List.length_nil, List.length_cons, List.getElem?_cons_zero, List.getElem?_cons_succ, Nat.reduceAdd, Nat.zero_add, Nat.add_zero, Nat.reduceLeDiff, Nat.reduceSub, ↓reduceIte, List.drop_succ_cons, List.drop_zero, List.take_succ_cons, List.take_zero, Bool.false_eq_true, List.nil_append, List.cons_append, Bool.not_true, Bool.not_false, cond_true, cond_false, bne, lv_ret, lv_normal, res1, res2, lv2_some, res_var, res_cell, lvf_v, lvf_slc, res1c, lvo1_some]
    · rfl
  | succ m =>
    obtain ⟨rc, hrc, hf⟩ := follow_ok (c.app0 hl) hes hbs hlook m (by omega) ht
    rw [ctr_app c.lt, ctr_app c.lt] at hf
    refine ⟨rc, hrc, callW_own (c := c51) rfl rfl 0 ?_⟩
    have h0 : (((m + 1 : Nat) : Int) == 0) = false := by rw [beq_eq_false_iff_ne]; omega
    have hw : IntKind.i64.wrap (((m + 1 : Nat) : Int) - 1) = (m : Int) := by rw [wrap_ok (by omega) (by omega)]; omega
    simp only [meetT]
    generalize walkT rs m t = w at hrc hf ⊢
    obtain ⟨w1, w2, w3⟩ := w
    have body : exec (callW F) 0 c51.body (start c51 [b, a, .ptr id off]) (ctr h id off ms ((m + 1 : Nat) : Int) ++ []) = some (.ret, [b, a, .ptr id off, .ptr h.length 0, .ptr (h.length + 1) 0, .v (.int .i64 w2), .v (.bool false)], ctr h id off ms w3 ++ [.box a.cells, .box rc]) := by
      cases hrc
      cases ht
      simp only [AV.cells, zeroC] at hf
      simp only [c51, start, zeroC, List.replicate, c51_0, c51_1, c51_3, c51_4, h0, hw, hf, e_callh, q9z, AV.cells, c.load, c.store, evNil, c_ld, c_ld0, c_st, c_st0, c_bx, ldAt, stAt, preH_some, List.append_assoc, e_bslice1, e_bslice2, bs1, bs2, e_build, bdH_some, bd_nil, bd_cons, bd1, cl_agg, cl_int, toL, List.map_cons, List.map_nil, putAt, List.set_cons_zero, List.set_cons_succ, and_self, Nat.le_refl, app_get, app_set, g_agg, run_nil, run_cons, stp_plain, stp_guard, put_some, pass_eq, pick_tt, pick_ff, pick_tf, pick_ft, pick_u, reg_some, thn_normal, thn_exit, thn_ret, cnd_t, cnd_f, blk_normal, blk_ret, blk_exit, x_seq, x_region, x_cond, x_block, x_loop, x_ret, x_exit, x_skip, e_mov, e_pick, pk_t, pk_f, withH_some, e_box, e_load, e_store, stH_some, e_nil, e_bin, e_eqv, eqH_f, eqH_t, e_un, e_fa, e_ia, ia_eq, nat_eq, natV_nat, e_len, lnH_some, e_extract, ex_0, ex_1, e_call0, e_call1, e_call2, e_call3, pc0_eq, pc1_some, pc2_some, pc3_some, fin_some, g_var0, g_vars, g_loc0, g_locs, g_int, g_bool, g_str, g_sl, s_none, s_zero, s_succ, cl_nil, cl_str, cl_bool, cl_slc, cl_own, evFa, evNil, asEl, evBin, intBin, strBin, evUn, len_nil, len_slc, len_str, clr, List.length_nil, List.length_cons, List.getElem?_cons_zero, List.getElem?_cons_succ, Nat.reduceAdd, Nat.zero_add, Nat.add_zero, Nat.reduceLeDiff, Nat.reduceSub, ↓reduceIte, List.drop_succ_cons, List.drop_zero, List.take_succ_cons, List.take_zero, Bool.false_eq_true, List.nil_append, List.cons_append, Bool.not_true, Bool.not_false, cond_true, cond_false, bne, lv_ret, lv_normal, res1, res2, lv2_some, res_var, res_cell, lvf_v, lvf_slc, res1c, lvo1_some]
    rw [body, ctr_len, leave_own ctr_len (c.all _), hres, own_res2 (x := .agg rc) (y := .v (.int .i64 w2)) _ _]
    · exact lvo_two (hrc.frz _ _) rfl
    · cases hrc; simp only [res_cell, c_ld, ldAt, e_bslice1, e_bslice2, bs1, bs2, e_build, bdH_some, bd_nil, bd_cons, bd1, cl_agg, cl_int, toL, List.map_cons, List.map_nil, putAt, List.set_cons_zero, List.set_cons_succ, and_self, Nat.le_refl, app_get, app_set, g_agg, run_nil, run_cons, stp_plain, stp_guard, put_some, pass_eq, pick_tt, pick_ff, pick_tf, pick_ft, pick_u, reg_some, thn_normal, thn_exit, thn_ret, cnd_t, cnd_f, blk_normal, blk_ret, blk_exit, x_seq, x_region, x_cond, x_block, x_loop, x_ret, x_exit, x_skip, e_mov, e_pick, pk_t, pk_f, withH_some, e_box, e_load, e_store, stH_some, e_nil, e_bin, e_eqv, eqH_f, eqH_t, e_un, e_fa, e_ia, ia_eq, nat_eq, natV_nat, e_len, lnH_some, e_extract, ex_0, ex_1, e_call0, e_call1, e_call2, e_call3, pc0_eq, pc1_some, pc2_some, pc3_some, fin_some, g_var0, g_vars, g_loc0, g_locs, g_int, g_bool, g_str, g_sl, s_none, s_zero, s_succ, cl_nil, cl_str, cl_bool, cl_slc, cl_own, evFa, evNil, asEl, evBin, intBin, strBin, evUn, len_nil, len_slc, len_str, clr, List.length_nil, List.length_cons, List.getElem?_cons_zero, List.getElem?_cons_succ, Nat.reduceAdd, Nat.zero_add, Nat.add_zero, Nat.reduceLeDiff, Nat.reduceSub, ↓reduceIte, List.drop_succ_cons, List.drop_zero, List.take_succ_cons, List.take_zero, Bool.false_eq_true, List.nil_append, List.cons_append, Bool.not_true, Bool.not_false, cond_true, cond_false, bne, lv_ret, lv_normal, res1, res2, lv2_some, res_var, res_cell, lvf_v, lvf_slc, res1c, lvo1_some]
    · rfl
end
end Go.AE.Ytpgoibncgekflaa
end

/-! Resolve: what it computes. -/
section
set_option linter.unusedVariables false
set_option linter.unusedSimpArgs false
namespace Go.AE.Ytpgoibncgekflaa
open Go Go.AE Go.Proofs.Ytpgoibncgekflaa

def resL (f : Nat → Tm → Except Int (Tm × Nat)) : Nat → List Tm → Except Int (List Tm × Nat)
  | m, [] => .ok ([], m)
  | m, t :: l => match f m t with
    | .error e => .error e
    | .ok (x, m1) => match resL f m1 l with
      | .error e => .error e
      | .ok (xs, m2) => .ok (x :: xs, m2)
/-- a term's bindings put in: d levels below it, m steps are left -/
def resT (rs : List (Int × Tm)) : Nat → Nat → Tm → Except Int (Tm × Nat)
  | 0, m, t => match meetT rs m t with
    | (_, e, _) => if e = 0 then .error 3 else .error e
  | d + 1, m, t => match meetT rs m t with
    | (.mk k s n l, e, m') => if e = 0 then (match resL (resT rs d) m' l with
      | .error e => .error e
      | .ok (xs, m2) => .ok (.mk k s n xs, m2)) else .error e

theorem walkT_le (rs : List (Int × Tm)) : ∀ (m : Nat) (t : Tm), (walkT rs m t).2.2 ≤ m := by
  intro m
  induction m with
  | zero => intro t; simp only [walkT]; split <;> exact Nat.le_refl _
  | succ m ih =>
    intro t
    simp only [walkT]
    split
    · exact Nat.le_succ_of_le (ih _)
    · exact Nat.le_refl _
theorem meetT_le (rs : List (Int × Tm)) (m : Nat) (t : Tm) : (meetT rs m t).2.2 ≤ m := by
  cases m with
  | zero => exact Nat.le_refl _
  | succ m => exact Nat.le_succ_of_le (walkT_le rs m t)
theorem walkT_err (rs : List (Int × Tm)) : ∀ (m : Nat) (t : Tm), (walkT rs m t).2.1 = 0 ∨ (walkT rs m t).2.1 = 140 ∧ (walkT rs m t).1 = zeroT := by
  intro m
  induction m with
  | zero => intro t; simp only [walkT]; split <;> simp
  | succ m ih =>
    intro t
    simp only [walkT]
    split
    · exact ih _
    · simp
theorem meetT_err (rs : List (Int × Tm)) (m : Nat) (t : Tm) : (meetT rs m t).2.1 = 0 ∨ (meetT rs m t).2.1 = 140 ∧ (meetT rs m t).1 = zeroT := by
  cases m with
  | zero => exact .inr ⟨rfl, rfl⟩
  | succ m => exact walkT_err rs m t
theorem lookT_mem {rs : List (Int × Tm)} {n : Int} {t : Tm} : lookT rs n = some t → ∃ p ∈ rs, p.2 = t := by
  induction rs with
  | nil => intro h; cases h
  | cons p rs ih =>
    obtain ⟨v, u⟩ := p
    intro h
    simp only [lookT] at h
    split at h
    · cases h; exact ⟨(v, _), by simp, rfl⟩
    · obtain ⟨p, hp, e⟩ := ih h; exact ⟨p, by simp [hp], e⟩
theorem bound_mem {rs : List (Int × Tm)} {t u : Tm} (h : bound rs t = some u) : ∃ p ∈ rs, p.2 = u := by
  cases t with
  | mk k s n l =>
    simp only [bound] at h
    split at h
    · exact lookT_mem h
    · cases h
theorem walkT_size {rs : List (Int × Tm)} {M : Nat} (hM : 1 ≤ M) (hrs : ∀ p ∈ rs, size p.2 ≤ M) : ∀ (m : Nat) (t : Tm), size t ≤ M → size (walkT rs m t).1 ≤ M := by
  have hz : size zeroT = 1 := by simp [zeroT, size, sizeL]
  intro m
  induction m with
  | zero => intro t ht; simp only [walkT]; split
            · simp only [hz]; exact hM
            · exact ht
  | succ m ih =>
    intro t ht
    simp only [walkT]
    split
    · rename_i t' hb
      obtain ⟨p, hp, rfl⟩ := bound_mem hb
      exact ih _ (hrs p hp)
    · exact ht
theorem meetT_size {rs : List (Int × Tm)} {M : Nat} (hM : 1 ≤ M) (hrs : ∀ p ∈ rs, size p.2 ≤ M) (m : Nat) (t : Tm) (ht : size t ≤ M) : size (meetT rs m t).1 ≤ M := by
  have hz : size zeroT = 1 := by simp [zeroT, size, sizeL]
  cases m with
  | zero => simp only [meetT, hz]; exact hM
  | succ m => exact walkT_size hM hrs m t ht

def ms (b : AV) (d : Int) : List AV := [b, .v (.int .i64 0), .v (.int .i64 d)]
section
variable {h : List AO} {id : Nat} {b : AV} {d d' m : Int} {l : List AO}
theorem Ctr.ms (c : Ctr h id 1 (ms b d)) (d' : Int) : Ctr h id 1 (Ytpgoibncgekflaa.ms b d') := by
  refine ⟨c.lt, by simp [Ytpgoibncgekflaa.ms], c.bel, ?_⟩
  have := c.mb
  simp only [Ytpgoibncgekflaa.ms, List.all_cons, List.all_nil, Bool.and_true, Bool.and_eq_true] at this ⊢
  exact ⟨this.1, rfl, rfl⟩
theorem ms_eq : ctr h id 1 (ms b d) m = h.set id (.box [b, .v (.int .i64 m), .v (.int .i64 d)]) := rfl
theorem r_ld0 (c : Ctr h id 1 (ms b d)) : evLoad (ctr h id 1 (ms b d) m ++ l) false 1 (.ptr id 0) = some b := by
  have h1 : (ctr h id 1 (ms b d) m ++ l)[id]? = some (.box [b, .v (.int .i64 m), .v (.int .i64 d)]) := his_get (set_get c.lt)
  rw [bx_ld h1]; rfl
theorem r_ld2 (c : Ctr h id 1 (ms b d)) : evLoad (ctr h id 1 (ms b d) m ++ l) false 1 (.ptr id 2) = some (.v (.int .i64 d)) := by
  have h1 : (ctr h id 1 (ms b d) m ++ l)[id]? = some (.box [b, .v (.int .i64 m), .v (.int .i64 d)]) := his_get (set_get c.lt)
  rw [bx_ld h1]; rfl
theorem r_st2 (c : Ctr h id 1 (ms b d)) : evStore (ctr h id 1 (ms b d) m ++ l) 1 (.ptr id 2) (.v (.int .i64 d')) = some (ctr h id 1 (ms b d') m ++ l) := by
  have h1 : (ctr h id 1 (ms b d) m ++ l)[id]? = some (.box [b, .v (.int .i64 m), .v (.int .i64 d)]) := his_get (set_get c.lt)
  rw [bx_st (n := 1) (o := 2) (xs := [.v (.int .i64 d')]) h1 cl_int rfl (by simp), his_set (by rw [ctr_len]; exact c.lt)]
  simp [ms_eq, putAt]

/-- what f36 is to be shown to do, d levels below the first -/
def Res36 (rs : List (Int × Tm)) (b : AV) (d : Nat) : Prop := ∀ (h : List AO) (id : Nat) (m : Nat) (t : Tm) (a : AV), Ctr h id 1 (ms b (60 - (d : Int))) → m ≤ 5000 → size t ≤ 100000 → IsT a t →
  match resT rs d m t with
  | .ok (x, m2) => m2 ≤ m ∧ ∃ r, IsT r x ∧ callW F 36 [.ptr id 0, a] (ctr h id 1 (ms b (60 - (d : Int))) m) = some (.tup [r, .v (.int .i64 0)], ctr h id 1 (ms b (60 - (d : Int))) m2)
  | .error e => e ≠ 0 ∧ ∃ (r : AV) (l' d' : Int), IsT r zeroT ∧ callW F 36 [.ptr id 0, a] (ctr h id 1 (ms b (60 - (d : Int))) m) = some (.tup [r, .v (.int .i64 e)], ctr h id 1 (ms b d') l')

def K36 : List Bool := [true, false, true, true, false, false, true, false, false, false, false, false, false, true, true, true, false, false]
def L36 (id B n : Nat) (c : AV) (i : Int) : List AV := [.ptr id 0, .junk, .ptr B 0, .ptr (B + 1) 0, .junk, .junk, .own 4 (B + 2) 0 0 n, .junk, .junk, .junk, .junk, .junk, .junk, c, .v (.int .i64 n), .v (.int .i64 i), .junk, .junk]

theorem res_loop {K : Nat} {c : AV} {es : List AV} {cs0 : List AV} {rs : List (Int × Tm)} (hs : Sl 4 c es) (hm : es.length ≤ 100000) (d : Nat) (hb0 : (AO.box cs0).below 0 = true) (hR : Res36 rs b d) (hC : Ctr h id 1 (ms b (60 - (d : Int)))) :
    ∀ (l : List Tm) (i m : Nat) (ds : List AV) (dl : List Tm) (tail : List AO) (vars : List AV), i + l.length = es.length → ds.length = i → m ≤ 5000 → All2 (es.drop i) l → All2 ds dl → (∀ t ∈ l, size t ≤ 100000) → tail.all (AO.below 0) = true →
      clr K36 vars = L36 id h.length es.length c i →
      match resL (resT rs d) m l with
      | .ok (xs, m2) => m2 ≤ m ∧ ∃ ds' tail' x1 x4 x5 x7 x8 x9 x10 x11 x12 x16 x17, loopN (exec (callW F) K c36_16) K36 (l.length + 1) vars (ctr h id 1 (ms b (60 - (d : Int))) m ++ (.box cs0 :: .box zeroC :: .row 4 0 (ds ++ List.replicate l.length (.agg zeroC)) 0 :: tail)) = some (.exit 1, [.ptr id 0, x1, .ptr h.length 0, .ptr (h.length + 1) 0, x4, x5, .own 4 (h.length + 2) 0 0 es.length, x7, x8, x9, x10, x11, x12, c, .v (.int .i64 es.length), .v (.int .i64 es.length), x16, x17], ctr h id 1 (ms b (60 - (d : Int))) m2 ++ (.box cs0 :: .box zeroC :: .row 4 0 ds' 0 :: tail')) ∧ All2 ds' (dl ++ xs) ∧ ds'.length = es.length
      | .error e => e ≠ 0 ∧ ∃ (l' d' : Int) (o : AO) (tail' : List AO) (vs : List AV), loopN (exec (callW F) K c36_16) K36 (l.length + 1) vars (ctr h id 1 (ms b (60 - (d : Int))) m ++ (.box cs0 :: .box zeroC :: .row 4 0 (ds ++ List.replicate l.length (.agg zeroC)) 0 :: tail)) = some (.ret, vs, ctr h id 1 (ms b d') l' ++ (o :: .box zeroC :: tail')) ∧ getO vs [] (.var 3) = .ptr (h.length + 1) 0 ∧ getO vs [] (.var 4) = .v (.int .i64 e) := by
  intro l
  induction l with
  | nil =>
    intro i m ds dl tail vars hi hds hm5 _ hall hszs htl hv
    have hil : i = es.length := by simpa using hi
    subst hil
    have hlt : decide ((es.length : Int) < (es.length : Int)) = false := by simp
    simp only [resL]
    refine ⟨Nat.le_refl _, ds, tail, .junk, .junk, .junk, .junk, .junk, .junk, .junk, .junk, .junk, .v (.bool false), .junk, loop_exit ?_, by simpa using hall, hds⟩
    rw [hv]
    simp only [L36, c36_16, c36_9, hlt, List.replicate, List.append_nil, e_bslice1, e_bslice2, bs1, bs2, e_build, bdH_some, bd_nil, bd_cons, bd1, cl_agg, cl_int, toL, List.map_cons, List.map_nil, putAt, List.set_cons_zero, List.set_cons_succ, and_self, Nat.le_refl, app_get, app_set, g_agg, run_nil, run_cons, stp_plain, stp_guard, put_some, pass_eq, pick_tt, pick_ff, pick_tf, pick_ft, pick_u, reg_some, thn_normal, thn_exit, thn_ret, cnd_t, cnd_f, blk_normal, blk_ret, blk_exit, x_seq, x_region, x_cond, x_block, x_loop, x_ret, x_exit, x_skip, e_mov, e_pick, pk_t, pk_f, withH_some, e_box, e_load, e_store, stH_some, e_nil, e_bin, e_eqv, eqH_f, eqH_t, e_un, e_fa, e_ia, ia_eq, nat_eq, natV_nat, e_len, lnH_some, e_extract, ex_0, ex_1, e_call0, e_call1, e_call2, e_call3, pc0_eq, pc1_some, pc2_some, pc3_some, fin_some, g_var0, g_vars, g_loc0, g_locs, g_int, g_bool, g_str, g_sl, s_none, s_zero, s_succ, cl_nil, cl_str, cl_bool, cl_slc, cl_own, evFa, evNil, asEl, evBin, intBin, strBin, evUn, len_nil, len_slc, len_str, clr, List.length_nil, List.length_cons, List.getElem?_cons_zero, List.getElem?_cons_succ, Nat.reduceAdd, Nat.zero_add, Nat.add_zero, Nat.reduceLeDiff, Nat.reduceSub, ↓reduceIte, List.drop_succ_cons, List.drop_zero, List.take_succ_cons, List.take_zero, Bool.false_eq_true, List.nil_append, List.cons_append, Bool.not_true, Bool.not_false, cond_true, cond_false, bne, lv_ret, lv_normal, res1, res2, lv2_some, res_var, res_cell, lvf_v, lvf_slc, res1c, lvo1_some]
  | cons t l ih =>
    intro i m ds dl tail vars hi hds hm5 hes hall hszs htl hv
    have hil : i < es.length := by simp at hi; omega
    have he : es[i]? = some (es[i]'hil) := List.getElem?_eq_getElem _
    have hd : es.drop i = es[i] :: es.drop (i + 1) := List.drop_eq_getElem_cons hil
    rw [hd] at hes
    generalize es[i]'hil = e at hes he
    cases hes with
    | cons _ _ _ _ hT hs' =>
    have hlt : (decide ((i : Int) < (es.length : Int))) = true := by simp; omega
    have hlen : (ds ++ List.replicate (t :: l).length (AV.agg zeroC)).length = es.length := by simp at hi ⊢; omega
    have tl2 : (tail ++ [AO.box e.cells]).all (AO.below 0) = true := by
      have := hT.bel
      simp only [List.all_append, List.all_cons, List.all_nil, htl, this, Bool.and_true]
    have hz : (AO.box zeroC).below 0 = true := rfl
    have hrw : ∀ L : List AV, (AO.row 4 0 L 0).below 0 = true := fun _ => rfl
    have hl2 : (.box cs0 :: .box zeroC :: .row 4 0 (ds ++ List.replicate (t :: l).length (.agg zeroC)) 0 :: (tail ++ [AO.box e.cells]) : List AO).all (AO.below 0) = true := by
      simp only [List.all_cons, hb0, hz, hrw, tl2, Bool.and_true]
    have hrec := hR (h ++ (.box cs0 :: .box zeroC :: .row 4 0 (ds ++ List.replicate (t :: l).length (.agg zeroC)) 0 :: (tail ++ [AO.box e.cells]))) id m t e (hC.app0 hl2) hm5 (hszs t (by simp)) hT
    have q1 := hs.ia he
    have q3 : ∀ h : List AO, evLoad h true 4 (.ip e.cells) = some e := fun h => hT.load
    have q4 : e.cl = some e.cells := hT.cl.1
    have q4b : e.cells.length = 4 := hT.cl.2
    have q5 := hT.asEl
    -- up to the call
    have hst : ∀ (q : List AO) (R : List AV), evStore (ctr h id 1 (ms b (60 - (d : Int))) m ++ (.box cs0 :: .box zeroC :: .row 4 0 R 0 :: (tail ++ [AO.box zeroC]))) 4 (.ptr (h.length + (tail.length + 1 + 1 + 1)) 0) e = some (ctr h id 1 (ms b (60 - (d : Int))) m ++ (.box cs0 :: .box zeroC :: .row 4 0 R 0 :: (tail ++ [AO.box e.cells]))) := by
      intro q R
      have hg := hT
      cases hg with
      | mk k s n c2 l2 hc2 =>
      simp only [c_st, stAt, zeroC, AV.cells, e_bslice1, e_bslice2, bs1, bs2, e_build, bdH_some, bd_nil, bd_cons, bd1, cl_agg, cl_int, toL, List.map_cons, List.map_nil, putAt, List.set_cons_zero, List.set_cons_succ, and_self, Nat.le_refl, app_get, app_set, g_agg, run_nil, run_cons, stp_plain, stp_guard, put_some, pass_eq, pick_tt, pick_ff, pick_tf, pick_ft, pick_u, reg_some, thn_normal, thn_exit, thn_ret, cnd_t, cnd_f, blk_normal, blk_ret, blk_exit, x_seq, x_region, x_cond, x_block, x_loop, x_ret, x_exit, x_skip, e_mov, e_pick, pk_t, pk_f, withH_some, e_box, e_load, e_store, stH_some, e_nil, e_bin, e_eqv, eqH_f, eqH_t, e_un, e_fa, e_ia, ia_eq, nat_eq, natV_nat, e_len, lnH_some, e_extract, ex_0, ex_1, e_call0, e_call1, e_call2, e_call3, pc0_eq, pc1_some, pc2_some, pc3_some, fin_some, g_var0, g_vars, g_loc0, g_locs, g_int, g_bool, g_str, g_sl, s_none, s_zero, s_succ, cl_nil, cl_str, cl_bool, cl_slc, cl_own, evFa, evNil, asEl, evBin, intBin, strBin, evUn, len_nil, len_slc, len_str, clr, List.length_nil, List.length_cons, List.getElem?_cons_zero, List.getElem?_cons_succ, Nat.reduceAdd, Nat.zero_add, Nat.add_zero, Nat.reduceLeDiff, Nat.reduceSub, ↓reduceIte, List.drop_succ_cons, List.drop_zero, List.take_succ_cons, List.take_zero, Bool.false_eq_true, List.nil_append, List.cons_append, Bool.not_true, Bool.not_false, cond_true, cond_false, bne, lv_ret, lv_normal, res1, res2, lv2_some, res_var, res_cell, lvf_v, lvf_slc, res1c, lvo1_some]
      rfl
    have hld : ∀ (m : Int) (R : List AV), evLoad (ctr h id 1 (ms b (60 - (d : Int))) m ++ (.box cs0 :: .box zeroC :: .row 4 0 R 0 :: (tail ++ [AO.box e.cells]))) true 4 (.ptr (h.length + (tail.length + 1 + 1 + 1)) 0) = some e := by
      intro m R
      rw [c_ld]
      simp only [ldAt, List.getElem?_cons_succ, app_get, q4b, List.drop_zero, q5]
      rfl
    have hst' := hst []
    simp only [zeroC] at hst' hld
    simp only [resL]
    cases hres : resT rs d m t with
    | error er =>
      rw [hres] at hrec
      obtain ⟨hne, r, l', d', hr, hc⟩ := hrec
      simp only [ctr_app hC.lt] at hc
      refine ⟨hne, l', d', .box cs0, .row 4 0 (ds ++ List.replicate (t :: l).length (.agg zeroC)) 0 :: (tail ++ [AO.box e.cells, .box r.cells]), [.ptr id 0, .junk, .ptr h.length 0, .ptr (h.length + 1) 0, .v (.int .i64 er), .junk, .own 4 (h.length + 2) 0 0 es.length, .v (.int .i64 i), .ptr (h.length + (tail.length + 1 + 1 + 1)) 0, .ptr (h.length + (tail.length + 1 + 1 + 1 + 1)) 0, .v (.int .i64 er), .junk, .junk, c, .v (.int .i64 es.length), .v (.int .i64 i), .v (.bool true), .v (.bool true)], loop_ret ?_, rfl, rfl⟩
      rw [hv]
      have hnb : (er == 0) = false := by simpa using hne
      generalize (ds ++ List.replicate (t :: l).length (AV.agg zeroC)) = R at hc ⊢
      have hst2 : ∀ (m d : Int), evStore (ctr h id 1 (ms b d) m ++ (.box cs0 :: .box zeroC :: .row 4 0 R 0 :: (tail ++ [AO.box e.cells] ++ [AO.box zeroC]))) 4 (.ptr (h.length + (tail.length + 1 + 1 + 1 + 1)) 0) r = some (ctr h id 1 (ms b d) m ++ (.box cs0 :: .box zeroC :: .row 4 0 R 0 :: (tail ++ [AO.box e.cells] ++ [AO.box r.cells]))) := by
        intro m d
        have e1 : tail.length + 1 = (tail ++ [AO.box e.cells]).length := by simp
        have hg := hr
        generalize zeroT = zt at hg
        rw [show tail.length + 1 + 1 + 1 + 1 = (tail ++ [AO.box e.cells]).length + 1 + 1 + 1 by simp]
        generalize tail ++ [AO.box e.cells] = tl
        cases hg with
        | mk k s n c2 l2 hc2 =>
        simp only [c_st, stAt, zeroC, AV.cells, e_bslice1, e_bslice2, bs1, bs2, e_build, bdH_some, bd_nil, bd_cons, bd1, cl_agg, cl_int, toL, List.map_cons, List.map_nil, putAt, List.set_cons_zero, List.set_cons_succ, and_self, Nat.le_refl, app_get, app_set, g_agg, run_nil, run_cons, stp_plain, stp_guard, put_some, pass_eq, pick_tt, pick_ff, pick_tf, pick_ft, pick_u, reg_some, thn_normal, thn_exit, thn_ret, cnd_t, cnd_f, blk_normal, blk_ret, blk_exit, x_seq, x_region, x_cond, x_block, x_loop, x_ret, x_exit, x_skip, e_mov, e_pick, pk_t, pk_f, withH_some, e_box, e_load, e_store, stH_some, e_nil, e_bin, e_eqv, eqH_f, eqH_t, e_un, e_fa, e_ia, ia_eq, nat_eq, natV_nat, e_len, lnH_some, e_extract, ex_0, ex_1, e_call0, e_call1, e_call2, e_call3, pc0_eq, pc1_some, pc2_some, pc3_some, fin_some, g_var0, g_vars, g_loc0, g_locs, g_int, g_bool, g_str, g_sl, s_none, s_zero, s_succ, cl_nil, cl_str, cl_bool, cl_slc, cl_own, evFa, evNil, asEl, evBin, intBin, strBin, evUn, len_nil, len_slc, len_str, clr, List.length_nil, List.length_cons, List.getElem?_cons_zero, List.getElem?_cons_succ, Nat.reduceAdd, Nat.zero_add, Nat.add_zero, Nat.reduceLeDiff, Nat.reduceSub, ↓reduceIte, List.drop_succ_cons, List.drop_zero, List.take_succ_cons, List.take_zero, Bool.false_eq_true, List.nil_append, List.cons_append, Bool.not_true, Bool.not_false, cond_true, cond_false, bne, lv_ret, lv_normal, res1, res2, lv2_some, res_var, res_cell, lvf_v, lvf_slc, res1c, lvo1_some]
        rfl
      simp only [List.append_assoc, zeroC, List.cons_append, List.nil_append] at hst2 hc
      simp only [L36, zeroC, c36_16, c36_9, c36_10, c36_11, c36_12, c36_13, hlt, hnb, q1, q3, hc, hst', hst2, hld, e_callh, q9z, c_ld, c_ld0, c_st, c_st0, c_bx, ldAt, stAt, preH_some, List.append_assoc, List.length_append, e_bslice1, e_bslice2, bs1, bs2, e_build, bdH_some, bd_nil, bd_cons, bd1, cl_agg, cl_int, toL, List.map_cons, List.map_nil, putAt, List.set_cons_zero, List.set_cons_succ, and_self, Nat.le_refl, app_get, app_set, g_agg, run_nil, run_cons, stp_plain, stp_guard, put_some, pass_eq, pick_tt, pick_ff, pick_tf, pick_ft, pick_u, reg_some, thn_normal, thn_exit, thn_ret, cnd_t, cnd_f, blk_normal, blk_ret, blk_exit, x_seq, x_region, x_cond, x_block, x_loop, x_ret, x_exit, x_skip, e_mov, e_pick, pk_t, pk_f, withH_some, e_box, e_load, e_store, stH_some, e_nil, e_bin, e_eqv, eqH_f, eqH_t, e_un, e_fa, e_ia, ia_eq, nat_eq, natV_nat, e_len, lnH_some, e_extract, ex_0, ex_1, e_call0, e_call1, e_call2, e_call3, pc0_eq, pc1_some, pc2_some, pc3_some, fin_some, g_var0, g_vars, g_loc0, g_locs, g_int, g_bool, g_str, g_sl, s_none, s_zero, s_succ, cl_nil, cl_str, cl_bool, cl_slc, cl_own, evFa, evNil, asEl, evBin, intBin, strBin, evUn, len_nil, len_slc, len_str, clr, List.length_nil, List.length_cons, List.getElem?_cons_zero, List.getElem?_cons_succ, Nat.reduceAdd, Nat.zero_add, Nat.add_zero, Nat.reduceLeDiff, Nat.reduceSub, ↓reduceIte, List.drop_succ_cons, List.drop_zero, List.take_succ_cons, List.take_zero, Bool.false_eq_true, List.nil_append, List.cons_append, Bool.not_true, Bool.not_false, cond_true, cond_false, bne, lv_ret, lv_normal, res1, res2, lv2_some, res_var, res_cell, lvf_v, lvf_slc, res1c, lvo1_some]
    | ok q =>
      obtain ⟨x, m1⟩ := q
      rw [hres] at hrec
      obtain ⟨hle, r, hr, hc⟩ := hrec
      simp only [ctr_app hC.lt] at hc
      have tl3 : (tail ++ [AO.box e.cells, AO.box r.cells]).all (AO.below 0) = true := by
        have h1 := hT.bel
        have h2 := hr.bel
        simp only [List.all_append, List.all_cons, List.all_nil, htl, h1, h2, Bool.and_true]
      have row : ∀ tl : List AO, (AO.box cs0 :: .box zeroC :: .row 4 0 (ds ++ List.replicate (t :: l).length (.agg zeroC)) 0 :: tl : List AO)[2]? = some (.row 4 0 (ds ++ List.replicate (t :: l).length (.agg zeroC)) 0) := fun _ => rfl
      have q7 := own_ia (sz := 4) (H := ctr h id 1 (ms b (60 - (d : Int))) m1) ctr_len (row (tail ++ [AO.box e.cells, AO.box r.cells])) (n := es.length) (by omega) hil
      have hel : (ds ++ List.replicate (t :: l).length (AV.agg zeroC))[i]? = some (.agg zeroC) := by
        rw [List.getElem?_append_right (by omega)]
        simp [hds, List.replicate]
      have q8 := own_est (sz := 4) (H := ctr h id 1 (ms b (60 - (d : Int))) m1) ctr_len (row (tail ++ [AO.box e.cells, AO.box r.cells])) hel rfl (x := r) (hr.snap) hr.cl.1 hr.cl.2 hr.cellB
      have hset : (ds ++ List.replicate (t :: l).length (AV.agg zeroC)).set i (AV.agg r.cells) = (ds ++ [r]) ++ List.replicate l.length (AV.agg zeroC) := by
        rw [List.set_append_right _ _ (by omega)]
        have : AV.agg r.cells = r := hr.eta
        rw [this]
        simp [hds, List.replicate]
      rw [hset] at q8
      simp only [List.set_cons_succ, List.set_cons_zero] at q8
      have st : ∀ R R2, R = ds ++ List.replicate (t :: l).length (AV.agg zeroC) → R2 = (ds ++ [r]) ++ List.replicate l.length (AV.agg zeroC) → exec (callW F) K c36_16 (L36 id h.length es.length c i) (ctr h id 1 (ms b (60 - (d : Int))) m ++ (.box cs0 :: .box zeroC :: .row 4 0 R 0 :: tail)) = some (.normal, [.ptr id 0, .junk, .ptr h.length 0, .ptr (h.length + 1) 0, .junk, .junk, .own 4 (h.length + 2) 0 0 es.length, .v (.int .i64 i), .ptr (h.length + (tail.length + 1 + 1 + 1)) 0, .ptr (h.length + (tail.length + 1 + 1 + 1 + 1)) 0, .v (.int .i64 0), .junk, .junk, c, .v (.int .i64 es.length), .v (.int .i64 ((i + 1 : Nat) : Int)), .v (.bool true), .v (.bool false)], ctr h id 1 (ms b (60 - (d : Int))) m1 ++ (.box cs0 :: .box zeroC :: .row 4 0 R2 0 :: (tail ++ [AO.box e.cells, AO.box r.cells]))) := by
        intro R R2 hR hR2
        rw [← hR] at hc q7 q8
        rw [← hR2] at q8
        have hst2 : ∀ (m d : Int), evStore (ctr h id 1 (ms b d) m ++ (.box cs0 :: .box zeroC :: .row 4 0 R 0 :: (tail ++ [AO.box e.cells] ++ [AO.box zeroC]))) 4 (.ptr (h.length + (tail.length + 1 + 1 + 1 + 1)) 0) r = some (ctr h id 1 (ms b d) m ++ (.box cs0 :: .box zeroC :: .row 4 0 R 0 :: (tail ++ [AO.box e.cells] ++ [AO.box r.cells]))) := by
          intro m d
          have hg := hr
          rw [show tail.length + 1 + 1 + 1 + 1 = (tail ++ [AO.box e.cells]).length + 1 + 1 + 1 by simp]
          generalize tail ++ [AO.box e.cells] = tl
          cases hg with
          | mk k s n c2 l2 hc2 =>
          simp only [c_st, stAt, zeroC, AV.cells, e_bslice1, e_bslice2, bs1, bs2, e_build, bdH_some, bd_nil, bd_cons, bd1, cl_agg, cl_int, toL, List.map_cons, List.map_nil, putAt, List.set_cons_zero, List.set_cons_succ, and_self, Nat.le_refl, app_get, app_set, g_agg, run_nil, run_cons, stp_plain, stp_guard, put_some, pass_eq, pick_tt, pick_ff, pick_tf, pick_ft, pick_u, reg_some, thn_normal, thn_exit, thn_ret, cnd_t, cnd_f, blk_normal, blk_ret, blk_exit, x_seq, x_region, x_cond, x_block, x_loop, x_ret, x_exit, x_skip, e_mov, e_pick, pk_t, pk_f, withH_some, e_box, e_load, e_store, stH_some, e_nil, e_bin, e_eqv, eqH_f, eqH_t, e_un, e_fa, e_ia, ia_eq, nat_eq, natV_nat, e_len, lnH_some, e_extract, ex_0, ex_1, e_call0, e_call1, e_call2, e_call3, pc0_eq, pc1_some, pc2_some, pc3_some, fin_some, g_var0, g_vars, g_loc0, g_locs, g_int, g_bool, g_str, g_sl, s_none, s_zero, s_succ, cl_nil, cl_str, cl_bool, cl_slc, cl_own, evFa, evNil, asEl, evBin, intBin, strBin, evUn, len_nil, len_slc, len_str, clr, List.length_nil, List.length_cons, List.getElem?_cons_zero, List.getElem?_cons_succ, Nat.reduceAdd, Nat.zero_add, Nat.add_zero, Nat.reduceLeDiff, Nat.reduceSub, ↓reduceIte, List.drop_succ_cons, List.drop_zero, List.take_succ_cons, List.take_zero, Bool.false_eq_true, List.nil_append, List.cons_append, Bool.not_true, Bool.not_false, cond_true, cond_false, bne, lv_ret, lv_normal, res1, res2, lv2_some, res_var, res_cell, lvf_v, lvf_slc, res1c, lvo1_some]
          rfl
        have hld2 : ∀ (m d : Int), evLoad (ctr h id 1 (ms b d) m ++ (.box cs0 :: .box zeroC :: .row 4 0 R 0 :: (tail ++ [AO.box e.cells] ++ [AO.box r.cells]))) true 4 (.ptr (h.length + (tail.length + 1 + 1 + 1 + 1)) 0) = some r := by
          intro m d
          rw [show tail.length + 1 + 1 + 1 + 1 = (tail ++ [AO.box e.cells]).length + 1 + 1 + 1 by simp]
          generalize tail ++ [AO.box e.cells] = tl
          rw [c_ld]
          simp only [ldAt, List.getElem?_cons_succ, app_get, hr.cl.2, List.drop_zero, hr.asEl]
          rfl
        have hnb : ((0 : Int) == 0) = true := rfl
        simp only [List.append_assoc, zeroC, List.cons_append, List.nil_append] at hst2 hld2 hc q7 q8
        simp only [L36, zeroC, c36_16, c36_9, c36_10, c36_11, c36_12, c36_14, c36_15, hlt, hnb, wrap_succ hil (small_max hm), q1, q3, q7, q8, hc, hst', hst2, hld2, hld, e_callh, q9z, c_ld, c_ld0, c_st, c_st0, c_bx, ldAt, stAt, preH_some, List.append_assoc, List.length_append, e_bslice1, e_bslice2, bs1, bs2, e_build, bdH_some, bd_nil, bd_cons, bd1, cl_agg, cl_int, toL, List.map_cons, List.map_nil, putAt, List.set_cons_zero, List.set_cons_succ, and_self, Nat.le_refl, app_get, app_set, g_agg, run_nil, run_cons, stp_plain, stp_guard, put_some, pass_eq, pick_tt, pick_ff, pick_tf, pick_ft, pick_u, reg_some, thn_normal, thn_exit, thn_ret, cnd_t, cnd_f, blk_normal, blk_ret, blk_exit, x_seq, x_region, x_cond, x_block, x_loop, x_ret, x_exit, x_skip, e_mov, e_pick, pk_t, pk_f, withH_some, e_box, e_load, e_store, stH_some, e_nil, e_bin, e_eqv, eqH_f, eqH_t, e_un, e_fa, e_ia, ia_eq, nat_eq, natV_nat, e_len, lnH_some, e_extract, ex_0, ex_1, e_call0, e_call1, e_call2, e_call3, pc0_eq, pc1_some, pc2_some, pc3_some, fin_some, g_var0, g_vars, g_loc0, g_locs, g_int, g_bool, g_str, g_sl, s_none, s_zero, s_succ, cl_nil, cl_str, cl_bool, cl_slc, cl_own, evFa, evNil, asEl, evBin, intBin, strBin, evUn, len_nil, len_slc, len_str, clr, List.length_nil, List.length_cons, List.getElem?_cons_zero, List.getElem?_cons_succ, Nat.reduceAdd, Nat.zero_add, Nat.add_zero, Nat.reduceLeDiff, Nat.reduceSub, ↓reduceIte, List.drop_succ_cons, List.drop_zero, List.take_succ_cons, List.take_zero, Bool.false_eq_true, List.nil_append, List.cons_append, Bool.not_true, Bool.not_false, cond_true, cond_false, bne, lv_ret, lv_normal, res1, res2, lv2_some, res_var, res_cell, lvf_v, lvf_slc, res1c, lvo1_some]
      have hnext := ih (i + 1) m1 (ds ++ [r]) (dl ++ [x]) (tail ++ [AO.box e.cells, AO.box r.cells]) [.ptr id 0, .junk, .ptr h.length 0, .ptr (h.length + 1) 0, .junk, .junk, .own 4 (h.length + 2) 0 0 es.length, .v (.int .i64 i), .ptr (h.length + (tail.length + 1 + 1 + 1)) 0, .ptr (h.length + (tail.length + 1 + 1 + 1 + 1)) 0, .v (.int .i64 0), .junk, .junk, c, .v (.int .i64 es.length), .v (.int .i64 ((i + 1 : Nat) : Int)), .v (.bool true), .v (.bool false)] (by simp at hi; omega) (by simp [hds]) (by omega) hs' (hall.app (.one hr)) (fun t ht => hszs t (by simp [ht])) tl3 rfl
      have hln : ∀ X, loopN (exec (callW F) K c36_16) K36 ((t :: l).length + 1) vars (ctr h id 1 (ms b (60 - (d : Int))) m ++ (.box cs0 :: .box zeroC :: .row 4 0 (ds ++ List.replicate (t :: l).length (.agg zeroC)) 0 :: tail)) = X ↔ _ = X := fun X => by
        rw [show (t :: l).length + 1 = (l.length + 1) + 1 from rfl, loop_normal (by rw [hv]; exact st _ _ rfl rfl)]
      dsimp only
      cases hrl : resL (resT rs d) m1 l with
      | error er =>
        rw [hrl] at hnext
        obtain ⟨hne, l', d', o, tail', vs, g1, g2, g3⟩ := hnext
        exact ⟨hne, l', d', o, tail', vs, (hln _).2 g1, g2, g3⟩
      | ok q =>
        obtain ⟨xs, m2⟩ := q
        rw [hrl] at hnext
        obtain ⟨hle2, ds', tail', x1, x4, x5, x7, x8, x9, x10, x11, x12, x16, x17, g1, g2, g3⟩ := hnext
        exact ⟨by omega, ds', tail', x1, x4, x5, x7, x8, x9, x10, x11, x12, x16, x17, (hln _).2 g1, by simpa using g2, g3⟩
end
end Go.AE.Ytpgoibncgekflaa
end

/-! Resolve walked. -/
section
set_option linter.unusedVariables false
set_option linter.unusedSimpArgs false
namespace Go.AE.Ytpgoibncgekflaa
open Go Go.AE Go.Proofs.Ytpgoibncgekflaa

theorem frz_mk {h' : List AO} {B idx n : Nat} {k n' : Int} {s : ByteArray} {ds : List AV} (hr : h'[idx]? = some (.row 4 0 ds 0)) (hn : ¬ idx < B) (hl : n = ds.length) : (AV.agg [.v (.int .i64 k), .v (.string s), .v (.int .i64 n'), .own 4 idx 0 0 n]).frz1 B h' = some (.agg [.v (.int .i64 k), .v (.string s), .v (.int .i64 n'), .slc 4 false false ds]) := by
  subst hl
  simp [AV.frz1, AV.frz0, hn, rowAt, hr]
def tail36 : CC := (.seq (.region [] [] c36_17) (.seq (.region [] [] c36_18) (.seq (.region [] [] c36_19) .ret)))
def mid36 : CC := (.seq (.region [] [] c36_6) (.seq (.region [] [] c36_7) (.seq (.seq (.region [] [] c36_8) (.block 1 (.loop K36 [] c36_16))) tail36)))
def head36 (rest : CC) : CC := (.seq (.region [] [] c36_0) (.seq (.region [] [] c36_1) (.seq (.block 0 (.seq (.region [] [] c36_2) (.cond (.var 11) (.seq (.region [] [] c36_3) .ret) (.seq (.region [] [] c36_4) (.cond (.var 12) (.seq (.region [] [] c36_5) .ret) .skip))))) rest)))
theorem body36 : c36.body = head36 mid36 := rfl
theorem start36 (a b : AV) : start c36 [a, b] = [a, b, .v undef, .v undef, .v undef, .v undef, .v undef, .v undef, .v undef, .v undef, .v undef, .v undef, .v undef, .v undef, .v undef, .v undef, .v undef, .v undef] := rfl

section
variable {h : List AO} {id : Nat} {b : AV} {d d' m : Int} {l : List AO}
theorem res36 {es : List AV} {rs : List (Int × Tm)} (hes : AllB es rs) (hbs : ∀ h : List AO, b.snap1 h = some b) (hlook : ∀ n, callW F 13 [b, .v (.int .i64 n)] [] = some (lookA n es, [])) (hrs : ∀ p ∈ rs, size p.2 ≤ 100000) : ∀ d : Nat, d ≤ 60 → Res36 rs b d := by
  intro d
  induction d with
  | zero =>
    intro _ h id m t a c hm hsz ht
    have hl2 : ([.box a.cells, .box zeroC] : List AO).all (AO.below 0) = true := by
      have h1 := ht.bel
      have hz : (AO.box zeroC).below 0 = true := rfl
      simp only [List.all_cons, List.all_nil, h1, hz, Bool.and_true]
    obtain ⟨rc, hrc, hc⟩ := meet_ok (c.app0 hl2) hes hbs hlook m hm ht
    rw [ctr_app c.lt, ctr_app c.lt] at hc
    have hD : (60 : Int) - ((0 : Nat) : Int) = 60 := rfl
    rw [hD] at c hc ⊢
    have hresv : c36.res = [.cell 3 true 4, .var 4] := rfl
    rcases meetT_err rs m t with h0 | ⟨h1, h2⟩
    · -- too deep
      simp only [resT]
      generalize meetT rs m t = w at hrc hc h0 ⊢
      obtain ⟨w1, w2, w3⟩ := w
      dsimp only at h0 hrc hc ⊢
      subst h0
      rw [if_pos rfl]
      refine ⟨by decide, .agg zeroC, w3, 60, isT_zero, callW_own (c := c36) rfl rfl 0 ?_⟩
      have e1 : ((60 : Int) == 60) = true := rfl
      have e2 : ((0 : Int) == 0) = true := rfl
      have body : exec (callW F) 0 c36.body (start c36 [.ptr id 0, a]) (ctr h id 1 (ms b 60) m ++ []) = some (.ret, [.ptr id 0, a, .ptr h.length 0, .ptr (h.length + 1) 0, .v (.int .i64 3), .v (.int .i64 0), .v undef, .v undef, .v undef, .v undef, .v undef, .v (.bool false), .v (.bool true), .v undef, .v undef, .v undef, .v undef, .v undef], ctr h id 1 (ms b 60) w3 ++ [.box rc, .box zeroC]) := by
        rw [body36, start36]
        generalize mid36 = rest
        cases hrc
        cases ht
        simp only [AV.cells, zeroC] at hc
        simp only [head36, zeroC, c36_0, c36_1, c36_2, c36_4, c36_5, e1, e2, hc, e_callh, q9z, AV.cells, r_ld0 c, r_ld2 c, evNil, c_ld, c_ld0, c_st, c_st0, c_bx, ldAt, stAt, preH_some, List.append_assoc, e_bslice1, e_bslice2, bs1, bs2, e_build, bdH_some, bd_nil, bd_cons, bd1, cl_agg, cl_int, toL, List.map_cons, List.map_nil, putAt, List.set_cons_zero, List.set_cons_succ, and_self, Nat.le_refl, app_get, app_set, g_agg, run_nil, run_cons, stp_plain, stp_guard, put_some, pass_eq, pick_tt, pick_ff, pick_tf, pick_ft, pick_u, reg_some, thn_normal, thn_exit, thn_ret, cnd_t, cnd_f, blk_normal, blk_ret, blk_exit, x_seq, x_region, x_cond, x_block, x_loop, x_ret, x_exit, x_skip, e_mov, e_pick, pk_t, pk_f, withH_some, e_box, e_load, e_store, stH_some, e_nil, e_bin, e_eqv, eqH_f, eqH_t, e_un, e_fa, e_ia, ia_eq, nat_eq, natV_nat, e_len, lnH_some, e_extract, ex_0, ex_1, e_call0, e_call1, e_call2, e_call3, pc0_eq, pc1_some, pc2_some, pc3_some, fin_some, g_var0, g_vars, g_loc0, g_locs, g_int, g_bool, g_str, g_sl, s_none, s_zero, s_succ, cl_nil, cl_str, cl_bool, cl_slc, cl_own, evFa, evNil, asEl, evBin, intBin, strBin, evUn, len_nil, len_slc, len_str, clr, List.length_nil, List.length_cons, List.getElem?_cons_zero, List.getElem?_cons_succ, Nat.reduceAdd, Nat.zero_add, Nat.add_zero, Nat.reduceLeDiff, Nat.reduceSub, ↓reduceIte, List.drop_succ_cons, List.drop_zero, List.take_succ_cons, List.take_zero, Bool.false_eq_true, List.nil_append, List.cons_append, Bool.not_true, Bool.not_false, cond_true, cond_false, bne, lv_ret, lv_normal, res1, res2, lv2_some, res_var, res_cell, lvf_v, lvf_slc, res1c, lvo1_some]
      rw [body, ctr_len, leave_own ctr_len (c.all _), hresv, own_res2 (x := .agg zeroC) (y := .v (.int .i64 3)) _ _]
      · exact lvo_two (isT_zero.frz _ _) rfl
      · simp only [res_cell, c_ld, ldAt, zeroC, e_bslice1, e_bslice2, bs1, bs2, e_build, bdH_some, bd_nil, bd_cons, bd1, cl_agg, cl_int, toL, List.map_cons, List.map_nil, putAt, List.set_cons_zero, List.set_cons_succ, and_self, Nat.le_refl, app_get, app_set, g_agg, run_nil, run_cons, stp_plain, stp_guard, put_some, pass_eq, pick_tt, pick_ff, pick_tf, pick_ft, pick_u, reg_some, thn_normal, thn_exit, thn_ret, cnd_t, cnd_f, blk_normal, blk_ret, blk_exit, x_seq, x_region, x_cond, x_block, x_loop, x_ret, x_exit, x_skip, e_mov, e_pick, pk_t, pk_f, withH_some, e_box, e_load, e_store, stH_some, e_nil, e_bin, e_eqv, eqH_f, eqH_t, e_un, e_fa, e_ia, ia_eq, nat_eq, natV_nat, e_len, lnH_some, e_extract, ex_0, ex_1, e_call0, e_call1, e_call2, e_call3, pc0_eq, pc1_some, pc2_some, pc3_some, fin_some, g_var0, g_vars, g_loc0, g_locs, g_int, g_bool, g_str, g_sl, s_none, s_zero, s_succ, cl_nil, cl_str, cl_bool, cl_slc, cl_own, evFa, evNil, asEl, evBin, intBin, strBin, evUn, len_nil, len_slc, len_str, clr, List.length_nil, List.length_cons, List.getElem?_cons_zero, List.getElem?_cons_succ, Nat.reduceAdd, Nat.zero_add, Nat.add_zero, Nat.reduceLeDiff, Nat.reduceSub, ↓reduceIte, List.drop_succ_cons, List.drop_zero, List.take_succ_cons, List.take_zero, Bool.false_eq_true, List.nil_append, List.cons_append, Bool.not_true, Bool.not_false, cond_true, cond_false, bne, lv_ret, lv_normal, res1, res2, lv2_some, res_var, res_cell, lvf_v, lvf_slc, res1c, lvo1_some]
      · rfl
    · simp only [resT]
      generalize meetT rs m t = w at hrc hc h1 h2 ⊢
      obtain ⟨w1, w2, w3⟩ := w
      dsimp only at h1 h2 hrc hc ⊢
      subst h1
      subst h2
      rw [if_neg (by decide)]
      refine ⟨by decide, .agg rc, w3, 60, hrc, callW_own (c := c36) rfl rfl 0 ?_⟩
      have e2 : ((140 : Int) == 0) = false := rfl
      have body : exec (callW F) 0 c36.body (start c36 [.ptr id 0, a]) (ctr h id 1 (ms b 60) m ++ []) = some (.ret, [.ptr id 0, a, .ptr h.length 0, .ptr (h.length + 1) 0, .v (.int .i64 140), .v (.int .i64 140), .v undef, .v undef, .v undef, .v undef, .v undef, .v (.bool true), .v undef, .v undef, .v undef, .v undef, .v undef, .v undef], ctr h id 1 (ms b 60) w3 ++ [.box rc, .box rc]) := by
        rw [body36, start36]
        generalize mid36 = rest
        generalize zeroT = zt at hrc
        cases hrc
        cases ht
        simp only [AV.cells, zeroC] at hc
        simp only [head36, zeroC, c36_0, c36_1, c36_2, c36_3, e2, hc, e_callh, q9z, AV.cells, r_ld0 c, r_ld2 c, evNil, c_ld, c_ld0, c_st, c_st0, c_bx, ldAt, stAt, preH_some, List.append_assoc, e_bslice1, e_bslice2, bs1, bs2, e_build, bdH_some, bd_nil, bd_cons, bd1, cl_agg, cl_int, toL, List.map_cons, List.map_nil, putAt, List.set_cons_zero, List.set_cons_succ, and_self, Nat.le_refl, app_get, app_set, g_agg, run_nil, run_cons, stp_plain, stp_guard, put_some, pass_eq, pick_tt, pick_ff, pick_tf, pick_ft, pick_u, reg_some, thn_normal, thn_exit, thn_ret, cnd_t, cnd_f, blk_normal, blk_ret, blk_exit, x_seq, x_region, x_cond, x_block, x_loop, x_ret, x_exit, x_skip, e_mov, e_pick, pk_t, pk_f, withH_some, e_box, e_load, e_store, stH_some, e_nil, e_bin, e_eqv, eqH_f, eqH_t, e_un, e_fa, e_ia, ia_eq, nat_eq, natV_nat, e_len, lnH_some, e_extract, ex_0, ex_1, e_call0, e_call1, e_call2, e_call3, pc0_eq, pc1_some, pc2_some, pc3_some, fin_some, g_var0, g_vars, g_loc0, g_locs, g_int, g_bool, g_str, g_sl, s_none, s_zero, s_succ, cl_nil, cl_str, cl_bool, cl_slc, cl_own, evFa, evNil, asEl, evBin, intBin, strBin, evUn, len_nil, len_slc, len_str, clr, List.length_nil, List.length_cons, List.getElem?_cons_zero, List.getElem?_cons_succ, Nat.reduceAdd, Nat.zero_add, Nat.add_zero, Nat.reduceLeDiff, Nat.reduceSub, ↓reduceIte, List.drop_succ_cons, List.drop_zero, List.take_succ_cons, List.take_zero, Bool.false_eq_true, List.nil_append, List.cons_append, Bool.not_true, Bool.not_false, cond_true, cond_false, bne, lv_ret, lv_normal, res1, res2, lv2_some, res_var, res_cell, lvf_v, lvf_slc, res1c, lvo1_some]
      rw [body, ctr_len, leave_own ctr_len (c.all _), hresv, own_res2 (x := .agg rc) (y := .v (.int .i64 140)) _ _]
      · exact lvo_two (hrc.frz _ _) rfl
      · generalize zeroT = zt at hrc
        cases hrc; simp only [res_cell, c_ld, ldAt, e_bslice1, e_bslice2, bs1, bs2, e_build, bdH_some, bd_nil, bd_cons, bd1, cl_agg, cl_int, toL, List.map_cons, List.map_nil, putAt, List.set_cons_zero, List.set_cons_succ, and_self, Nat.le_refl, app_get, app_set, g_agg, run_nil, run_cons, stp_plain, stp_guard, put_some, pass_eq, pick_tt, pick_ff, pick_tf, pick_ft, pick_u, reg_some, thn_normal, thn_exit, thn_ret, cnd_t, cnd_f, blk_normal, blk_ret, blk_exit, x_seq, x_region, x_cond, x_block, x_loop, x_ret, x_exit, x_skip, e_mov, e_pick, pk_t, pk_f, withH_some, e_box, e_load, e_store, stH_some, e_nil, e_bin, e_eqv, eqH_f, eqH_t, e_un, e_fa, e_ia, ia_eq, nat_eq, natV_nat, e_len, lnH_some, e_extract, ex_0, ex_1, e_call0, e_call1, e_call2, e_call3, pc0_eq, pc1_some, pc2_some, pc3_some, fin_some, g_var0, g_vars, g_loc0, g_locs, g_int, g_bool, g_str, g_sl, s_none, s_zero, s_succ, cl_nil, cl_str, cl_bool, cl_slc, cl_own, evFa, evNil, asEl, evBin, intBin, strBin, evUn, len_nil, len_slc, len_str, clr, List.length_nil, List.length_cons, List.getElem?_cons_zero, List.getElem?_cons_succ, Nat.reduceAdd, Nat.zero_add, Nat.add_zero, Nat.reduceLeDiff, Nat.reduceSub, ↓reduceIte, List.drop_succ_cons, List.drop_zero, List.take_succ_cons, List.take_zero, Bool.false_eq_true, List.nil_append, List.cons_append, Bool.not_true, Bool.not_false, cond_true, cond_false, bne, lv_ret, lv_normal, res1, res2, lv2_some, res_var, res_cell, lvf_v, lvf_slc, res1c, lvo1_some]
      · rfl
  | succ d ih =>
    intro hd60 h id m t a c hm hsz ht
    have hR := ih (by omega)
    have hl2 : ([.box a.cells, .box zeroC] : List AO).all (AO.below 0) = true := by
      have h1 := ht.bel
      have hz : (AO.box zeroC).below 0 = true := rfl
      simp only [List.all_cons, List.all_nil, h1, hz, Bool.and_true]
    obtain ⟨rc, hrc, hc⟩ := meet_ok (c.app0 hl2) hes hbs hlook m hm ht
    rw [ctr_app c.lt, ctr_app c.lt] at hc
    have hresv : c36.res = [.cell 3 true 4, .var 4] := rfl
    have hmle := meetT_le rs m t
    have hmsz := meetT_size (M := 100000) (by omega) hrs m t hsz
    rcases meetT_err rs m t with h0 | ⟨h1, h2⟩
    · simp only [resT]
      generalize meetT rs m t = w at hrc hc h0 hmle hmsz ⊢
      obtain ⟨w1, w2, w3⟩ := w
      dsimp only at h0 hrc hc hmle hmsz
      subst h0
      have hbelr := hrc.bel
      cases hrc with
      | mk k s n cl l hcl =>
      dsimp only
      rw [if_pos rfl]
      simp only [size] at hmsz
      have hll := sizeL_len l
      obtain ⟨es', hs, hes', hmx⟩ := hcl.sl
      have e1 := hes'.length
      have c1 := c.ms (60 - (d : Int))
      have hloop := res_loop (K := l.length + 1) (cs0 := [.v (.int .i64 k), .v (.string s), .v (.int .i64 n), cl]) hs (by omega) d hbelr hR c1 l 0 w3 [] [] [] (L36 id h.length es'.length cl (0 : Nat)) (by omega) rfl (by omega) (by simpa using hes') .nil (fun t ht => by have := size_mem ht; omega) rfl rfl
      have d1 : ((60 : Int) - ((d + 1 : Nat) : Int) == 60) = false := by rw [beq_eq_false_iff_ne]; omega
      have d2 : IntKind.i64.wrap ((60 : Int) - ((d + 1 : Nat) : Int) + 1) = 60 - (d : Int) := by
        rw [IntWalk.i64_in] <;> omega
      have d3 : IntKind.i64.wrap ((60 : Int) - (d : Int) - 1) = 60 - ((d + 1 : Nat) : Int) := by
        rw [IntWalk.i64_in] <;> omega
      have z0 : ((0 : Int) == 0) = true := rfl
      have hrow : (List.replicate es'.length (AV.agg zeroC)) = [] ++ List.replicate l.length (AV.agg zeroC) := by rw [e1]; rfl
      have mk := mkS_own (sz := 4) (H := ctr h id 1 (ms b (60 - (d : Int))) w3) (l := [.box [.v (.int .i64 k), .v (.string s), .v (.int .i64 n), cl], .box zeroC]) (B := h.length) ctr_len (bytes := 56) (zero := [(.int .i64 0), (.string ⟨#[]⟩), (.int .i64 0), (.slice none 0 0)]) (n := es'.length) (by have : maxLen = 9223372036854775807 := rfl; omega) (by omega)
      rw [zeroEl4, hrow] at mk
      have pre : exec (callW F) (l.length + 1) c36.body (start c36 [.ptr id 0, a]) (ctr h id 1 (ms b (60 - ((d + 1 : Nat) : Int))) m ++ []) = thn (callW F) (l.length + 1) tail36 (blk 1 (loopN (exec (callW F) (l.length + 1) c36_16) K36 (l.length + 1) (L36 id h.length es'.length cl ((0 : Nat) : Int)) (ctr h id 1 (ms b (60 - (d : Int))) w3 ++ (.box [.v (.int .i64 k), .v (.string s), .v (.int .i64 n), cl] :: .box zeroC :: .row 4 0 ([] ++ List.replicate l.length (AV.agg zeroC)) 0 :: [])))) := by
        rw [body36, start36]
        generalize ([] ++ List.replicate l.length (AV.agg zeroC)) = R at mk ⊢
        have hrd := r_ld2 (m := (w3 : Int)) (l := [.box [.v (.int .i64 k), .v (.string s), .v (.int .i64 n), cl], .box zeroC]) c
        have hrs := r_st2 (m := (w3 : Int)) (d' := 60 - (d : Int)) (l := [.box [.v (.int .i64 k), .v (.string s), .v (.int .i64 n), cl], .box zeroC]) c
        simp only [zeroC] at hrd hrs
        cases ht
        simp only [AV.cells, zeroC] at hc mk
        simp only [head36, mid36, zeroC, c36_0, c36_1, c36_2, c36_4, c36_6, c36_7, c36_8, d1, d2, z0, hc, mk, hs.len, hrd, hrs, e_mkslice, e_callh, q9z, AV.cells, r_ld0 c, r_ld2 c, evNil, c_ld, c_ld0, c_st, c_st0, c_bx, ldAt, stAt, preH_some, List.append_assoc, e_bslice1, e_bslice2, bs1, bs2, e_build, bdH_some, bd_nil, bd_cons, bd1, cl_agg, cl_int, toL, List.map_cons, List.map_nil, putAt, List.set_cons_zero, List.set_cons_succ, and_self, Nat.le_refl, app_get, app_set, g_agg, run_nil, run_cons, stp_plain, stp_guard, put_some, pass_eq, pick_tt, pick_ff, pick_tf, pick_ft, pick_u, reg_some, thn_normal, thn_exit, thn_ret, cnd_t, cnd_f, blk_normal, blk_ret, blk_exit, x_seq, x_region, x_cond, x_block, x_loop, x_ret, x_exit, x_skip, e_mov, e_pick, pk_t, pk_f, withH_some, e_box, e_load, e_store, stH_some, e_nil, e_bin, e_eqv, eqH_f, eqH_t, e_un, e_fa, e_ia, ia_eq, nat_eq, natV_nat, e_len, lnH_some, e_extract, ex_0, ex_1, e_call0, e_call1, e_call2, e_call3, pc0_eq, pc1_some, pc2_some, pc3_some, fin_some, g_var0, g_vars, g_loc0, g_locs, g_int, g_bool, g_str, g_sl, s_none, s_zero, s_succ, cl_nil, cl_str, cl_bool, cl_slc, cl_own, evFa, evNil, asEl, evBin, intBin, strBin, evUn, len_nil, len_slc, len_str, clr, List.length_nil, List.length_cons, List.getElem?_cons_zero, List.getElem?_cons_succ, Nat.reduceAdd, Nat.zero_add, Nat.add_zero, Nat.reduceLeDiff, Nat.reduceSub, ↓reduceIte, List.drop_succ_cons, List.drop_zero, List.take_succ_cons, List.take_zero, Bool.false_eq_true, List.nil_append, List.cons_append, Bool.not_true, Bool.not_false, cond_true, cond_false, bne, lv_ret, lv_normal, res1, res2, lv2_some, res_var, res_cell, lvf_v, lvf_slc, res1c, lvo1_some]
        rw [loop_cong (v2 := L36 id h.length es'.length cl ((0 : Nat) : Int)) (by rfl)]
      cases hrl : resL (resT rs d) w3 l with
      | error er =>
        rw [hrl] at hloop
        obtain ⟨hne, l', d', o, tail', vs, g1, g2, g3⟩ := hloop
        refine ⟨hne, .agg zeroC, l', d', isT_zero, callW_own (c := c36) rfl rfl (l.length + 1) ?_⟩
        rw [pre, g1]
        simp only [blk_ret, thn_ret]
        rw [ctr_len, leave_own ctr_len (c1.ms d' |>.all _), hresv, own_res2 (x := .agg zeroC) (y := .v (.int .i64 er)) _ _]
        · exact lvo_two (isT_zero.frz _ _) rfl
        · rw [res_cell, g2]; simp only [c_ld, ldAt, zeroC, e_bslice1, e_bslice2, bs1, bs2, e_build, bdH_some, bd_nil, bd_cons, bd1, cl_agg, cl_int, toL, List.map_cons, List.map_nil, putAt, List.set_cons_zero, List.set_cons_succ, and_self, Nat.le_refl, app_get, app_set, g_agg, run_nil, run_cons, stp_plain, stp_guard, put_some, pass_eq, pick_tt, pick_ff, pick_tf, pick_ft, pick_u, reg_some, thn_normal, thn_exit, thn_ret, cnd_t, cnd_f, blk_normal, blk_ret, blk_exit, x_seq, x_region, x_cond, x_block, x_loop, x_ret, x_exit, x_skip, e_mov, e_pick, pk_t, pk_f, withH_some, e_box, e_load, e_store, stH_some, e_nil, e_bin, e_eqv, eqH_f, eqH_t, e_un, e_fa, e_ia, ia_eq, nat_eq, natV_nat, e_len, lnH_some, e_extract, ex_0, ex_1, e_call0, e_call1, e_call2, e_call3, pc0_eq, pc1_some, pc2_some, pc3_some, fin_some, g_var0, g_vars, g_loc0, g_locs, g_int, g_bool, g_str, g_sl, s_none, s_zero, s_succ, cl_nil, cl_str, cl_bool, cl_slc, cl_own, evFa, evNil, asEl, evBin, intBin, strBin, evUn, len_nil, len_slc, len_str, clr, List.length_nil, List.length_cons, List.getElem?_cons_zero, List.getElem?_cons_succ, Nat.reduceAdd, Nat.zero_add, Nat.add_zero, Nat.reduceLeDiff, Nat.reduceSub, ↓reduceIte, List.drop_succ_cons, List.drop_zero, List.take_succ_cons, List.take_zero, Bool.false_eq_true, List.nil_append, List.cons_append, Bool.not_true, Bool.not_false, cond_true, cond_false, bne, lv_ret, lv_normal, res1, res2, lv2_some, res_var, res_cell, lvf_v, lvf_slc, res1c, lvo1_some]
        · rw [res_var, g3]
      | ok q =>
        obtain ⟨xs, m2⟩ := q
        rw [hrl] at hloop
        obtain ⟨hle2, ds', tail', x1, x4, x5, x7, x8, x9, x10, x11, x12, x16, x17, g1, g2, g3⟩ := hloop
        refine ⟨by omega, .agg [.v (.int .i64 k), .v (.string s), .v (.int .i64 n), .slc 4 false false ds'], .mk _ _ _ _ _ (.slc _ _ _ _ (by simpa using g2) (by omega)), callW_own (c := c36) rfl rfl (l.length + 1) ?_⟩
        have hds : (ctr h id 1 (ms b (60 - ((d + 1 : Nat) : Int))) m2 ++ (.box [.v (.int .i64 k), .v (.string s), .v (.int .i64 n), .own 4 (h.length + 2) 0 0 es'.length] :: .box [.v (.int .i64 k), .v (.string s), .v (.int .i64 n), .own 4 (h.length + 2) 0 0 es'.length] :: .row 4 0 ds' 0 :: tail'))[h.length + 2]? = some (.row 4 0 ds' 0) := obj_get ctr_len
        rw [pre, g1]
        have hfin : exec (callW F) (l.length + 1) tail36 [.ptr id 0, x1, .ptr h.length 0, .ptr (h.length + 1) 0, x4, x5, .own 4 (h.length + 2) 0 0 es'.length, x7, x8, x9, x10, x11, x12, cl, .v (.int .i64 es'.length), .v (.int .i64 es'.length), x16, x17] (ctr h id 1 (ms b (60 - (d : Int))) m2 ++ (.box [.v (.int .i64 k), .v (.string s), .v (.int .i64 n), cl] :: .box zeroC :: .row 4 0 ds' 0 :: tail')) = some (.ret, [.ptr id 0, x1, .ptr h.length 0, .ptr (h.length + 1) 0, .v (.int .i64 0), x5, .own 4 (h.length + 2) 0 0 es'.length, x7, x8, x9, x10, x11, x12, cl, .v (.int .i64 es'.length), .v (.int .i64 es'.length), x16, x17], ctr h id 1 (ms b (60 - ((d + 1 : Nat) : Int))) m2 ++ (.box [.v (.int .i64 k), .v (.string s), .v (.int .i64 n), .own 4 (h.length + 2) 0 0 es'.length] :: .box [.v (.int .i64 k), .v (.string s), .v (.int .i64 n), .own 4 (h.length + 2) 0 0 es'.length] :: .row 4 0 ds' 0 :: tail')) := by
          have hrd := r_ld2 (m := (m2 : Int)) (l := (.box [.v (.int .i64 k), .v (.string s), .v (.int .i64 n), cl] :: .box zeroC :: .row 4 0 ds' 0 :: tail')) c1
          have hrs := r_st2 (m := (m2 : Int)) (d' := 60 - ((d + 1 : Nat) : Int)) (l := (.box [.v (.int .i64 k), .v (.string s), .v (.int .i64 n), cl] :: .box zeroC :: .row 4 0 ds' 0 :: tail')) c1
          simp only [zeroC] at hrd hrs
          simp only [tail36, zeroC, c36_17, c36_18, c36_19, d3, hrd, hrs, evNil, c_ld, c_ld0, c_st, c_st0, c_bx, ldAt, stAt, preH_some, List.append_assoc, e_bslice1, e_bslice2, bs1, bs2, e_build, bdH_some, bd_nil, bd_cons, bd1, cl_agg, cl_int, toL, List.map_cons, List.map_nil, putAt, List.set_cons_zero, List.set_cons_succ, and_self, Nat.le_refl, app_get, app_set, g_agg, run_nil, run_cons, stp_plain, stp_guard, put_some, pass_eq, pick_tt, pick_ff, pick_tf, pick_ft, pick_u, reg_some, thn_normal, thn_exit, thn_ret, cnd_t, cnd_f, blk_normal, blk_ret, blk_exit, x_seq, x_region, x_cond, x_block, x_loop, x_ret, x_exit, x_skip, e_mov, e_pick, pk_t, pk_f, withH_some, e_box, e_load, e_store, stH_some, e_nil, e_bin, e_eqv, eqH_f, eqH_t, e_un, e_fa, e_ia, ia_eq, nat_eq, natV_nat, e_len, lnH_some, e_extract, ex_0, ex_1, e_call0, e_call1, e_call2, e_call3, pc0_eq, pc1_some, pc2_some, pc3_some, fin_some, g_var0, g_vars, g_loc0, g_locs, g_int, g_bool, g_str, g_sl, s_none, s_zero, s_succ, cl_nil, cl_str, cl_bool, cl_slc, cl_own, evFa, evNil, asEl, evBin, intBin, strBin, evUn, len_nil, len_slc, len_str, clr, List.length_nil, List.length_cons, List.getElem?_cons_zero, List.getElem?_cons_succ, Nat.reduceAdd, Nat.zero_add, Nat.add_zero, Nat.reduceLeDiff, Nat.reduceSub, ↓reduceIte, List.drop_succ_cons, List.drop_zero, List.take_succ_cons, List.take_zero, Bool.false_eq_true, List.nil_append, List.cons_append, Bool.not_true, Bool.not_false, cond_true, cond_false, bne, lv_ret, lv_normal, res1, res2, lv2_some, res_var, res_cell, lvf_v, lvf_slc, res1c, lvo1_some]
        simp only [blk_exit, thn_normal]
        rw [hfin, ctr_len, leave_own ctr_len (c.all _), hresv, own_res2 (x := .agg [.v (.int .i64 k), .v (.string s), .v (.int .i64 n), .own 4 (h.length + 2) 0 0 es'.length]) (y := .v (.int .i64 0)) _ _]
        · refine lvo_two ?_ rfl
          exact frz_mk hds (by omega) g3.symm
        · simp only [res_cell, c_ld, ldAt, e_bslice1, e_bslice2, bs1, bs2, e_build, bdH_some, bd_nil, bd_cons, bd1, cl_agg, cl_int, toL, List.map_cons, List.map_nil, putAt, List.set_cons_zero, List.set_cons_succ, and_self, Nat.le_refl, app_get, app_set, g_agg, run_nil, run_cons, stp_plain, stp_guard, put_some, pass_eq, pick_tt, pick_ff, pick_tf, pick_ft, pick_u, reg_some, thn_normal, thn_exit, thn_ret, cnd_t, cnd_f, blk_normal, blk_ret, blk_exit, x_seq, x_region, x_cond, x_block, x_loop, x_ret, x_exit, x_skip, e_mov, e_pick, pk_t, pk_f, withH_some, e_box, e_load, e_store, stH_some, e_nil, e_bin, e_eqv, eqH_f, eqH_t, e_un, e_fa, e_ia, ia_eq, nat_eq, natV_nat, e_len, lnH_some, e_extract, ex_0, ex_1, e_call0, e_call1, e_call2, e_call3, pc0_eq, pc1_some, pc2_some, pc3_some, fin_some, g_var0, g_vars, g_loc0, g_locs, g_int, g_bool, g_str, g_sl, s_none, s_zero, s_succ, cl_nil, cl_str, cl_bool, cl_slc, cl_own, evFa, evNil, asEl, evBin, intBin, strBin, evUn, len_nil, len_slc, len_str, clr, List.length_nil, List.length_cons, List.getElem?_cons_zero, List.getElem?_cons_succ, Nat.reduceAdd, Nat.zero_add, Nat.add_zero, Nat.reduceLeDiff, Nat.reduceSub, ↓reduceIte, List.drop_succ_cons, List.drop_zero, List.take_succ_cons, List.take_zero, Bool.false_eq_true, List.nil_append, List.cons_append, Bool.not_true, Bool.not_false, cond_true, cond_false, bne, lv_ret, lv_normal, res1, res2, lv2_some, res_var, res_cell, lvf_v, lvf_slc, res1c, lvo1_some]
        · rfl
    · simp only [resT]
      generalize meetT rs m t = w at hrc hc h1 h2 ⊢
      obtain ⟨w1, w2, w3⟩ := w
      dsimp only at h1 h2 hrc hc ⊢
      subst h1
      subst h2
      simp only [zeroT]
      rw [if_neg (by decide)]
      refine ⟨by decide, .agg rc, w3, 60 - ((d + 1 : Nat) : Int), hrc, callW_own (c := c36) rfl rfl 0 ?_⟩
      have e2 : ((140 : Int) == 0) = false := rfl
      have body : exec (callW F) 0 c36.body (start c36 [.ptr id 0, a]) (ctr h id 1 (ms b (60 - ((d + 1 : Nat) : Int))) m ++ []) = some (.ret, [.ptr id 0, a, .ptr h.length 0, .ptr (h.length + 1) 0, .v (.int .i64 140), .v (.int .i64 140), .v undef, .v undef, .v undef, .v undef, .v undef, .v (.bool true), .v undef, .v undef, .v undef, .v undef, .v undef, .v undef], ctr h id 1 (ms b (60 - ((d + 1 : Nat) : Int))) w3 ++ [.box rc, .box rc]) := by
        rw [body36, start36]
        generalize mid36 = rest
        generalize zeroT = zt at hrc
        cases hrc
        cases ht
        simp only [AV.cells, zeroC] at hc
        simp only [head36, zeroC, c36_0, c36_1, c36_2, c36_3, e2, hc, e_callh, q9z, AV.cells, r_ld0 c, r_ld2 c, evNil, c_ld, c_ld0, c_st, c_st0, c_bx, ldAt, stAt, preH_some, List.append_assoc, e_bslice1, e_bslice2, bs1, bs2, e_build, bdH_some, bd_nil, bd_cons, bd1, cl_agg, cl_int, toL, List.map_cons, List.map_nil, putAt, List.set_cons_zero, List.set_cons_succ, and_self, Nat.le_refl, app_get, app_set, g_agg, run_nil, run_cons, stp_plain, stp_guard, put_some, pass_eq, pick_tt, pick_ff, pick_tf, pick_ft, pick_u, reg_some, thn_normal, thn_exit, thn_ret, cnd_t, cnd_f, blk_normal, blk_ret, blk_exit, x_seq, x_region, x_cond, x_block, x_loop, x_ret, x_exit, x_skip, e_mov, e_pick, pk_t, pk_f, withH_some, e_box, e_load, e_store, stH_some, e_nil, e_bin, e_eqv, eqH_f, eqH_t, e_un, e_fa, e_ia, ia_eq, nat_eq, natV_nat, e_len, lnH_some, e_extract, ex_0, ex_1, e_call0, e_call1, e_call2, e_call3, pc0_eq, pc1_some, pc2_some, pc3_some, fin_some, g_var0, g_vars, g_loc0, g_locs, g_int, g_bool, g_str, g_sl, s_none, s_zero, s_succ, cl_nil, cl_str, cl_bool, cl_slc, cl_own, evFa, evNil, asEl, evBin, intBin, strBin, evUn, len_nil, len_slc, len_str, clr, List.length_nil, List.length_cons, List.getElem?_cons_zero, List.getElem?_cons_succ, Nat.reduceAdd, Nat.zero_add, Nat.add_zero, Nat.reduceLeDiff, Nat.reduceSub, ↓reduceIte, List.drop_succ_cons, List.drop_zero, List.take_succ_cons, List.take_zero, Bool.false_eq_true, List.nil_append, List.cons_append, Bool.not_true, Bool.not_false, cond_true, cond_false, bne, lv_ret, lv_normal, res1, res2, lv2_some, res_var, res_cell, lvf_v, lvf_slc, res1c, lvo1_some]
      rw [body, ctr_len, leave_own ctr_len (c.all _), hresv, own_res2 (x := .agg rc) (y := .v (.int .i64 140)) _ _]
      · exact lvo_two (hrc.frz _ _) rfl
      · generalize zeroT = zt at hrc
        cases hrc; simp only [res_cell, c_ld, ldAt, e_bslice1, e_bslice2, bs1, bs2, e_build, bdH_some, bd_nil, bd_cons, bd1, cl_agg, cl_int, toL, List.map_cons, List.map_nil, putAt, List.set_cons_zero, List.set_cons_succ, and_self, Nat.le_refl, app_get, app_set, g_agg, run_nil, run_cons, stp_plain, stp_guard, put_some, pass_eq, pick_tt, pick_ff, pick_tf, pick_ft, pick_u, reg_some, thn_normal, thn_exit, thn_ret, cnd_t, cnd_f, blk_normal, blk_ret, blk_exit, x_seq, x_region, x_cond, x_block, x_loop, x_ret, x_exit, x_skip, e_mov, e_pick, pk_t, pk_f, withH_some, e_box, e_load, e_store, stH_some, e_nil, e_bin, e_eqv, eqH_f, eqH_t, e_un, e_fa, e_ia, ia_eq, nat_eq, natV_nat, e_len, lnH_some, e_extract, ex_0, ex_1, e_call0, e_call1, e_call2, e_call3, pc0_eq, pc1_some, pc2_some, pc3_some, fin_some, g_var0, g_vars, g_loc0, g_locs, g_int, g_bool, g_str, g_sl, s_none, s_zero, s_succ, cl_nil, cl_str, cl_bool, cl_slc, cl_own, evFa, evNil, asEl, evBin, intBin, strBin, evUn, len_nil, len_slc, len_str, clr, List.length_nil, List.length_cons, List.getElem?_cons_zero, List.getElem?_cons_succ, Nat.reduceAdd, Nat.zero_add, Nat.add_zero, Nat.reduceLeDiff, Nat.reduceSub, ↓reduceIte, List.drop_succ_cons, List.drop_zero, List.take_succ_cons, List.take_zero, Bool.false_eq_true, List.nil_append, List.cons_append, Bool.not_true, Bool.not_false, cond_true, cond_false, bne, lv_ret, lv_normal, res1, res2, lv2_some, res_var, res_cell, lvf_v, lvf_slc, res1c, lvo1_some]
      · rfl
end

/-- what Resolve hands back -/
def resA (rs : List (Int × Tm)) (t : Tm) : Tm × Int := match resT rs 60 2000 t with
  | .ok (x, _) => (x, 0)
  | .error e => (zeroT, e)
theorem resolve_ok {b : AV} {bs : List (Int × Tm)} (hb : IsB b bs) (hl : bs.length ≤ 100000) (hrs : ∀ p ∈ bs, size p.2 ≤ 100000) {a : AV} {t : Tm} (hsz : size t ≤ 100000) (ht : IsT a t) : ∃ r, IsT r (resA bs.reverse t).1 ∧ callW F 18 [b, a] [] = some (.tup [r, .v (.int .i64 (resA bs.reverse t).2)], []) := by
  obtain ⟨es, hes, hk1, hk2⟩ := looks hb hl
  have hbs : ∀ h : List AO, b.snap1 h = some b := by
    intro h; cases hb <;> rfl
  have hbc : b.cl = some [b] ∧ b.below1 0 = true ∧ b.below1 3 = true := by cases hb <;> exact ⟨rfl, rfl, rfl⟩
  have h0 : ([.box a.cells, .box zeroC] : List AO).all (AO.below 2) = true := by
    have := below_mono (Nat.zero_le 2) _ ht.bel
    simp only [List.all_cons, List.all_nil, this, Bool.and_true]; rfl
  have hctr : Ctr [.box a.cells, .box zeroC, .box [b, .v (.int .i64 2000), .v (.int .i64 0)]] 2 1 (ms b (60 - ((60 : Nat) : Int))) := by
    refine ⟨by simp, by simp [ms], ?_, ?_⟩
    · have := below_mono (Nat.zero_le 3) _ ht.bel
      have h3 := hbc.2.2
      have hz : (AO.box zeroC).below 3 = true := rfl
      simp only [List.length_cons, List.length_nil, Nat.zero_add, Nat.reduceAdd, List.all_cons, List.all_nil, this, hz, Bool.and_true, Bool.true_and]
      simp only [AO.below, List.all_cons, List.all_nil, h3, Bool.true_and]
      rfl
    · have h3 := hbc.2.2
      simp only [ms, List.length_cons, List.length_nil, Nat.zero_add, Nat.reduceAdd, List.all_cons, List.all_nil, h3, Bool.true_and]
      rfl
  have hr := res36 hes.reverse hbs hk1 (fun p hp => hrs p (by simpa using hp)) 60 (by omega) _ 2 2000 t a hctr (by omega) hsz ht
  have e60 : (60 : Int) - ((60 : Nat) : Int) = 0 := rfl
  have e20 : ((2000 : Nat) : Int) = 2000 := rfl
  simp only [e60, e20, ms_eq, List.set_cons_succ, List.set_cons_zero] at hr
  have fin : ∀ (r : AV) (u : Tm) (e : Int) (o : AO), IsT r u → callW F 36 [.ptr 2 0, a] [.box a.cells, .box zeroC, .box [b, .v (.int .i64 2000), .v (.int .i64 0)]] = some (.tup [r, .v (.int .i64 e)], [.box a.cells, .box zeroC, o]) → callW F 18 [b, a] [] = some (.tup [r, .v (.int .i64 e)], []) := by
    intro r u e o hru hcall
    refine callW_pure (c := c18) rfl rfl 0 ?_
    have g1 := lvt hru
    have b1 := hbc.1
    cases hru
    cases ht
    simp only [AV.cells, zeroC] at hcall
    simp only [c18, start, List.replicate, c18_0, c18_1, c18_2, q9z, hcall, b1, e_callh, g1, e_bslice1, e_bslice2, bs1, bs2, e_build, bdH_some, bd_nil, bd_cons, bd1, cl_agg, cl_int, toL, List.map_cons, List.map_nil, putAt, List.set_cons_zero, List.set_cons_succ, and_self, Nat.le_refl, evStore, app_get, app_set, g_agg, run_nil, run_cons, stp_plain, stp_guard, put_some, pass_eq, pick_tt, pick_ff, pick_tf, pick_ft, pick_u, reg_some, thn_normal, thn_exit, thn_ret, cnd_t, cnd_f, blk_normal, blk_ret, blk_exit, x_seq, x_region, x_cond, x_block, x_loop, x_ret, x_exit, x_skip, e_mov, e_pick, pk_t, pk_f, withH_some, e_box, bx_some, e_load, e_store, stH_some, e_nil, e_bin, e_eqv, eqH_f, eqH_t, e_un, e_fa, e_ia, ia_eq, nat_eq, natV_nat, e_len, lnH_some, e_extract, ex_0, ex_1, e_call0, e_call1, e_call2, e_call3, pc0_eq, pc1_some, pc2_some, pc3_some, fin_some, g_var0, g_vars, g_loc0, g_locs, g_int, g_bool, g_str, g_sl, s_none, s_zero, s_succ, cl_nil, cl_str, cl_bool, cl_slc, cl_own, evFa, evNil, evLoad, asEl, evBin, intBin, strBin, evUn, len_nil, len_slc, len_str, clr, List.length_nil, List.length_cons, List.getElem?_cons_zero, List.getElem?_cons_succ, Nat.reduceAdd, Nat.zero_add, Nat.add_zero, Nat.reduceLeDiff, Nat.reduceSub, ↓reduceIte, List.drop_succ_cons, List.drop_zero, List.take_succ_cons, List.take_zero, Bool.false_eq_true, List.nil_append, List.cons_append, Bool.not_true, Bool.not_false, cond_true, cond_false, bne, lv_ret, lv_normal, res1, res2, lv2_some, res_var, res_cell, lvf_v, lvf_slc, res1c, lvo1_some]
  simp only [resA]
  cases hres : resT bs.reverse 60 2000 t with
  | error e =>
    rw [hres] at hr
    obtain ⟨hne, r, l', d', hrr, hcall⟩ := hr
    exact ⟨r, hrr, fin r _ e _ hrr hcall⟩
  | ok q =>
    obtain ⟨x, m2⟩ := q
    rw [hres] at hr
    obtain ⟨_, r, hrr, hcall⟩ := hr
    exact ⟨r, hrr, fin r _ 0 _ hrr hcall⟩
end Go.AE.Ytpgoibncgekflaa
end

/-! Vars, and whether a number is among some. -/
section
set_option linter.unusedVariables false
set_option linter.unusedSimpArgs false
namespace Go.AE.Ytpgoibncgekflaa
open Go Go.AE Go.Proofs.Ytpgoibncgekflaa

def iv (n : Int) : AV := .v (.int .i64 n)
mutual
def placesT : Tm → List Int
  | .mk k _ n l => (if k = 1 then [n] else []) ++ placesL l
def placesL : List Tm → List Int
  | [] => []
  | t :: l => placesT t ++ placesL l
end
mutual
theorem places_len : ∀ t : Tm, (placesT t).length ≤ size t
  | .mk k s n l => by
    have := placesL_len l
    simp only [placesT, size, List.length_append]
    split <;> simp <;> omega
theorem placesL_len : ∀ l : List Tm, (placesL l).length ≤ sizeL l
  | [] => by simp [placesL, sizeL]
  | t :: l => by
    have := places_len t
    have := placesL_len l
    simp only [placesL, sizeL, List.length_append]; omega
end

/-! ### Has -/
def K38 : List Bool := [false, true, false, false, true, true, true, false, false]
def L38 (n : Int) (c : AV) (len i : Int) : List AV := [.junk, .v (.int .i64 n), .junk, .junk, c, .v (.int .i64 len), .v (.int .i64 i), .junk, .junk]
theorem has_loop {K : Nat} {c : AV} {es : List AV} (hs : Sl 1 c es) (hm : es.length ≤ 1000000) (n : Int) :
    ∀ (l : List Int) (i : Nat) (h : List AO) (vars : List AV), i + l.length = es.length → es.drop i = l.map iv → clr K38 vars = L38 n c es.length i →
      (l.contains n = true ∧ ∃ vs, loopN (exec (callW F) K c38_7) K38 (l.length + 1) vars h = some (.ret, vs, h) ∧ getO vs [] (.var 2) = .v (.bool true)) ∨ (l.contains n = false ∧ ∃ vs, loopN (exec (callW F) K c38_7) K38 (l.length + 1) vars h = some (.exit 0, vs, h) ∧ vs.length = 9) := by
  intro l
  induction l with
  | nil =>
    intro i h vars hi _ hv
    have hil : i = es.length := by simpa using hi
    subst hil
    have hlt : decide ((es.length : Int) < (es.length : Int)) = false := by simp
    refine .inr ⟨rfl, [.junk, .v (.int .i64 n), .junk, .junk, c, .v (.int .i64 es.length), .v (.int .i64 es.length), .v (.bool false), .junk], loop_exit ?_, rfl⟩
    rw [hv]
    simp only [L38, c38_7, c38_2, hlt, e_bslice1, e_bslice2, bs1, bs2, e_build, bdH_some, bd_nil, bd_cons, bd1, cl_agg, cl_int, toL, List.map_cons, List.map_nil, putAt, List.set_cons_zero, List.set_cons_succ, and_self, Nat.le_refl, app_get, app_set, g_agg, run_nil, run_cons, stp_plain, stp_guard, put_some, pass_eq, pick_tt, pick_ff, pick_tf, pick_ft, pick_u, reg_some, thn_normal, thn_exit, thn_ret, cnd_t, cnd_f, blk_normal, blk_ret, blk_exit, x_seq, x_region, x_cond, x_block, x_loop, x_ret, x_exit, x_skip, e_mov, e_pick, pk_t, pk_f, withH_some, e_box, bx_some, e_load, e_store, stH_some, e_nil, e_bin, e_eqv, eqH_f, eqH_t, e_un, e_fa, e_ia, ia_eq, nat_eq, natV_nat, e_len, lnH_some, e_extract, ex_0, ex_1, e_call0, e_call1, e_call2, e_call3, pc0_eq, pc1_some, pc2_some, pc3_some, fin_some, g_var0, g_vars, g_loc0, g_locs, g_int, g_bool, g_str, g_sl, s_none, s_zero, s_succ, AV.cl, evFa, evNil, evLoad, asEl, evBin, intBin, strBin, evUn, len_nil, len_slc, len_str, clr, List.length_nil, List.length_cons, List.getElem?_cons_zero, List.getElem?_cons_succ, Nat.reduceAdd, Nat.zero_add, Nat.add_zero, Nat.reduceLeDiff, Nat.reduceSub, ↓reduceIte, List.drop_succ_cons, List.drop_zero, List.take_succ_cons, List.take_zero, Bool.false_eq_true, List.nil_append, List.cons_append, Bool.not_true, Bool.not_false, cond_true, cond_false, bne, lv_ret, lv_normal, res1, res2, lv2_some, res_var, res_cell, lvf_v, lvf_slc, res1c, lvo1_some]
  | cons k l ih =>
    intro i h vars hi hes hv
    have hil : i < es.length := by simp at hi; omega
    have he : es[i]? = some (iv k) := by
      have : (es.drop i)[0]? = some (iv k) := by rw [hes]; rfl
      simpa using this
    have hd : es.drop (i + 1) = l.map iv := by
      have h2 := congrArg List.tail hes
      simpa using h2
    have hlt : (decide ((i : Int) < (es.length : Int))) = true := by simp; omega
    have q1 := hs.ia he
    by_cases hk : n = k
    · left
      subst hk
      have he : ((n == n) : Bool) = true := by simp
      refine ⟨by simp, [.junk, .v (.int .i64 n), .v (.bool true), .v (.int .i64 n), c, .v (.int .i64 es.length), .v (.int .i64 i), .v (.bool true), .v (.bool true)], loop_ret ?_, rfl⟩
      rw [hv]
      simp only [L38, iv, AV.cells, c38_7, c38_2, c38_3, c38_4, c38_5, hlt, he, q1, e_bslice1, e_bslice2, bs1, bs2, e_build, bdH_some, bd_nil, bd_cons, bd1, cl_agg, cl_int, toL, List.map_cons, List.map_nil, putAt, List.set_cons_zero, List.set_cons_succ, and_self, Nat.le_refl, app_get, app_set, g_agg, run_nil, run_cons, stp_plain, stp_guard, put_some, pass_eq, pick_tt, pick_ff, pick_tf, pick_ft, pick_u, reg_some, thn_normal, thn_exit, thn_ret, cnd_t, cnd_f, blk_normal, blk_ret, blk_exit, x_seq, x_region, x_cond, x_block, x_loop, x_ret, x_exit, x_skip, e_mov, e_pick, pk_t, pk_f, withH_some, e_box, bx_some, e_load, e_store, stH_some, e_nil, e_bin, e_eqv, eqH_f, eqH_t, e_un, e_fa, e_ia, ia_eq, nat_eq, natV_nat, e_len, lnH_some, e_extract, ex_0, ex_1, e_call0, e_call1, e_call2, e_call3, pc0_eq, pc1_some, pc2_some, pc3_some, fin_some, g_var0, g_vars, g_loc0, g_locs, g_int, g_bool, g_str, g_sl, s_none, s_zero, s_succ, AV.cl, evFa, evNil, evLoad, asEl, evBin, intBin, strBin, evUn, len_nil, len_slc, len_str, clr, List.length_nil, List.length_cons, List.getElem?_cons_zero, List.getElem?_cons_succ, Nat.reduceAdd, Nat.zero_add, Nat.add_zero, Nat.reduceLeDiff, Nat.reduceSub, ↓reduceIte, List.drop_succ_cons, List.drop_zero, List.take_succ_cons, List.take_zero, Bool.false_eq_true, List.nil_append, List.cons_append, Bool.not_true, Bool.not_false, cond_true, cond_false, bne, lv_ret, lv_normal, res1, res2, lv2_some, res_var, res_cell, lvf_v, lvf_slc, res1c, lvo1_some]
    · have he : ((k == n) : Bool) = false := by simpa using fun e => hk e.symm
      have st : exec (callW F) K c38_7 (L38 n c es.length i) h = some (.normal, [.junk, .v (.int .i64 n), .junk, .v (.int .i64 k), c, .v (.int .i64 es.length), .v (.int .i64 ((i + 1 : Nat) : Int)), .v (.bool true), .v (.bool false)], h) := by
        have : maxLen = 9223372036854775807 := rfl
        simp only [L38, iv, AV.cells, c38_7, c38_2, c38_3, c38_4, c38_6, hlt, he, wrap_succ hil (by omega), q1, e_bslice1, e_bslice2, bs1, bs2, e_build, bdH_some, bd_nil, bd_cons, bd1, cl_agg, cl_int, toL, List.map_cons, List.map_nil, putAt, List.set_cons_zero, List.set_cons_succ, and_self, Nat.le_refl, app_get, app_set, g_agg, run_nil, run_cons, stp_plain, stp_guard, put_some, pass_eq, pick_tt, pick_ff, pick_tf, pick_ft, pick_u, reg_some, thn_normal, thn_exit, thn_ret, cnd_t, cnd_f, blk_normal, blk_ret, blk_exit, x_seq, x_region, x_cond, x_block, x_loop, x_ret, x_exit, x_skip, e_mov, e_pick, pk_t, pk_f, withH_some, e_box, bx_some, e_load, e_store, stH_some, e_nil, e_bin, e_eqv, eqH_f, eqH_t, e_un, e_fa, e_ia, ia_eq, nat_eq, natV_nat, e_len, lnH_some, e_extract, ex_0, ex_1, e_call0, e_call1, e_call2, e_call3, pc0_eq, pc1_some, pc2_some, pc3_some, fin_some, g_var0, g_vars, g_loc0, g_locs, g_int, g_bool, g_str, g_sl, s_none, s_zero, s_succ, AV.cl, evFa, evNil, evLoad, asEl, evBin, intBin, strBin, evUn, len_nil, len_slc, len_str, clr, List.length_nil, List.length_cons, List.getElem?_cons_zero, List.getElem?_cons_succ, Nat.reduceAdd, Nat.zero_add, Nat.add_zero, Nat.reduceLeDiff, Nat.reduceSub, ↓reduceIte, List.drop_succ_cons, List.drop_zero, List.take_succ_cons, List.take_zero, Bool.false_eq_true, List.nil_append, List.cons_append, Bool.not_true, Bool.not_false, cond_true, cond_false, bne, lv_ret, lv_normal, res1, res2, lv2_some, res_var, res_cell, lvf_v, lvf_slc, res1c, lvo1_some]
      rw [show (k :: l).length + 1 = (l.length + 1) + 1 from rfl, loop_normal (by rw [hv]; exact st)]
      have hc : (k :: l).contains n = l.contains n := by
        have : (n == k) = false := by simpa using hk
        rw [List.contains_cons, this, Bool.false_or]
      rw [hc]
      exact ih (i + 1) h _ (by simp at hi; omega) hd rfl
theorem has_ok {c : AV} {ns : List Int} (hs : Sl 1 c (ns.map iv)) (hm : ns.length ≤ 1000000) (n : Int) : callW F 38 [c, .v (.int .i64 n)] [] = some (.v (.bool (ns.contains n)), []) := by
  refine callW_pure (c := c38) rfl rfl (ns.length + 1) ?_
  have key := has_loop (K := ns.length + 1) hs (by simpa using hm) n ns 0 [] (L38 n c (ns.map iv).length (0 : Nat)) (by simp) rfl rfl
  show lv [.var 2] (exec (callW F) (ns.length + 1) (.seq (.region [] [] c38_0) (.seq (.seq (.region [] [] c38_1) (.block 0 (.loop K38 [] c38_7))) (.seq (.region [] [] c38_8) .ret))) _ _) = _
  generalize hrest : (CC.seq (.region [] [] c38_8) .ret) = rest
  simp only [c38, start, List.replicate, c38_0, c38_1, hs.len, e_bslice1, e_bslice2, bs1, bs2, e_build, bdH_some, bd_nil, bd_cons, bd1, cl_agg, cl_int, toL, List.map_cons, List.map_nil, putAt, List.set_cons_zero, List.set_cons_succ, and_self, Nat.le_refl, app_get, app_set, g_agg, run_nil, run_cons, stp_plain, stp_guard, put_some, pass_eq, pick_tt, pick_ff, pick_tf, pick_ft, pick_u, reg_some, thn_normal, thn_exit, thn_ret, cnd_t, cnd_f, blk_normal, blk_ret, blk_exit, x_seq, x_region, x_cond, x_block, x_loop, x_ret, x_exit, x_skip, e_mov, e_pick, pk_t, pk_f, withH_some, e_box, bx_some, e_load, e_store, stH_some, e_nil, e_bin, e_eqv, eqH_f, eqH_t, e_un, e_fa, e_ia, ia_eq, nat_eq, natV_nat, e_len, lnH_some, e_extract, ex_0, ex_1, e_call0, e_call1, e_call2, e_call3, pc0_eq, pc1_some, pc2_some, pc3_some, fin_some, g_var0, g_vars, g_loc0, g_locs, g_int, g_bool, g_str, g_sl, s_none, s_zero, s_succ, AV.cl, evFa, evNil, evLoad, asEl, evBin, intBin, strBin, evUn, len_nil, len_slc, len_str, clr, List.length_nil, List.length_cons, List.getElem?_cons_zero, List.getElem?_cons_succ, Nat.reduceAdd, Nat.zero_add, Nat.add_zero, Nat.reduceLeDiff, Nat.reduceSub, ↓reduceIte, List.drop_succ_cons, List.drop_zero, List.take_succ_cons, List.take_zero, Bool.false_eq_true, List.nil_append, List.cons_append, Bool.not_true, Bool.not_false, cond_true, cond_false, bne, lv_ret, lv_normal, res1, res2, lv2_some, res_var, res_cell, lvf_v, lvf_slc, res1c, lvo1_some]
  rw [loop_cong (v2 := L38 n c (ns.map iv).length ((0 : Nat) : Int)) (by rfl)]
  rcases key with ⟨h0, vs, h1, h2⟩ | ⟨h0, vs, h1, h2⟩
  · rw [h1, h0]
    simp only [blk_ret, thn_ret, h2, run_nil, run_cons, stp_plain, stp_guard, put_some, pass_eq, pick_tt, pick_ff, pick_tf, pick_ft, pick_u, reg_some, thn_normal, thn_exit, thn_ret, cnd_t, cnd_f, blk_normal, blk_ret, blk_exit, x_seq, x_region, x_cond, x_block, x_loop, x_ret, x_exit, x_skip, e_mov, e_pick, pk_t, pk_f, withH_some, e_box, bx_some, e_load, e_store, stH_some, e_nil, e_bin, e_eqv, eqH_f, eqH_t, e_un, e_fa, e_ia, ia_eq, nat_eq, natV_nat, e_len, lnH_some, e_extract, ex_0, ex_1, e_call0, e_call1, e_call2, e_call3, pc0_eq, pc1_some, pc2_some, pc3_some, fin_some, g_var0, g_vars, g_loc0, g_locs, g_int, g_bool, g_str, g_sl, s_none, s_zero, s_succ, AV.cl, evFa, evNil, evLoad, asEl, evBin, intBin, strBin, evUn, len_nil, len_slc, len_str, clr, List.length_nil, List.length_cons, List.getElem?_cons_zero, List.getElem?_cons_succ, Nat.reduceAdd, Nat.zero_add, Nat.add_zero, Nat.reduceLeDiff, Nat.reduceSub, ↓reduceIte, List.drop_succ_cons, List.drop_zero, List.take_succ_cons, List.take_zero, Bool.false_eq_true, List.nil_append, List.cons_append, Bool.not_true, Bool.not_false, cond_true, cond_false, bne, lv_ret, lv_normal, res1, res2, lv2_some, res_var, res_cell, lvf_v, lvf_slc, res1c, lvo1_some]
  · rw [h1, h0, ← hrest]
    match vs, h2 with
    | [a0, a1, a2, a3, a4, a5, a6, a7, a8], _ => simp only [c38_8, run_nil, run_cons, stp_plain, stp_guard, put_some, pass_eq, pick_tt, pick_ff, pick_tf, pick_ft, pick_u, reg_some, thn_normal, thn_exit, thn_ret, cnd_t, cnd_f, blk_normal, blk_ret, blk_exit, x_seq, x_region, x_cond, x_block, x_loop, x_ret, x_exit, x_skip, e_mov, e_pick, pk_t, pk_f, withH_some, e_box, bx_some, e_load, e_store, stH_some, e_nil, e_bin, e_eqv, eqH_f, eqH_t, e_un, e_fa, e_ia, ia_eq, nat_eq, natV_nat, e_len, lnH_some, e_extract, ex_0, ex_1, e_call0, e_call1, e_call2, e_call3, pc0_eq, pc1_some, pc2_some, pc3_some, fin_some, g_var0, g_vars, g_loc0, g_locs, g_int, g_bool, g_str, g_sl, s_none, s_zero, s_succ, AV.cl, evFa, evNil, evLoad, asEl, evBin, intBin, strBin, evUn, len_nil, len_slc, len_str, clr, List.length_nil, List.length_cons, List.getElem?_cons_zero, List.getElem?_cons_succ, Nat.reduceAdd, Nat.zero_add, Nat.add_zero, Nat.reduceLeDiff, Nat.reduceSub, ↓reduceIte, List.drop_succ_cons, List.drop_zero, List.take_succ_cons, List.take_zero, Bool.false_eq_true, List.nil_append, List.cons_append, Bool.not_true, Bool.not_false, cond_true, cond_false, bne, lv_ret, lv_normal, res1, res2, lv2_some, res_var, res_cell, lvf_v, lvf_slc, res1c, lvo1_some]

/-! ### The places -/
def K37 : List Bool := [false, false, false, true, false, false, true, true, true, false]
def L37 (acc c : AV) (len i : Int) : List AV := [.junk, .junk, .junk, acc, .junk, .junk, c, .v (.int .i64 len), .v (.int .i64 i), .junk]
theorem places_loop {K : Nat} {c : AV} {es : List AV} (hs : Sl 4 c es) (hm : es.length ≤ 100000) :
    ∀ (l : List Tm) (i : Nat) (acc : AV) (p : List Int) (h : List AO) (vars : List AV), i + l.length = es.length → p.length + sizeL l ≤ 1000000 → All2 (es.drop i) l → (∀ t ∈ l, ∀ (e : AV), IsT e t → ∃ r, Sl 1 r ((placesT t).map iv) ∧ callW F 37 [e] [] = some (r, [])) →
      Acc 1 h acc (p.map iv) → clr K37 vars = L37 acc c es.length i →
      ∃ acc' h' x4 x5 x9, loopN (exec (callW F) K c37_9) K37 (l.length + 1) vars h = some (.exit 0, [.junk, .junk, .junk, acc', x4, x5, c, .v (.int .i64 es.length), .v (.int .i64 es.length), x9], h') ∧ Acc 1 h' acc' ((p ++ placesL l).map iv) := by
  intro l
  induction l with
  | nil =>
    intro i acc p h vars hi hp _ _ ha hv
    have hil : i = es.length := by simpa using hi
    subst hil
    have hlt : decide ((es.length : Int) < (es.length : Int)) = false := by simp
    refine ⟨acc, h, .junk, .junk, .v (.bool false), loop_exit ?_, by simpa [placesL] using ha⟩
    rw [hv]
    simp only [L37, c37_9, c37_5, hlt, e_bslice1, e_bslice2, bs1, bs2, e_build, bdH_some, bd_nil, bd_cons, bd1, cl_agg, cl_int, toL, List.map_cons, List.map_nil, putAt, List.set_cons_zero, List.set_cons_succ, and_self, Nat.le_refl, app_get, app_set, g_agg, run_nil, run_cons, stp_plain, stp_guard, put_some, pass_eq, pick_tt, pick_ff, pick_tf, pick_ft, pick_u, reg_some, thn_normal, thn_exit, thn_ret, cnd_t, cnd_f, blk_normal, blk_ret, blk_exit, x_seq, x_region, x_cond, x_block, x_loop, x_ret, x_exit, x_skip, e_mov, e_pick, pk_t, pk_f, withH_some, e_box, bx_some, e_load, e_store, stH_some, e_nil, e_bin, e_eqv, eqH_f, eqH_t, e_un, e_fa, e_ia, ia_eq, nat_eq, natV_nat, e_len, lnH_some, e_extract, ex_0, ex_1, e_call0, e_call1, e_call2, e_call3, pc0_eq, pc1_some, pc2_some, pc3_some, fin_some, g_var0, g_vars, g_loc0, g_locs, g_int, g_bool, g_str, g_sl, s_none, s_zero, s_succ, cl_nil, cl_str, cl_bool, cl_slc, cl_own, evFa, evNil, asEl, evBin, intBin, strBin, evUn, len_nil, len_slc, len_str, clr, List.length_nil, List.length_cons, List.getElem?_cons_zero, List.getElem?_cons_succ, Nat.reduceAdd, Nat.zero_add, Nat.add_zero, Nat.reduceLeDiff, Nat.reduceSub, ↓reduceIte, List.drop_succ_cons, List.drop_zero, List.take_succ_cons, List.take_zero, Bool.false_eq_true, List.nil_append, List.cons_append, Bool.not_true, Bool.not_false, cond_true, cond_false, bne, lv_ret, lv_normal, res1, res2, lv2_some, res_var, res_cell, lvf_v, lvf_slc, res1c, lvo1_some]
  | cons t l ih =>
    intro i acc p h vars hi hp hes hcall ha hv
    have hil : i < es.length := by simp at hi; omega
    have he : es[i]? = some (es[i]'hil) := List.getElem?_eq_getElem _
    have hd : es.drop i = es[i] :: es.drop (i + 1) := List.drop_eq_getElem_cons hil
    rw [hd] at hes
    generalize es[i]'hil = e at hes he
    cases hes with
    | cons _ _ _ _ hT hs' =>
    obtain ⟨r, hr, hc⟩ := hcall t (by simp) _ hT
    have hpl := places_len t
    simp only [sizeL] at hp
    obtain ⟨acc', h2, h3, h4, h5⟩ := (ha.app (.box e.cells)).add (x := r) (bytes := 8) (hr.elems _) (by
      have : room = 140737488355328 := rfl
      simp only [fits, List.length_map, decide_eq_true_eq]; omega)
    have hlt : (decide ((i : Int) < (es.length : Int))) = true := by simp; omega
    have q1 := hs.ia he
    have q3 : ∀ h : List AO, evLoad h true 4 (.ip e.cells) = some e := fun h => hT.load
    have q5 : ∀ h : List AO, e.snap1 h = some e := fun h => hT.snap
    have st : exec (callW F) K c37_9 (L37 acc c es.length i) h = some (.normal, [.junk, .junk, .junk, acc', .ptr h.length 0, .junk, c, .v (.int .i64 es.length), .v (.int .i64 ((i + 1 : Nat) : Int)), .v (.bool true)], h2) := by
      have hz : ([.v (.int .i64 0), .v (.string ⟨#[]⟩), .v (.int .i64 0), .v (.slice none 0 0)] : List AV).length = 4 := rfl
      simp only [L37, c37_9, c37_5, c37_6, c37_7, c37_8, hlt, wrap_succ hil (small_max hm), q1, q3, q5, hc, h3, hT.st _ _ hz, hT.ld, q9z, e_append, e_bslice1, e_bslice2, bs1, bs2, e_build, bdH_some, bd_nil, bd_cons, bd1, cl_agg, cl_int, toL, List.map_cons, List.map_nil, putAt, List.set_cons_zero, List.set_cons_succ, and_self, Nat.le_refl, app_get, app_set, g_agg, run_nil, run_cons, stp_plain, stp_guard, put_some, pass_eq, pick_tt, pick_ff, pick_tf, pick_ft, pick_u, reg_some, thn_normal, thn_exit, thn_ret, cnd_t, cnd_f, blk_normal, blk_ret, blk_exit, x_seq, x_region, x_cond, x_block, x_loop, x_ret, x_exit, x_skip, e_mov, e_pick, pk_t, pk_f, withH_some, e_box, bx_some, e_load, e_store, stH_some, e_nil, e_bin, e_eqv, eqH_f, eqH_t, e_un, e_fa, e_ia, ia_eq, nat_eq, natV_nat, e_len, lnH_some, e_extract, ex_0, ex_1, e_call0, e_call1, e_call2, e_call3, pc0_eq, pc1_some, pc2_some, pc3_some, fin_some, g_var0, g_vars, g_loc0, g_locs, g_int, g_bool, g_str, g_sl, s_none, s_zero, s_succ, cl_nil, cl_str, cl_bool, cl_slc, cl_own, evFa, evNil, asEl, evBin, intBin, strBin, evUn, len_nil, len_slc, len_str, clr, List.length_nil, List.length_cons, List.getElem?_cons_zero, List.getElem?_cons_succ, Nat.reduceAdd, Nat.zero_add, Nat.add_zero, Nat.reduceLeDiff, Nat.reduceSub, ↓reduceIte, List.drop_succ_cons, List.drop_zero, List.take_succ_cons, List.take_zero, Bool.false_eq_true, List.nil_append, List.cons_append, Bool.not_true, Bool.not_false, cond_true, cond_false, bne, lv_ret, lv_normal, res1, res2, lv2_some, res_var, res_cell, lvf_v, lvf_slc, res1c, lvo1_some]
    rw [show (t :: l).length + 1 = (l.length + 1) + 1 from rfl, loop_normal (by rw [hv]; exact st)]
    rw [← List.map_append] at h4
    obtain ⟨acc'', h', x4, x5, x9, g1, g2⟩ := ih (i + 1) acc' (p ++ placesT t) h2 [.junk, .junk, .junk, acc', .ptr h.length 0, .junk, c, .v (.int .i64 es.length), .v (.int .i64 ((i + 1 : Nat) : Int)), .v (.bool true)] (by simp at hi; omega) (by rw [List.length_append]; omega) hs' (fun t ht => hcall t (by simp [ht])) h4 rfl
    refine ⟨acc'', h', x4, x5, x9, g1, ?_⟩
    rw [placesL, ← List.append_assoc]
    exact g2

theorem places_ok : ∀ (N : Nat) (t : Tm) (a : AV), SizeOf.sizeOf t < N → size t ≤ 100000 → IsT a t → ∃ r, Sl 1 r ((placesT t).map iv) ∧ callW F 37 [a] [] = some (r, []) := by
  intro N
  induction N with
  | zero => intro t a h; omega
  | succ N ih =>
    intro t a hN hsz ha
    cases ha with
    | mk k s n c l hc =>
    have h5 := Tm.mk.sizeOf_spec k s n l
    simp only [size] at hsz
    have hll := sizeL_len l
    have hcall : ∀ t ∈ l, ∀ (e : AV), IsT e t → ∃ r, Sl 1 r ((placesT t).map iv) ∧ callW F 37 [e] [] = some (r, []) := by
      intro t ht e hT
      have h6 := List.sizeOf_lt_of_mem ht
      have h7 := size_mem ht
      exact ih t e (by omega) (by omega) hT
    obtain ⟨es, hs, hes, hm⟩ := hc.sl
    have e1 := hes.length
    have key : ∀ (p : List Int) (acc : AV) (h : List AO), p.length ≤ 10 → Acc 1 h acc (p.map iv) → ∃ acc' h' x4 x5 x9, loopN (exec (callW F) (l.length + 1) c37_9) K37 (l.length + 1) (L37 acc c es.length (0 : Nat)) h = some (.exit 0, [.junk, .junk, .junk, acc', x4, x5, c, .v (.int .i64 es.length), .v (.int .i64 es.length), x9], h') ∧ Acc 1 h' acc' ((p ++ placesL l).map iv) :=
      fun p acc h hp ha => places_loop (K := l.length + 1) hs (by omega) l 0 acc p h (L37 acc c es.length (0 : Nat)) (by omega) (by omega) (by simpa using hes) hcall ha rfl
    by_cases hk : k = 1
    · have h1 : (k == 1) = true := by simpa using hk
      have hap : evAppend [.box [.v (.int .i64 k), .v (.string s), .v (.int .i64 n), c]] 1 8 (.v (.slice none 0 0)) (.slc 1 true true [.v (.int .i64 n)]) = some (.own 1 1 0 0 1, [.box [.v (.int .i64 k), .v (.string s), .v (.int .i64 n), c], .row 1 0 [.v (.int .i64 n)] 0]) := ap_new (h := [.box [.v (.int .i64 k), .v (.string s), .v (.int .i64 n), c]]) (by simp) (by simp only [List.length_cons, List.length_nil]; decide)
      obtain ⟨acc', h', x4, x5, x9, g1, g2⟩ := key [n] (.own 1 1 0 0 1) [.box [.v (.int .i64 k), .v (.string s), .v (.int .i64 n), c], .row 1 0 [.v (.int .i64 n)] 0] (by simp) (.own 1 0 0 [.v (.int .i64 n)] rfl (by simp) (by simp))
      obtain ⟨r, g3, g4⟩ := g2.lvf
      refine ⟨r, by rw [placesT, if_pos hk]; exact g4, callW_pure (c := c37) rfl rfl (l.length + 1) ?_⟩
      show lv [.var 2] (exec (callW F) (l.length + 1) (.seq (.region [] [] c37_0) (.seq (.region [] [] c37_1) (.seq (.seq (.region [] [] c37_2) (.cond (.var 5) (.region [] [] c37_3) .skip)) (.seq (.seq (.region [] [] c37_4) (.block 0 (.loop K37 [] c37_9))) (.seq (.region [] [] c37_10) .ret))))) _ _) = _
      generalize hrest : (CC.seq (.region [] [] c37_10) .ret) = rest
      simp only [c37, start, List.replicate, c37_0, c37_1, c37_2, c37_3, c37_4, h1, hs.len, hap, snapv, bs1_some (y := .v (.int .i64 n)) (sz := 1) cl_int rfl, e_append, q9z, evStore, e_bslice1, e_bslice2, bs1, bs2, e_build, bdH_some, bd_nil, bd_cons, bd1, cl_agg, cl_int, toL, List.map_cons, List.map_nil, putAt, List.set_cons_zero, List.set_cons_succ, and_self, Nat.le_refl, evStore, app_get, app_set, g_agg, run_nil, run_cons, stp_plain, stp_guard, put_some, pass_eq, pick_tt, pick_ff, pick_tf, pick_ft, pick_u, reg_some, thn_normal, thn_exit, thn_ret, cnd_t, cnd_f, blk_normal, blk_ret, blk_exit, x_seq, x_region, x_cond, x_block, x_loop, x_ret, x_exit, x_skip, e_mov, e_pick, pk_t, pk_f, withH_some, e_box, bx_some, e_load, e_store, stH_some, e_nil, e_bin, e_eqv, eqH_f, eqH_t, e_un, e_fa, e_ia, ia_eq, nat_eq, natV_nat, e_len, lnH_some, e_extract, ex_0, ex_1, e_call0, e_call1, e_call2, e_call3, pc0_eq, pc1_some, pc2_some, pc3_some, fin_some, g_var0, g_vars, g_loc0, g_locs, g_int, g_bool, g_str, g_sl, s_none, s_zero, s_succ, cl_nil, cl_str, cl_bool, cl_slc, cl_own, evFa, evNil, evLoad, asEl, evBin, intBin, strBin, evUn, len_nil, len_slc, len_str, clr, List.length_nil, List.length_cons, List.getElem?_cons_zero, List.getElem?_cons_succ, Nat.reduceAdd, Nat.zero_add, Nat.add_zero, Nat.reduceLeDiff, Nat.reduceSub, ↓reduceIte, List.drop_succ_cons, List.drop_zero, List.take_succ_cons, List.take_zero, Bool.false_eq_true, List.nil_append, List.cons_append, Bool.not_true, Bool.not_false, cond_true, cond_false, bne, lv_ret, lv_normal, res1, res2, lv2_some, res_var, res_cell, lvf_v, lvf_slc, res1c, lvo1_some]
      rw [loop_cong (v2 := L37 (.own 1 1 0 0 1) c es.length ((0 : Nat) : Int)) (by rfl), g1, ← hrest]
      simp only [blk_exit, thn_normal, c37_10, g3, run_nil, run_cons, stp_plain, stp_guard, put_some, pass_eq, pick_tt, pick_ff, pick_tf, pick_ft, pick_u, reg_some, thn_normal, thn_exit, thn_ret, cnd_t, cnd_f, blk_normal, blk_ret, blk_exit, x_seq, x_region, x_cond, x_block, x_loop, x_ret, x_exit, x_skip, e_mov, e_pick, pk_t, pk_f, withH_some, e_box, bx_some, e_load, e_store, stH_some, e_nil, e_bin, e_eqv, eqH_f, eqH_t, e_un, e_fa, e_ia, ia_eq, nat_eq, natV_nat, e_len, lnH_some, e_extract, ex_0, ex_1, e_call0, e_call1, e_call2, e_call3, pc0_eq, pc1_some, pc2_some, pc3_some, fin_some, g_var0, g_vars, g_loc0, g_locs, g_int, g_bool, g_str, g_sl, s_none, s_zero, s_succ, cl_nil, cl_str, cl_bool, cl_slc, cl_own, evFa, evNil, asEl, evBin, intBin, strBin, evUn, len_nil, len_slc, len_str, clr, List.length_nil, List.length_cons, List.getElem?_cons_zero, List.getElem?_cons_succ, Nat.reduceAdd, Nat.zero_add, Nat.add_zero, Nat.reduceLeDiff, Nat.reduceSub, ↓reduceIte, List.drop_succ_cons, List.drop_zero, List.take_succ_cons, List.take_zero, Bool.false_eq_true, List.nil_append, List.cons_append, Bool.not_true, Bool.not_false, cond_true, cond_false, bne, lv_ret, lv_normal, res1, res2, lv2_some, res_var, res_cell, lvf_v, lvf_slc, res1c, lvo1_some]
    · have h1 : (k == 1) = false := by simpa using hk
      obtain ⟨acc', h', x4, x5, x9, g1, g2⟩ := key [] (.v (.slice none 0 0)) [.box [.v (.int .i64 k), .v (.string s), .v (.int .i64 n), c]] (by simp) .nil
      obtain ⟨r, g3, g4⟩ := g2.lvf
      refine ⟨r, by rw [placesT, if_neg hk]; exact g4, callW_pure (c := c37) rfl rfl (l.length + 1) ?_⟩
      show lv [.var 2] (exec (callW F) (l.length + 1) (.seq (.region [] [] c37_0) (.seq (.region [] [] c37_1) (.seq (.seq (.region [] [] c37_2) (.cond (.var 5) (.region [] [] c37_3) .skip)) (.seq (.seq (.region [] [] c37_4) (.block 0 (.loop K37 [] c37_9))) (.seq (.region [] [] c37_10) .ret))))) _ _) = _
      generalize hrest : (CC.seq (.region [] [] c37_10) .ret) = rest
      simp only [c37, start, List.replicate, c37_0, c37_1, c37_2, c37_4, h1, hs.len, evStore, e_bslice1, e_bslice2, bs1, bs2, e_build, bdH_some, bd_nil, bd_cons, bd1, cl_agg, cl_int, toL, List.map_cons, List.map_nil, putAt, List.set_cons_zero, List.set_cons_succ, and_self, Nat.le_refl, evStore, app_get, app_set, g_agg, run_nil, run_cons, stp_plain, stp_guard, put_some, pass_eq, pick_tt, pick_ff, pick_tf, pick_ft, pick_u, reg_some, thn_normal, thn_exit, thn_ret, cnd_t, cnd_f, blk_normal, blk_ret, blk_exit, x_seq, x_region, x_cond, x_block, x_loop, x_ret, x_exit, x_skip, e_mov, e_pick, pk_t, pk_f, withH_some, e_box, bx_some, e_load, e_store, stH_some, e_nil, e_bin, e_eqv, eqH_f, eqH_t, e_un, e_fa, e_ia, ia_eq, nat_eq, natV_nat, e_len, lnH_some, e_extract, ex_0, ex_1, e_call0, e_call1, e_call2, e_call3, pc0_eq, pc1_some, pc2_some, pc3_some, fin_some, g_var0, g_vars, g_loc0, g_locs, g_int, g_bool, g_str, g_sl, s_none, s_zero, s_succ, cl_nil, cl_str, cl_bool, cl_slc, cl_own, evFa, evNil, evLoad, asEl, evBin, intBin, strBin, evUn, len_nil, len_slc, len_str, clr, List.length_nil, List.length_cons, List.getElem?_cons_zero, List.getElem?_cons_succ, Nat.reduceAdd, Nat.zero_add, Nat.add_zero, Nat.reduceLeDiff, Nat.reduceSub, ↓reduceIte, List.drop_succ_cons, List.drop_zero, List.take_succ_cons, List.take_zero, Bool.false_eq_true, List.nil_append, List.cons_append, Bool.not_true, Bool.not_false, cond_true, cond_false, bne, lv_ret, lv_normal, res1, res2, lv2_some, res_var, res_cell, lvf_v, lvf_slc, res1c, lvo1_some]
      rw [loop_cong (v2 := L37 (.v (.slice none 0 0)) c es.length ((0 : Nat) : Int)) (by rfl), g1, ← hrest]
      simp only [blk_exit, thn_normal, c37_10, g3, run_nil, run_cons, stp_plain, stp_guard, put_some, pass_eq, pick_tt, pick_ff, pick_tf, pick_ft, pick_u, reg_some, thn_normal, thn_exit, thn_ret, cnd_t, cnd_f, blk_normal, blk_ret, blk_exit, x_seq, x_region, x_cond, x_block, x_loop, x_ret, x_exit, x_skip, e_mov, e_pick, pk_t, pk_f, withH_some, e_box, bx_some, e_load, e_store, stH_some, e_nil, e_bin, e_eqv, eqH_f, eqH_t, e_un, e_fa, e_ia, ia_eq, nat_eq, natV_nat, e_len, lnH_some, e_extract, ex_0, ex_1, e_call0, e_call1, e_call2, e_call3, pc0_eq, pc1_some, pc2_some, pc3_some, fin_some, g_var0, g_vars, g_loc0, g_locs, g_int, g_bool, g_str, g_sl, s_none, s_zero, s_succ, cl_nil, cl_str, cl_bool, cl_slc, cl_own, evFa, evNil, asEl, evBin, intBin, strBin, evUn, len_nil, len_slc, len_str, clr, List.length_nil, List.length_cons, List.getElem?_cons_zero, List.getElem?_cons_succ, Nat.reduceAdd, Nat.zero_add, Nat.add_zero, Nat.reduceLeDiff, Nat.reduceSub, ↓reduceIte, List.drop_succ_cons, List.drop_zero, List.take_succ_cons, List.take_zero, Bool.false_eq_true, List.nil_append, List.cons_append, Bool.not_true, Bool.not_false, cond_true, cond_false, bne, lv_ret, lv_normal, res1, res2, lv2_some, res_var, res_cell, lvf_v, lvf_slc, res1c, lvo1_some]

/-! ### Vars -/
def addNew (p : List Int) (n : Int) : List Int := if p.contains n then p else p ++ [n]
def varsT (t : Tm) : List Int := (placesT t).foldl addNew []
def K19 : List Bool := [false, false, false, true, false, true, true, true, false, false]
def L19 (acc c : AV) (len i : Int) : List AV := [.junk, .junk, .junk, acc, .junk, c, .v (.int .i64 len), .v (.int .i64 i), .junk, .junk]
end Go.AE.Ytpgoibncgekflaa
end
